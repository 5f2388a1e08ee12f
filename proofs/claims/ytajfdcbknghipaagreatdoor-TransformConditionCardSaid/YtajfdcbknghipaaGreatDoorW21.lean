/- The law TransformCondition of the package credencelaw23 answers true at every input and leaves its arguments as they were (Rows.TransformConditionCardSaid); no condition beyond the card's own: the three listed tables stand as the program's text lays them. Part 21 of 25. -/
import Derived.KernelRfl
import Derived.Test.YtajfdcbknghipaaGreatDoorW20
import Derived.Test.YtajfdcbknghipaaGreatDoorW04
import Derived.Test.YtajfdcbknghipaaGreatDoorProg

section
/- The reference's Valid. Conditions on memory as stated. -/
namespace Go.Proofs.YtajfdcbknghipaaGreatDoor
open Go Go.Sh Go.Fm Go.RowKit

variable {w : World} {B : Nat}

theorem rvalid_ok {p : Option Addr} {c : Nat} {f : List FNode} (h : FormM B w p f) (hs : f.length ≤ 200) (hi : ∀ x ∈ f, x.ins.length ≤ 200) :
    CallsF Tryz.prog 12 #[.agg #[.slice p f.length c]] w (Ret (.bool (vf f)) NoB w) := by
  refine C_credenceref22_Valid _ _ _ _ _ ?_
  refine Br_false (by rw [decide_eq_false_iff_not]; omega) ?_
  intro w1 hw1
  refine ⟨fun m vs w' => ∃ i : Nat, m = f.length - i ∧ i ≤ f.length ∧ vs = [.int .i64 (totalI (f.take i)), .bool false, .int .i64 i] ∧ (∀ j x, j < i → f[j]? = some x → vnode j x = true) ∧ Mod NoB w w', ⟨_, 0, rfl, Nat.zero_le _, rfl, fun j x hj => by omega, hw1.mod⟩, ?_⟩
  rintro m t' b' i' w2 ⟨i, rfl, hil, hvs, hprev, hm2⟩
  simp only [List.cons.injEq, Value.int.injEq, Value.bool.injEq, true_and, and_true] at hvs
  obtain ⟨rfl, rfl, rfl⟩ := hvs
  refine Br_dec (fun hlt => ?_) fun hge => ?_
  rotate_left
  · refine ⟨ret_bool ?_, hm2⟩
    rw [eq_comm, vf_iff]
    intro j x hj
    exact hprev j x (by have := (List.getElem?_eq_some_iff.1 hj).1; omega) hj
  have hi' : i < f.length := by omega
  have hx : f[i]? = some f[i] := List.getElem?_eq_getElem hi'
  have hxi := hi _ (List.getElem_mem hi')
  have hxm : f[i] ∈ f := List.getElem_mem hi'
  have htk : f.take (i + 1) = f.take i ++ [f[i]] := List.take_succ_eq_append_getElem hi'
  generalize f[i] = x at hx hxi hxm htk
  have hform := h.same hm2
  obtain ⟨a, hpa, hc⟩ := hform.node hx
  have htot := totalI_le (f.take i) 200 fun y hy => hi y (List.mem_of_mem_take hy)
  have htl : (f.take i).length ≤ 200 := by rw [List.length_take]; omega
  have htot2 : (f.take i).length * 200 ≤ 200 * 200 := Nat.mul_le_mul_right _ htl
  have hwt : IntKind.i64.wrap (33554432 - (totalI (f.take i) : Int)) = 33554432 - (totalI (f.take i) : Int) := wrap_i64 (by omega) (by omega)
  rw [hwt]
  refine optP_intro hpa ⟨⟨by omega, by omega⟩, _, _, _, _, _, _, by rw [Int.toNat_natCast]; exact hc, ?_⟩
  refine Br_false (by rw [decide_eq_false_iff_not]; omega) ?_
  intro w3 hw3
  have hb3 := hw3.blk 0 rfl
  have hm3 := hm2.then hw3.mod
  have RF : ∀ w', Mod NoB w w' → vnode i x = false → Ret (.bool (vf f)) NoB w (Ending.returned (.bool false)) w' := fun w' hm hv => ⟨ret_bool (vf_false hx hv), hm⟩
  refine ⟨fun m vs w' => ∃ k : Nat, m = x.ins.length - k ∧ k ≤ x.ins.length ∧ vs = [.bool false, .int .i64 k] ∧ (∀ u ∈ x.ins.take k, 0 ≤ u ∧ u < i) ∧ Mod NoB w3 w', ⟨_, 0, rfl, Nat.zero_le _, rfl, fun u hu => by simp at hu, Mod.refl _ _⟩, ?_⟩
  rintro m b1 k' w4 ⟨k, rfl, hk, hvs, hins, hm4⟩
  simp only [List.cons.injEq, Value.int.injEq, Value.bool.injEq, true_and, and_true] at hvs
  obtain ⟨rfl, rfl⟩ := hvs
  have hm04 := hm3.then hm4
  refine Br_dec (fun hlt2 => ?_) fun hge2 => ?_
  · have hk' : k < x.ins.length := by omega
    have hu : x.ins[k]? = some x.ins[k] := List.getElem?_eq_getElem hk'
    have htk2 : x.ins.take (k + 1) = x.ins.take k ++ [x.ins[k]] := List.take_succ_eq_append_getElem hk'
    generalize x.ins[k] = u at hu htk2
    obtain ⟨ap, hap, hcp⟩ := ((h.same hm04).ins x hxm).row.at (i := k) (v := .int .i64 u) (by rw [ints_get, hu]; rfl)
    refine optP_intro hap ⟨⟨by omega, by omega⟩, u, by rw [Int.toNat_natCast, Nat.mul_one]; exact hcp, ?_⟩
    intro J hJ
    have bad : ¬ (0 ≤ u ∧ u < i) → J [.bool true] w4 := fun hbad => hJ _ _ (Br_true rfl (RF _ hm04 (by unfold vnode; rw [insOK_false hu hbad, Bool.and_false])))
    refine Br_dec (fun hneg => bad (by omega)) fun hneg => ?_
    by_cases hui : u < i
    · have e : decide (u ≥ (i : Int)) = false := by rw [decide_eq_false_iff_not]; omega
      rw [e]
      refine hJ _ _ (Br_false rfl ⟨x.ins.length - (k + 1), by omega, k + 1, rfl, hk', by rw [wrap_i64 (by omega) (by omega)]; rfl, fun v hv => ?_, hm4⟩)
      rw [htk2] at hv
      rcases List.mem_append.1 hv with hv | hv
      · exact hins v hv
      · simp only [List.mem_singleton] at hv
        subst hv; exact ⟨by omega, hui⟩
    · have e : decide (u ≥ (i : Int)) = true := by rw [decide_eq_true_iff]; omega
      rw [e]
      exact bad (by omega)
  have hke : k = x.ins.length := by omega
  subst hke
  rw [List.take_length] at hins
  have hio : insOK i x.ins = true := by
    unfold insOK
    rw [List.all_eq_true]
    intro u hu
    exact decide_eq_true (hins u hu)
  have hvn : vnode i x = vform x.kind x.block x.alt x.ins.length := by unfold vnode; rw [hio, Bool.and_true]
  rw [hvn] at RF
  have hb4 := hb3.keep hm4 NoB.not
  have hlx : (totalI (f.take (i + 1))) = totalI (f.take i) + x.ins.length := by rw [htk, totalI_snoc]
  have NX : vform x.kind x.block x.alt x.ins.length = true → ∃ n', n' < f.length - i ∧ ∃ i_1 : Nat, n' = f.length - i_1 ∧ i_1 ≤ f.length ∧ ([Value.int .i64 (IntKind.i64.wrap ((totalI (f.take i) : Int) + (x.ins.length : Int))), .bool false, .int .i64 (IntKind.i64.wrap ((i : Int) + 1))] : List Value) = [.int .i64 (totalI (f.take i_1)), .bool false, .int .i64 i_1] ∧ (∀ j x, j < i_1 → f[j]? = some x → vnode j x = true) ∧ Mod NoB w w4 := by
    intro hv
    refine ⟨f.length - (i + 1), by omega, i + 1, rfl, hi', ?_, fun j y hj hy => ?_, hm04⟩
    · rw [wrap_i64 (by omega) (by omega), wrap_i64 (by omega) (by omega), hlx]
      simp
    · by_cases hji : j = i
      · subst hji
        rw [hx] at hy
        injection hy with hy
        subst hy
        rw [hvn]; exact hv
      · exact hprev j y (by omega) hy
  intro J1 hJ1
  have main : ∀ pb : Bool, pb = decide (x.block = 0 ∧ x.alt = 0) → J1 [.bool pb] w4 := by
    intro pb hpb
    refine hJ1 _ _ ⟨x.kind, hb4.cellAt 0 0, ?_⟩
    intro J2 hJ2
    have main2 : ∀ kb : Bool, kb = decide (x.kind = 0 ∨ x.kind = 1) → J2 [.bool kb] w4 := by
      intro kb hkb
      refine hJ2 _ _ ?_
      intro J3 hJ3
      -- the end of the round
      have okN : vform x.kind x.block x.alt x.ins.length = true → J3 [.bool false] w4 := fun hv => hJ3 _ _ (NX hv)
      refine Br_intro (fun ht => ?_) fun hf => ?_
      · have hk : x.kind = 0 ∨ x.kind = 1 := by rw [hkb] at ht; exact of_decide_eq_true ht
        have hvf : vform x.kind x.block x.alt x.ins.length = decide (x.block = 0 ∧ x.alt = 0 ∧ x.ins.length = 0) := by unfold vform; rw [if_pos hk]
        rw [hvf] at RF okN
        intro J4 hJ4
        refine Br_not (Br_intro (fun hp => ?_) fun hp => ?_)
        · have hpl := of_decide_eq_true (hpb ▸ hp)
          refine ⟨x.p, x.ins.length, x.c, hb4.cellAt 0 3, ?_⟩
          by_cases h0 : x.ins.length = 0
          · have e : (((x.ins.length : Nat) : Int) != 0) = false := by simp [h0]
            rw [e]
            exact hJ4 _ _ (Br_false rfl (okN (decide_eq_true ⟨hpl.1, hpl.2, h0⟩)))
          · have e : (((x.ins.length : Nat) : Int) != 0) = true := by simp; exact fun e => h0 (by rw [e]; rfl)
            rw [e]
            exact hJ4 _ _ (Br_true rfl (RF _ hm04 (decide_eq_false fun h' => h0 h'.2.2)))
        · have hpl := of_decide_eq_false (hpb ▸ hp)
          exact hJ4 _ _ (Br_true rfl (RF _ hm04 (decide_eq_false fun h' => hpl ⟨h'.1, h'.2.1⟩)))
      have hk : ¬ (x.kind = 0 ∨ x.kind = 1) := by rw [hkb] at hf; exact of_decide_eq_false hf
      intro J4 hJ4
      have okN4 : vform x.kind x.block x.alt x.ins.length = true → J4 [.bool false] w4 := fun hv => hJ4 _ _ (okN hv)
      refine Br_eq (fun h2 => ?_) fun h2 => ?_
      · have hvf : vform x.kind x.block x.alt x.ins.length = (validP x.block x.alt && decide (x.ins.length = 0)) := by unfold vform; rw [if_neg hk, if_pos h2]
        rw [hvf] at RF okN4
        unfold validP at RF okN4
        intro J5 hJ5
        have bad : ¬ (0 ≤ x.block ∧ x.block < 4096 ∧ -1 ≤ x.alt ∧ x.alt < 16) → J5 [.bool true] w4 := fun hb => hJ5 _ _ (Br_true rfl (RF _ hm04 (by rw [decide_eq_false hb]; rfl)))
        refine ⟨x.block, hb4.cellAt 0 1, Br_dec (fun h' => bad (by omega)) fun h1 => ⟨x.block, hb4.cellAt 0 1, Br_dec (fun h' => bad (by omega)) fun h2 => ⟨x.alt, hb4.cellAt 0 2, Br_dec (fun h' => bad (by omega)) fun h3 => ⟨x.alt, hb4.cellAt 0 2, Br_dec (fun h' => bad (by omega)) fun h4 => ⟨x.p, x.ins.length, x.c, hb4.cellAt 0 3, ?_⟩⟩⟩⟩⟩
        have hg : (0 ≤ x.block ∧ x.block < 4096 ∧ -1 ≤ x.alt ∧ x.alt < 16) := by omega
        rw [decide_eq_true hg, Bool.true_and] at RF okN4
        by_cases h0 : x.ins.length = 0
        · have e : (((x.ins.length : Nat) : Int) != 0) = false := by simp [h0]
          rw [e]
          exact hJ5 _ _ (Br_false rfl (okN4 (decide_eq_true h0)))
        · have e : (((x.ins.length : Nat) : Int) != 0) = true := by simp; exact fun e => h0 (by rw [e]; rfl)
          rw [e]
          exact hJ5 _ _ (Br_true rfl (RF _ hm04 (decide_eq_false h0)))
      intro J5 hJ5
      have okN5 : vform x.kind x.block x.alt x.ins.length = true → J5 [.bool false] w4 := fun hv => hJ5 _ _ (okN4 hv)
      refine Br_eq (fun h3 => ?_) fun h3 => ?_
      · have hvf : vform x.kind x.block x.alt x.ins.length = decide (x.block = 0 ∧ x.alt = 0 ∧ x.ins.length = 1) := by unfold vform; rw [if_neg hk, if_neg h2, if_pos h3]
        rw [hvf] at RF okN5
        intro J6 hJ6
        refine Br_not (Br_intro (fun hp => ?_) fun hp => ?_)
        · have hpl := of_decide_eq_true (hpb ▸ hp)
          refine ⟨x.p, x.ins.length, x.c, hb4.cellAt 0 3, ?_⟩
          by_cases h0 : x.ins.length = 1
          · have e : (((x.ins.length : Nat) : Int) != 1) = false := by simp [h0]
            rw [e]
            exact hJ6 _ _ (Br_false rfl (okN5 (decide_eq_true ⟨hpl.1, hpl.2, h0⟩)))
          · have e : (((x.ins.length : Nat) : Int) != 1) = true := by simp; omega
            rw [e]
            exact hJ6 _ _ (Br_true rfl (RF _ hm04 (decide_eq_false fun h' => h0 h'.2.2)))
        · have hpl := of_decide_eq_false (hpb ▸ hp)
          exact hJ6 _ _ (Br_true rfl (RF _ hm04 (decide_eq_false fun h' => hpl ⟨h'.1, h'.2.1⟩)))
      intro J6 hJ6
      have main3 : ∀ kb : Bool, kb = decide (x.kind = 4 ∨ x.kind = 5) → J6 [.bool kb] w4 := by
        intro kb hkb
        refine hJ6 _ _ (Br_intro (fun ht => ?_) fun hf => ?_)
        · have hk4 : x.kind = 4 ∨ x.kind = 5 := by rw [hkb] at ht; exact of_decide_eq_true ht
          have hvf : vform x.kind x.block x.alt x.ins.length = decide (x.block = 0 ∧ x.alt = 0) := by unfold vform; rw [if_neg hk, if_neg h2, if_neg h3, if_pos hk4]
          rw [hvf] at RF okN5
          exact Br_not (Br_intro (fun hp => okN5 (hpb ▸ hp)) fun hp => RF _ hm04 (hpb ▸ hp))
        · have hk4 : ¬ (x.kind = 4 ∨ x.kind = 5) := by rw [hkb] at hf; exact of_decide_eq_false hf
          exact RF _ hm04 (by unfold vform; rw [if_neg hk, if_neg h2, if_neg h3, if_neg hk4])
      refine Br_eq (fun h4 => main3 _ ?_) fun h4 => main3 _ ?_
      · rw [Bool.eq_iff_iff]; simp [h4]
      · rw [Bool.eq_iff_iff]; simp [h4]
    refine Br_eq (fun h0 => main2 _ ?_) fun h0 => main2 _ ?_
    · rw [Bool.eq_iff_iff]; simp [h0]
    · rw [Bool.eq_iff_iff]; simp [h0]
  refine ⟨x.block, hb4.cellAt 0 1, Br_eq (fun h0 => ⟨x.alt, hb4.cellAt 0 2, main _ ?_⟩) fun h0 => main _ ?_⟩
  · rw [Bool.eq_iff_iff]; simp [h0]
  · rw [eq_comm, decide_eq_false_iff_not]; exact fun h' => h0 h'.1

end Go.Proofs.YtajfdcbknghipaaGreatDoor
end

section
/- The reference's Import. Conditions on memory as stated. -/
namespace Go.Proofs.YtajfdcbknghipaaGreatDoor
open Go Go.Sh Go.Fm Go.RowKit

variable {w : World} {B : Nat} {s : Addr} {L : List Nd} {d : RD}

theorem addN_wf (h : WF L) {k b a : Int} {l : List Nat} (hv : vform k b a l.length = true) (hl : ∀ x ∈ l, x < L.length) : WF (addN L k b a l).1 := by
  unfold addN
  split
  · exact h
  split
  · rename_i h1 hk
    unfold vform at hv
    rw [if_neg (by omega), if_pos hk, Bool.and_eq_true] at hv
    have hp := hv.1
    unfold validP at hp
    exact (mk_wf h (ndOK_pick (of_decide_eq_true hp))).1
  split
  · rename_i h1 h2' hk
    unfold vform at hv
    rw [if_neg (by omega), if_neg h2', if_pos hk] at hv
    obtain ⟨x, rfl⟩ := List.length_eq_one_iff.1 (of_decide_eq_true hv).2.2
    have hx := hl x List.mem_cons_self
    simp only [List.headD_cons]
    unfold nt
    split
    · exact h
    · rw [List.getElem?_eq_getElem hx]
      simp only
      split
      · exact h
      · exact (mk_wf h (ndOK_not (by omega) hx)).1
  split
  · rename_i hk
    have hno := ndOK_comb h hk hl
    unfold comb
    split
    · exact h
    · rename_i hc
      have hc' : (flat L k l).contains (absorbOf k) = false := by
        cases hq : (flat L k l).contains (absorbOf k) with
        | false => rfl
        | true => rw [hq] at hc; simp at hc
      have hno' := hno hc'
      generalize flat L k l = ff at hno' hc
      match ff, hno', hc with
      | [], _, _ => exact h
      | [a], _, _ => exact h
      | a :: b :: r, hno', _ => exact (mk_wf h hno').1
  · exact h

theorem rimportAll_ok (h : RefM w s L d) (hwf : WF L) (hT : TabB B w) (hB : B ≤ w.heap.size) {f : List FNode} (hL : L.length + f.length ≤ 900) {p : Option Addr} {c : Nat} (hm : FormM B w p f) (hd : ∀ b, d.all b → B ≤ b) (hs : f.length ≤ 200) (hi : ∀ x ∈ f, x.ins.length ≤ 200) (hv : vf f = true) :
    CallsF Tryz.prog 46 #[.pointer (some s), .agg #[.slice p f.length c]] w fun e w' => ∃ (q : Option Addr) (cq : Nat), e = .returned (.tuple #[.slice q (impF L [] f).2.length cq, .int .i64 0]) ∧ OwnN w' q cq (impF L [] f).2 ∧ RNew w s d (impF L [] f).1 w' := by
  have hvn := vf_iff.1 hv
  have hallw := h.allLt
  refine C_credenceref22_Store_ImportAll _ _ _ _ _ _ ?_
  intro w1 hw1
  have hb1 := hw1.blk 0 rfl
  refine (rvalid_ok (hm.same hw1.mod) hs hi).mono ?_
  rintro e w2 ⟨rfl, hm2⟩
  rw [hv]
  have hm02 := hw1.mod.then hm2
  refine ⟨true, rfl, Br_false rfl ⟨p, f.length, c, (hb1.keep hm2 NoB.not).cellAt 0 0, ?_⟩⟩
  refine ⟨fun m vs w' => ∃ (i : Nat) (di : RD) (q : Option Addr) (cq : Nat), m = f.length - i ∧ i ≤ f.length ∧ vs = [.slice none 0 0, .int .i64 0, .slice q (impF L [] (f.take i)).2.length cq, .int .i64 i] ∧ RefM w' s (impF L [] (f.take i)).1 di ∧ (∀ b, di.fp b → d.fp b ∨ w.heap.size ≤ b) ∧ (∀ b, di.all b → d.all b ∨ w.heap.size ≤ b) ∧
      OwnN w' q cq (impF L [] (f.take i)).2 ∧ (∀ b, At q b → w.heap.size ≤ b ∧ ¬ di.all b) ∧ WF (impF L [] (f.take i)).1 ∧ (∀ a ∈ (impF L [] (f.take i)).2, a < (impF L [] (f.take i)).1.length) ∧ (impF L [] (f.take i)).1.length ≤ L.length + i ∧ Mod d.fp w w',
    ⟨_, 0, d, none, 0, rfl, Nat.zero_le _, rfl, h.same hm02, fun b hb => .inl hb, fun b hb => .inl hb, Own.none _ _ _, fun b hb => (At.none hb).elim, hwf, fun a ha => (by cases ha), Nat.le_refl _, hm02.to⟩, ?_⟩
  rintro m r0 r0n r0c r1 q' nq cq' i' w4 ⟨i, di, q, cq, rfl, hil, hvs, h4, hfp4, hal4, hown4, hq4, hwf4, hlt4, hlen4, hm4⟩
  simp only [List.cons.injEq, Value.int.injEq, Value.slice.injEq, true_and, and_true] at hvs
  obtain ⟨⟨rfl, rfl, rfl⟩, rfl, ⟨rfl, rfl, rfl⟩, rfl⟩ := hvs
  have hs4 := hm4.size
  refine Br_dec (fun hlt => ?_) fun hge => ?_
  rotate_left
  · have : i = f.length := by omega
    subst this
    rw [List.take_length] at h4 hown4 ⊢
    exact ⟨q', cq', rfl, hown4, di, h4, hm4, hfp4, hal4⟩
  have hi' : i < f.length := by omega
  have hx : f[i]? = some f[i] := List.getElem?_eq_getElem hi'
  have hxi := hi _ (List.getElem_mem hi')
  have htake : f.take (i + 1) = f.take i ++ [f[i]] := List.take_succ_eq_append_getElem hi'
  have hxm : f[i] ∈ f := List.getElem_mem hi'
  generalize f[i] = x at hx hxi htake hxm
  have hnumlen : (impF L [] (f.take i)).2.length = i := by rw [impF_len, List.length_take]; simp; omega
  have hsn := impF_snoc (f.take i) L [] x
  rw [← htake] at hsn
  generalize impF L [] (f.take i) = st at h4 hown4 hwf4 hlt4 hlen4 hnumlen hsn ⊢
  obtain ⟨Li, nums⟩ := st
  simp only at h4 hown4 hwf4 hlt4 hlen4 hnumlen hsn ⊢
  have hdB : ∀ b, d.fp b → B ≤ b := fun b hb => hd b (.inl hb)
  have hform4 := hm.keep hm4 hdB
  have hvx := hvn i x hx
  unfold vnode at hvx
  rw [Bool.and_eq_true] at hvx
  have hins := insOK_iff hvx.2
  obtain ⟨a, hpa, hc⟩ := hform4.node hx
  refine optP_intro hpa ⟨⟨by omega, by omega⟩, _, _, _, _, _, _, by rw [Int.toNat_natCast]; exact hc, ?_⟩
  intro w5 hw5
  have hbx5 := hw5.blk 0 rfl
  have hqlt : ∀ b, At q' b → b < w4.heap.size := Own.lt hown4
  have hs5 := hw5.mod.size
  -- the inputs' numbers
  refine ⟨fun m vs w' => ∃ (k : Nat) (z : Option Addr) (cz : Nat), m = x.ins.length - k ∧ k ≤ x.ins.length ∧ vs = [.slice z (numsOf nums (x.ins.take k)).length cz, .int .i64 k] ∧ OwnN w' z cz (numsOf nums (x.ins.take k)) ∧ (∀ b, At z b → w5.heap.size ≤ b) ∧ Mod (fun b => w5.heap.size ≤ b) w5 w',
    ⟨_, 0, none, 0, rfl, Nat.zero_le _, rfl, Own.none _ _ _, fun b hb => (At.none hb).elim, Mod.refl _ _⟩, ?_⟩
  rintro m z' nz cz' k' w6 ⟨k, z, cz, rfl, hk, hvs, hown6, hz6, hm6⟩
  simp only [List.cons.injEq, Value.int.injEq, Value.slice.injEq, true_and, and_true] at hvs
  obtain ⟨⟨rfl, rfl, rfl⟩, rfl⟩ := hvs
  have hm56 : Mod NoB w5 w6 := (Mod.refl _ _).new _ hm6 fun b hb h' => by have h2 : w5.heap.size ≤ b := h'; omega
  have hm46 : Mod NoB w4 w6 := hw5.mod.then hm56
  have hs6 := hm6.size
  have hnl : ∀ k, (numsOf nums (x.ins.take k)).length ≤ 200 := fun k => by unfold numsOf; rw [List.length_map, List.length_take]; omega
  refine Br_dec (fun hlt2 => ?_) fun hge2 => ?_
  · have hk' : k < x.ins.length := by omega
    have hu : x.ins[k]? = some x.ins[k] := List.getElem?_eq_getElem hk'
    have hum := hins _ (List.getElem_mem hk')
    have htk2 : x.ins.take (k + 1) = x.ins.take k ++ [x.ins[k]] := List.take_succ_eq_append_getElem hk'
    generalize x.ins[k] = u at hu hum htk2
    obtain ⟨ap, hap, hcp⟩ := ((hform4.same hm46).ins x hxm).row.at (i := k) (v := .int .i64 u) (by rw [ints_get, hu]; rfl)
    have hul : u.toNat < nums.length := by omega
    have hnu : nums[u.toNat]? = some nums[u.toNat] := List.getElem?_eq_getElem hul
    generalize nums[u.toNat] = y at hnu
    obtain ⟨aq, haq, hcq⟩ := ((Own.row hown4).keep hm46 fun _ _ => NoB.not).at (i := u.toNat) (v := .int .i64 y) (by rw [ints_get, natI_get, hnu]; rfl)
    have hnx : numsOf nums (x.ins.take (k + 1)) = numsOf nums (x.ins.take k) ++ [y] := by
      unfold numsOf
      rw [htk2, List.map_append]
      simp [List.getD_eq_getElem?_getD, hnu]
    refine optP_intro hap ⟨⟨by omega, by omega⟩, u, by rw [Int.toNat_natCast, Nat.mul_one]; exact hcp, optP_intro haq ⟨⟨by omega, by omega⟩, y, by rw [Nat.mul_one]; exact hcq, ?_⟩⟩
    intro w7 hw7
    obtain ⟨w8, z8, c8, hrun, ho8, hm8, hat8⟩ := hown6.push (x := y) (by have := hnl k; omega) hw7
    have hl8 : (numsOf nums (x.ins.take k)).length + 1 = (numsOf nums (x.ins.take (k + 1))).length := by rw [hnx, List.length_append]; rfl
    rw [hl8] at hrun
    refine ⟨w8, z8, _, c8, hrun, x.ins.length - (k + 1), by omega, k + 1, z8, c8, rfl, hk', by rw [wrap_i64 (by omega) (by omega)]; rfl, by rw [hnx]; exact ho8, fun b hb => ?_, hm6.then (hm8.mono fun b _ hb => hz6 b hb)⟩
    rcases hat8 b hb with h' | h'
    · exact hz6 b h'
    · omega
  have hke : k = x.ins.length := by omega
  subst hke
  have e0 : x.ins.take x.ins.length = x.ins := List.take_length
  rw [e0] at hown6 ⊢
  have hb6 := hbx5.keep hm56 NoB.not
  refine ⟨_, _, _, _, _, _, hb6.cellsAre, ?_⟩
  have hnl2 : (numsOf nums x.ins).length = x.ins.length := by simp [numsOf]
  have h6 := h4.same hm46
  have hm06 : Mod d.fp w w6 := hm4.then hm46.to
  have hT6 : TabB B w6 := hT.keep hB hm06 hdB
  have hB6 : B ≤ w6.heap.size := by omega
  have hnlt := numsOf_lt hlt4 (ins := x.ins) (fun y hy => by have := hins y hy; omega)
  refine (radd_ok h6 hwf4 hT6 hB6 (by omega) (l := numsOf nums x.ins) (by rw [hnl2]; exact hvx.1) (Own.row hown6) hnlt (by omega)).mono ?_
  rintro e w7 ⟨rfl, d7, h7, hm7, hfp7, hal7⟩
  have hwf7 := addN_wf hwf4 (l := numsOf nums x.ins) (by rw [hnl2]; exact hvx.1) hnlt
  have hrlt := addN_lt hwf4 (l := numsOf nums x.ins) hvx.1 hnl2 hnlt
  obtain ⟨ex, hex, hexl⟩ := addN_ext Li x.kind x.block x.alt (numsOf nums x.ins)
  generalize addN Li x.kind x.block x.alt (numsOf nums x.ins) = r at h7 hwf7 hrlt hex hsn ⊢
  obtain ⟨Lr, ar⟩ := r
  simp only at h7 hwf7 hrlt hex hsn ⊢
  have hs7 := hm7.size
  have hq7 : ∀ b, At q' b → ¬ d7.all b := fun b hb hd7 => by
    have h1 := hqlt b hb
    rcases hal7 b hd7 with h' | h'
    · exact (hq4 b hb).2 h'
    · omega
  have hown7 : OwnN w7 q' cq' nums := (hown4.keep hm46 fun _ _ => NoB.not).keep hm7 fun b hb hf => (hq4 b hb).2 (.inl hf)
  refine ⟨_, rfl, Br_false (by rw [decide_eq_false_iff_not]; omega) ?_⟩
  intro w8 hw8
  have h8 := h7.same hw8.mod
  obtain ⟨w9, q9, c9, hrun, ho9, hm9, hat9⟩ := hown7.push (x := ar) (by rw [hnumlen]; omega) hw8
  have hl9 : nums.length + 1 = (nums ++ [ar]).length := by rw [List.length_append]; rfl
  rw [hl9] at hrun
  refine ⟨w9, q9, _, c9, hrun, f.length - (i + 1), by omega, i + 1, d7, q9, c9, rfl, hi', ?_, ?_, ?_, ?_, ?_, ?_, ?_, ?_, ?_, ?_⟩
  · rw [hsn, wrap_i64 (by omega) (by omega)]; rfl
  · rw [hsn]; exact h7.keep hm9 fun b hb hp => hq7 b hp hb
  · intro b hb
    rcases hfp7 b hb with h' | h'
    · exact hfp4 b h'
    · exact .inr (by omega)
  · intro b hb
    rcases hal7 b hb with h' | h'
    · exact hal4 b h'
    · exact .inr (by omega)
  · rw [hsn]; exact ho9
  · intro b hb
    rcases hat9 b hb with h' | h'
    · exact ⟨(hq4 b h').1, hq7 b h'⟩
    · refine ⟨by omega, fun hd7 => ?_⟩
      have := h7.allLt b hd7
      omega
  · rw [hsn]; exact hwf7
  · rw [hsn]
    intro y hy
    rcases List.mem_append.1 hy with hy | hy
    · have := hlt4 y hy
      show y < Lr.length
      rw [hex, List.length_append]; omega
    · have : y = ar := by simpa using hy
      subst this; exact hrlt
  · rw [hsn]; show Lr.length ≤ _
    rw [hex, List.length_append]; omega
  · refine (hm06.trans hm7 (fun _ h => h) fun b hb hf => ?_).trans hm9 (fun _ h => h) fun b hb hp => ?_
    · rcases hfp4 b hf with h' | h'
      · exact h'
      · omega
    · have := (hq4 b hp).1
      omega

theorem rimport_ok (h : RefM w s L d) (hwf : WF L) (hT : TabB B w) (hB : B ≤ w.heap.size) {f : List FNode} (hL : L.length + f.length ≤ 900) {p : Option Addr} {c : Nat} (hm : FormM B w p f) (hd : ∀ b, d.all b → B ≤ b) (hs : f.length ≤ 200) (hi : ∀ x ∈ f, x.ins.length ≤ 200) (hv : vf f = true) :
    CallsF Tryz.prog 25 #[.pointer (some s), .agg #[.slice p f.length c]] w fun e w' => e = .returned (.tuple #[.int .i64 ((impF L [] f).2.getLastD 0), .int .i64 0]) ∧ RNew w s d (impF L [] f).1 w' := by
  refine C_credenceref22_Store_Import _ _ _ _ _ _ ?_
  intro w1 hw1
  have hlen : (impF L [] f).2.length = f.length := by rw [impF_len]; simp
  refine (rimportAll_ok (h.same hw1.mod) hwf (hT.keep hB hw1.mod fun _ h => h.elim) (Nat.le_trans hB hw1.mod.size) hL (hm.same hw1.mod) hd hs hi hv).mono ?_
  rintro e w2 ⟨q, cq, rfl, hown2, hpost⟩
  generalize (impF L [] f).2 = nums at hown2 hlen ⊢
  refine ⟨q, nums.length, cq, 0, rfl, ?_⟩
  intro J hJ
  have hp := hpost.pre hw1.mod
  refine Br_false rfl (hJ _ _ (Br_eq (fun h0 => ?_) fun h0 => ?_))
  · have : nums = [] := List.eq_nil_of_length_eq_zero (by omega)
    subst this
    exact ⟨rfl, hp⟩
  · have hpos : 0 < nums.length := by omega
    have hwr : IntKind.i64.wrap ((nums.length : Int) - 1) = ((nums.length - 1 : Nat) : Int) := by rw [wrap_i64 (by omega) (by omega)]; omega
    rw [hwr]
    have hlast : nums[nums.length - 1]? = some (nums.getLastD 0) := by
      rw [List.getLastD_eq_getLast?, List.getLast?_eq_getElem?]
      rw [List.getElem?_eq_getElem (by omega)]; rfl
    obtain ⟨aq, haq, hcq⟩ := (Own.row hown2).at (i := nums.length - 1) (v := .int .i64 (nums.getLastD 0 : Nat)) (by rw [ints_get, natI_get, hlast]; rfl)
    exact optP_intro haq ⟨⟨by omega, by omega⟩, _, by rw [Int.toNat_natCast, Nat.mul_one]; exact hcq, rfl, hp⟩

end Go.Proofs.YtajfdcbknghipaaGreatDoor
end

section
/- The walks of some functions, as propositions on memory. Written by a program. No condition. -/
namespace Go.Proofs.YtajfdcbknghipaaGreatDoor
open Go Go.Sh
set_option maxRecDepth 100000
theorem A1G7mixed : Tryz.prog.follows .mixedOrders = true := by kernel_rfl
/-- credence/transform.newFrame -/
def S_transform_newFrame (x : Addr) (y0 : Int) (y1 : Bool) (w : World) (R : Ending → World → Prop) : Prop :=
 ∀ (w1 : World), Ext w [OB.cells [Value.int IntKind.i64 y0, Value.bool y1] (86 : Nat)] w1 → CallsF Tryz.prog (37 : Nat) (Array.mk [Value.pointer (some x), Value.int IntKind.i64 y0]) w1 fun (e : Ending) (w_1 : World) => ∃ (n : Int), ∃ (n_1 : Int), ∃ (n_2 : Int), ∃ (p : Option Addr), ∃ (n_3 : Nat), ∃ (c : Nat), ∃ (b : Bool), e = Ending.returned (Value.tuple #[Value.agg #[Value.int IntKind.i64 n, Value.int IntKind.i64 n_1, Value.int IntKind.i64 n_2, Value.slice p n_3 c], Value.bool b]) ∧ ∃ (n_4 : Int), ∃ (b : Bool), CellsAre w_1 (Addr.mk (w.heap.size + (0 : Nat)) (0 : Nat) none) (0 : Nat) [Value.int IntKind.i64 n_4, Value.bool b] ∧ ∃ (b_1 : Bool), w_1.cell? ((Addr.mk (w.heap.size + (0 : Nat)) (0 : Nat) none).add (1 : Nat)) = some (Value.bool b_1) ∧ ∀ (w1 : World), Ext w_1 [OB.cells [Value.int IntKind.i64 n, Value.int IntKind.i64 n_1, Value.int IntKind.i64 n_2, Value.slice p n_3 c] (58 : Nat), OB.cells [Value.int IntKind.i64 n_4, Value.bool b, Value.int IntKind.i64 n, Value.slice none (0 : Nat) (0 : Nat), Value.slice none (0 : Nat) (0 : Nat)] (90 : Nat)] w1 → ∃ (I : Nat → List Value → World → Prop), (∃ (n : Nat), I n [Value.int IntKind.i64 (0 : Int)] w1) ∧ ∀ (n_5 : Nat) (n_6 : Int) (w1 : World), I n_5 [Value.int IntKind.i64 n_6] w1 → Br (decide (n_6 < (↑n_3 : Int))) (optP p fun (a : Addr) => ((0 : Int) ≤ n_6 ∧ n_6 < (↑n_3 : Int)) ∧ ∃ (n_7 : Int), w1.cell? (a.add (n_6.toNat * (1 : Nat))) = some (Value.int IntKind.i64 n_7) ∧ ∃ (p_1 : Option Addr), ∃ (n_8 : Nat), ∃ (c_1 : Nat), w1.cell? ((Addr.mk (w_1.heap.size + [OB.cells [Value.int IntKind.i64 n, Value.int IntKind.i64 n_1, Value.int IntKind.i64 n_2, Value.slice p n_3 c] (58 : Nat)].length) (0 : Nat) none).add (3 : Nat)) = some (Value.slice p_1 n_8 c_1) ∧ ∀ (w1_1 : World), Ext w1 [OB.cells [Value.int IntKind.i64 n_7, Value.bool !b_1 == (n == (3 : Int))] (86 : Nat)] w1_1 → ∃ (w1_2 : World), ∃ (p_2 : Option Addr), ∃ (n_9 : Nat), ∃ (c_2 : Nat), Sem.run Tryz.prog (Builtin.append_ (Array.mk [(88 : Nat), (88 : Nat)]) (88 : Nat) (Array.mk [Value.slice p_1 n_8 c_1, Value.slice (some (Addr.mk (w1.heap.size + (0 : Nat)) (0 : Nat) none)) (1 : Nat) (1 : Nat)])) w1_1 = Result.ok (Value.slice p_2 n_9 c_2) w1_2 ∧ CanStore w1_2 ((Addr.mk (w_1.heap.size + [OB.cells [Value.int IntKind.i64 n, Value.int IntKind.i64 n_1, Value.int IntKind.i64 n_2, Value.slice p n_3 c] (58 : Nat)].length) (0 : Nat) none).add (3 : Nat)) (0 : Nat) [Value.slice p_2 n_9 c_2] ∧ ∀ (w1 : World), SetC w1_2 ((Addr.mk (w_1.heap.size + [OB.cells [Value.int IntKind.i64 n, Value.int IntKind.i64 n_1, Value.int IntKind.i64 n_2, Value.slice p n_3 c] (58 : Nat)].length) (0 : Nat) none).add (3 : Nat)) [Value.slice p_2 n_9 c_2] w1 → ∃ (n' : Nat), n' < n_5 ∧ I n' [Value.int IntKind.i64 (IntKind.i64.wrap (n_6 + (1 : Int)))] w1) (R (Ending.returned (Value.pointer (some (Addr.mk (w_1.heap.size + [OB.cells [Value.int IntKind.i64 n, Value.int IntKind.i64 n_1, Value.int IntKind.i64 n_2, Value.slice p n_3 c] (58 : Nat)].length) (0 : Nat) none)))) w1)
theorem E_transform_newFrame (x : Addr) (y0 : Int) (y1 : Bool) (w : World) (R : Ending → World → Prop) : shFn Tryz.prog Tryz.f38.ntmps Tryz.f38.results.toList (Tryz.f38.body.getD .skip) [Value.pointer (some x), Value.agg #[Value.int IntKind.i64 y0, Value.bool y1]] w R = S_transform_newFrame x y0 y1 w R := by kernel_rfl
theorem C_transform_newFrame (x : Addr) (y0 : Int) (y1 : Bool) (w : World) (R : Ending → World → Prop) (h : S_transform_newFrame x y0 y1 w R) : CallsF Tryz.prog 38 #[Value.pointer (some x), Value.agg #[Value.int IntKind.i64 y0, Value.bool y1]] w R :=
 ⟨Tryz.call38, calls_of_sh A1G7mixed Tryz.func38 rfl (Nat.le_of_ble_eq_true rfl) ((E_transform_newFrame x y0 y1 w R).mpr h)⟩

/-- (*credence/transform.frame).finish -/
def S_transform_frame_finish (x : Addr) (y : Addr) (w : World) (R : Ending → World → Prop) : Prop :=
 ∃ (n : Int), w.cell? (x.add (2 : Nat)) = some (Value.int IntKind.i64 n) ∧ Br (n == (3 : Int)) (∃ (p : Option Addr), ∃ (n : Nat), ∃ (c : Nat), w.cell? (x.add (4 : Nat)) = some (Value.slice p n c) ∧ optP p fun (a : Addr) => ((0 : Int) ≤ (0 : Int) ∧ (0 : Int) < (↑n : Int)) ∧ ∃ (n : Int), w.cell? (a.add (0 : Nat)) = some (Value.int IntKind.i64 n) ∧ R (Ending.returned (Value.int IntKind.i64 n)) w) (∀ (J : List Value → World → Prop), (∀ (b : Bool) (w1 : World), Br b (∃ (n : Int), w1.drew.cell? (x.add (2 : Nat)) = some (Value.int IntKind.i64 n) ∧ ∃ (b : Bool), w1.drew.cell? ((x.add (0 : Nat)).add (1 : Nat)) = some (Value.bool b) ∧ Br (!(n == (4 : Int)) == b) (∃ (p : Option Addr), ∃ (n : Nat), ∃ (c : Nat), w1.drew.cell? (x.add (4 : Nat)) = some (Value.slice p n c) ∧ CallsF Tryz.prog (15 : Nat) (Array.mk [Value.pointer (some y), Value.slice p n c]) w1.drew fun (e : Ending) (w : World) => ∃ (n : Int), e = Ending.returned (Value.int IntKind.i64 n) ∧ R (Ending.returned (Value.int IntKind.i64 n)) w) (∃ (p : Option Addr), ∃ (n : Nat), ∃ (c : Nat), w1.drew.cell? (x.add (4 : Nat)) = some (Value.slice p n c) ∧ CallsF Tryz.prog (18 : Nat) (Array.mk [Value.pointer (some y), Value.slice p n c]) w1.drew fun (e : Ending) (w : World) => ∃ (n : Int), e = Ending.returned (Value.int IntKind.i64 n) ∧ R (Ending.returned (Value.int IntKind.i64 n)) w)) (∃ (b : Bool), w1.cell? ((x.add (0 : Nat)).add (1 : Nat)) = some (Value.bool b) ∧ Br b (∃ (n : Int), w1.cell? ((x.add (0 : Nat)).add (0 : Nat)) = some (Value.int IntKind.i64 n) ∧ CallsF Tryz.prog (16 : Nat) (Array.mk [Value.pointer (some y), Value.int IntKind.i64 n]) w1 fun (e : Ending) (w : World) => ∃ (n : Int), e = Ending.returned (Value.int IntKind.i64 n) ∧ R (Ending.returned (Value.int IntKind.i64 n)) w) (∃ (n : Int), w1.cell? ((x.add (0 : Nat)).add (0 : Nat)) = some (Value.int IntKind.i64 n) ∧ R (Ending.returned (Value.int IntKind.i64 n)) w1)) → J [Value.bool b] w1) → Br (n == (4 : Int)) (J [Value.bool (n == (4 : Int))] w) (J [Value.bool (n == (5 : Int))] w))
theorem E_transform_frame_finish (x : Addr) (y : Addr) (w : World) (R : Ending → World → Prop) : shFn Tryz.prog Tryz.f39.ntmps Tryz.f39.results.toList (Tryz.f39.body.getD .skip) [Value.pointer (some x), Value.pointer (some y)] w R = S_transform_frame_finish x y w R := by kernel_rfl
theorem C_transform_frame_finish (x : Addr) (y : Addr) (w : World) (R : Ending → World → Prop) (h : S_transform_frame_finish x y w R) : CallsF Tryz.prog 39 #[Value.pointer (some x), Value.pointer (some y)] w R :=
 ⟨Tryz.call39, calls_of_sh A1G7mixed Tryz.func39 rfl (Nat.le_of_ble_eq_true rfl) ((E_transform_frame_finish x y w R).mpr h)⟩

/-- credence/transform.NNF -/
def S_transform_NNF (x : Addr) (y : Int) (w : World) (R : Ending → World → Prop) : Prop :=
 CallsF Tryz.prog (37 : Nat) (Array.mk [Value.pointer (some x), Value.int IntKind.i64 y]) w fun (e : Ending) (w : World) => ∃ (n : Int), ∃ (n_1 : Int), ∃ (n_2 : Int), ∃ (p : Option Addr), ∃ (n_3 : Nat), ∃ (c : Nat), ∃ (b : Bool), e = Ending.returned (Value.tuple #[Value.agg #[Value.int IntKind.i64 n, Value.int IntKind.i64 n_1, Value.int IntKind.i64 n_2, Value.slice p n_3 c], Value.bool b]) ∧ Br (!b) (∀ (w1 : World), Ext w [OB.cells [Value.int IntKind.i64 n, Value.int IntKind.i64 n_1, Value.int IntKind.i64 n_2, Value.slice p n_3 c] (58 : Nat)] w1 → R (Ending.returned (Value.int IntKind.i64 (-1 : Int))) w1) (∀ (w1 : World), Ext w [OB.cells [Value.int IntKind.i64 n, Value.int IntKind.i64 n_1, Value.int IntKind.i64 n_2, Value.slice p n_3 c] (58 : Nat), OB.obj (Obj.map (Array.mk []) (0 : Nat))] w1 → CallsF Tryz.prog (38 : Nat) (Array.mk [Value.pointer (some x), Value.agg (Array.mk [Value.int IntKind.i64 y, Value.bool false])]) w1 fun (e : Ending) (w_1 : World) => ∃ (p_1 : Option Addr), e = Ending.returned (Value.pointer p_1) ∧ ∀ (w1 : World), Ext w_1 [OB.cells [Value.pointer p_1] (83 : Nat)] w1 → ∃ (I : Nat → List Value → World → Prop), (∃ (n : Nat), I n [Value.int IntKind.i64 (0 : Int), Value.slice (some (Addr.mk (w_1.heap.size + (0 : Nat)) (0 : Nat) none)) (1 : Nat) (1 : Nat)] w1) ∧ ∀ (n_4 : Nat) (n_5 : Int) (p_2 : Option Addr) (n_6 c_1 : Nat) (w1 : World), I n_4 [Value.int IntKind.i64 n_5, Value.slice p_2 n_6 c_1] w1 → Br (decide ((↑n_6 : Int) > (0 : Int))) (∀ (J : List Value → World → Prop), (∀ (n : Int) (p : Option Addr) (n_7 c : Nat) (w1 : World), (∃ (n' : Nat), n' < n_4 ∧ I n' [Value.int IntKind.i64 n, Value.slice p n_7 c] w1) → J [Value.int IntKind.i64 n, Value.slice p n_7 c] w1) → optP p_2 fun (a : Addr) => ((0 : Int) ≤ IntKind.i64.wrap ((↑n_6 : Int) - (1 : Int)) ∧ IntKind.i64.wrap ((↑n_6 : Int) - (1 : Int)) < (↑n_6 : Int)) ∧ ∃ (p_3 : Option Addr), w1.cell? (a.add ((IntKind.i64.wrap ((↑n_6 : Int) - (1 : Int))).toNat * (1 : Nat))) = some (Value.pointer p_3) ∧ optP p_3 fun (a : Addr) => ∃ (p_4 : Option Addr), ∃ (n_7 : Nat), ∃ (c_2 : Nat), w1.cell? (a.add (4 : Nat)) = some (Value.slice p_4 n_7 c_2) ∧ optP p_3 fun (a : Addr) => ∃ (p_5 : Option Addr), ∃ (n_8 : Nat), ∃ (c_3 : Nat), w1.cell? (a.add (3 : Nat)) = some (Value.slice p_5 n_8 c_3) ∧ Br (decide ((↑n_7 : Int) < (↑n_8 : Int))) (optP p_3 fun (a : Addr) => ∃ (p_6 : Option Addr), ∃ (n_9 : Nat), ∃ (c_4 : Nat), w1.cell? (a.add (3 : Nat)) = some (Value.slice p_6 n_9 c_4) ∧ optP p_6 fun (a : Addr) => ((0 : Int) ≤ (↑n_7 : Int) ∧ (↑n_7 : Int) < (↑n_9 : Int)) ∧ ∃ (n_10 : Int), ∃ (b : Bool), CellsAre w1 (a.add ((↑n_7 : Int).toNat * (2 : Nat))) (0 : Nat) [Value.int IntKind.i64 n_10, Value.bool b] ∧ ∃ (n_11 : Int), ∃ (b_1 : Bool), Sem.run Tryz.prog (Instr.lookup (82 : Nat) (Value.map (some (w.heap.size + [OB.cells [Value.int IntKind.i64 n, Value.int IntKind.i64 n_1, Value.int IntKind.i64 n_2, Value.slice p n_3 c] (58 : Nat)].length))) (Value.agg (Array.mk [Value.int IntKind.i64 n_10, Value.bool b])) true) w1 = Result.ok (Value.tuple #[Value.int IntKind.i64 n_11, Value.bool b_1]) w1 ∧ ∀ (J_1 : List Value → World → Prop), (∀ (p : Option Addr) (n c : Nat) (w1 : World), J [Value.int IntKind.i64 n_5, Value.slice p n c] w1 → J_1 [Value.slice p n c] w1) → Br b_1 (optP p_3 fun (a : Addr) => ∃ (p : Option Addr), ∃ (n : Nat), ∃ (c : Nat), w1.cell? (a.add (4 : Nat)) = some (Value.slice p n c) ∧ ∀ (w1_1 : World), Ext w1 [OB.cells [Value.int IntKind.i64 n_11] (3 : Nat)] w1_1 → ∃ (w1_2 : World), ∃ (p_7 : Option Addr), ∃ (n_12 : Nat), ∃ (c_5 : Nat), Sem.run Tryz.prog (Builtin.append_ (Array.mk [(25 : Nat), (25 : Nat)]) (25 : Nat) (Array.mk [Value.slice p n c, Value.slice (some (Addr.mk (w1.heap.size + (0 : Nat)) (0 : Nat) none)) (1 : Nat) (1 : Nat)])) w1_1 = Result.ok (Value.slice p_7 n_12 c_5) w1_2 ∧ optP p_3 fun (a : Addr) => CanStore w1_2 (a.add (4 : Nat)) (0 : Nat) [Value.slice p_7 n_12 c_5] ∧ ∀ (w1 : World), SetC w1_2 (a.add (4 : Nat)) [Value.slice p_7 n_12 c_5] w1 → J_1 [Value.slice p_2 n_6 c_1] w1) (optP p_3 fun (a : Addr) => ∃ (p : Option Addr), ∃ (n : Nat), ∃ (c : Nat), w1.cell? (a.add (3 : Nat)) = some (Value.slice p n c) ∧ optP p fun (a : Addr) => ((0 : Int) ≤ (↑n_7 : Int) ∧ (↑n_7 : Int) < (↑n : Int)) ∧ ∃ (n : Int), ∃ (b : Bool), CellsAre w1 (a.add ((↑n_7 : Int).toNat * (2 : Nat))) (0 : Nat) [Value.int IntKind.i64 n, Value.bool b] ∧ CallsF Tryz.prog (38 : Nat) (Array.mk [Value.pointer (some x), Value.agg (Array.mk [Value.int IntKind.i64 n, Value.bool b])]) w1 fun (e : Ending) (w : World) => ∃ (p : Option Addr), e = Ending.returned (Value.pointer p) ∧ ∀ (w1 : World), Ext w [OB.cells [Value.pointer p] (83 : Nat)] w1 → ∃ (w1_1 : World), ∃ (p : Option Addr), ∃ (n : Nat), ∃ (c : Nat), Sem.run Tryz.prog (Builtin.append_ (Array.mk [(87 : Nat), (87 : Nat)]) (87 : Nat) (Array.mk [Value.slice p_2 n_6 c_1, Value.slice (some (Addr.mk (w.heap.size + (0 : Nat)) (0 : Nat) none)) (1 : Nat) (1 : Nat)])) w1 = Result.ok (Value.slice p n c) w1_1 ∧ J_1 [Value.slice p n c] w1_1)) (CallsF Tryz.prog (39 : Nat) (Array.mk [Value.pointer p_3, Value.pointer (some x)]) w1 fun (e : Ending) (w_2 : World) => ∃ (n_9 : Int), e = Ending.returned (Value.int IntKind.i64 n_9) ∧ Br (decide (n_9 < (0 : Int))) (R (Ending.returned (Value.int IntKind.i64 (-1 : Int))) w_2) (optP p_3 fun (a : Addr) => ∃ (n_10 : Int), ∃ (b : Bool), CellsAre w_2 (a.add (0 : Nat)) (0 : Nat) [Value.int IntKind.i64 n_10, Value.bool b] ∧ ∃ (w1 : World), Sem.run Tryz.prog (Instr.mapUpdate (82 : Nat) (Value.map (some (w.heap.size + [OB.cells [Value.int IntKind.i64 n, Value.int IntKind.i64 n_1, Value.int IntKind.i64 n_2, Value.slice p n_3 c] (58 : Nat)].length))) (Value.agg (Array.mk [Value.int IntKind.i64 n_10, Value.bool b])) (Value.int IntKind.i64 n_9)) w_2 = Result.ok () w1 ∧ ((0 : Int) ≤ IntKind.i64.wrap ((↑n_6 : Int) - (1 : Int)) ∧ IntKind.i64.wrap ((↑n_6 : Int) - (1 : Int)) ≤ (↑c_1 : Int)) ∧ J [Value.int IntKind.i64 n_5, Value.slice (sliceA p_2 c_1 (0 : Nat) (1 : Nat)) ((IntKind.i64.wrap ((↑n_6 : Int) - (1 : Int))).toNat - (0 : Nat)) (c_1 - (0 : Nat))] w1))) (∃ (n_7 : Int), Sem.run Tryz.prog (Instr.lookup (82 : Nat) (Value.map (some (w.heap.size + [OB.cells [Value.int IntKind.i64 n, Value.int IntKind.i64 n_1, Value.int IntKind.i64 n_2, Value.slice p n_3 c] (58 : Nat)].length))) (Value.agg (Array.mk [Value.int IntKind.i64 y, Value.bool false])) false) w1 = Result.ok (Value.int IntKind.i64 n_7) w1 ∧ R (Ending.returned (Value.int IntKind.i64 n_7)) w1))
theorem E_transform_NNF (x : Addr) (y : Int) (w : World) (R : Ending → World → Prop) : shFn Tryz.prog Tryz.f17.ntmps Tryz.f17.results.toList (Tryz.f17.body.getD .skip) [Value.pointer (some x), Value.int IntKind.i64 y] w R = S_transform_NNF x y w R := by kernel_rfl
theorem C_transform_NNF (x : Addr) (y : Int) (w : World) (R : Ending → World → Prop) (h : S_transform_NNF x y w R) : CallsF Tryz.prog 17 #[Value.pointer (some x), Value.int IntKind.i64 y] w R :=
 ⟨Tryz.call17, calls_of_sh A1G7mixed Tryz.func17 rfl (Nat.le_of_ble_eq_true rfl) ((E_transform_NNF x y w R).mpr h)⟩

/-- credence/bignat.Add -/
def S_bignat_Add (x : Option Addr) (xn : Nat) (xc : Nat) (y : Option Addr) (yn : Nat) (yc : Nat) (w : World) (R : Ending → World → Prop) : Prop :=
 CallsF Tryz.prog (60 : Nat) (Array.mk [Value.slice x xn xc]) w fun (e : Ending) (w : World) => ∃ (p : Option Addr), ∃ (n : Nat), ∃ (c : Nat), e = Ending.returned (Value.slice p n c) ∧ CallsF Tryz.prog (60 : Nat) (Array.mk [Value.slice y yn yc]) w fun (e : Ending) (w : World) => ∃ (p_1 : Option Addr), ∃ (n_1 : Nat), ∃ (c_1 : Nat), e = Ending.returned (Value.slice p_1 n_1 c_1) ∧ ∀ (J : List Value → World → Prop), (∀ (p : Option Addr) (n c : Nat) (p_2 : Option Addr) (n_2 c_2 : Nat) (w1 : World), (∃ (w1_1 : World), ∃ (p_3 : Option Addr), ∃ (n_3 : Nat), ∃ (c : Nat), Sem.run Tryz.prog (Instr.makeSlice (46 : Nat) (Value.int IntKind.i64 (IntKind.i64.wrap ((↑n : Int) + (1 : Int)))) (Value.int IntKind.i64 (IntKind.i64.wrap ((↑n : Int) + (1 : Int))))) w1 = Result.ok (Value.slice p_3 n_3 c) w1_1 ∧ ∃ (I : Nat → List Value → World → Prop), (∃ (n : Nat), I n [Value.int IntKind.u64 (0 : Int), Value.int IntKind.i64 (0 : Int)] w1_1) ∧ ∀ (n_4 : Nat) (n_5 n_6 : Int) (w1 : World), I n_4 [Value.int IntKind.u64 n_5, Value.int IntKind.i64 n_6] w1 → Br (decide (n_6 < (↑n : Int))) (optP p fun (a : Addr) => ((0 : Int) ≤ n_6 ∧ n_6 < (↑n : Int)) ∧ ∃ (n : Int), w1.cell? (a.add (n_6.toNat * (1 : Nat))) = some (Value.int IntKind.u32 n) ∧ ∀ (J : List Value → World → Prop), (∀ (n : Int) (w1 : World), (optP p_3 fun (a : Addr) => ((0 : Int) ≤ n_6 ∧ n_6 < (↑n_3 : Int)) ∧ CanStore w1 (a.add (n_6.toNat * (1 : Nat))) (0 : Nat) [Value.int IntKind.u32 (IntKind.u32.wrap n)] ∧ ∀ (w1_2 : World), SetC w1 (a.add (n_6.toNat * (1 : Nat))) [Value.int IntKind.u32 (IntKind.u32.wrap n)] w1_2 → (0 : Int) ≤ (32 : Int) ∧ ∃ (n' : Nat), n' < n_4 ∧ I n' [Value.int IntKind.u64 (shrV IntKind.u64 n (32 : Int)), Value.int IntKind.i64 (IntKind.i64.wrap (n_6 + (1 : Int)))] w1_2) → J [Value.int IntKind.u64 n] w1) → Br (decide (n_6 < (↑n_2 : Int))) (optP p_2 fun (a : Addr) => ((0 : Int) ≤ n_6 ∧ n_6 < (↑n_2 : Int)) ∧ ∃ (n_7 : Int), w1.cell? (a.add (n_6.toNat * (1 : Nat))) = some (Value.int IntKind.u32 n_7) ∧ J [Value.int IntKind.u64 (IntKind.u64.wrap (IntKind.u64.wrap (IntKind.u64.wrap n + n_5) + IntKind.u64.wrap n_7))] w1) (J [Value.int IntKind.u64 (IntKind.u64.wrap (IntKind.u64.wrap n + n_5))] w1)) (optP p_3 fun (a : Addr) => ((0 : Int) ≤ (↑n : Int) ∧ (↑n : Int) < (↑n_3 : Int)) ∧ CanStore w1 (a.add ((↑n : Int).toNat * (1 : Nat))) (0 : Nat) [Value.int IntKind.u32 (IntKind.u32.wrap n_5)] ∧ ∀ (w1_2 : World), SetC w1 (a.add ((↑n : Int).toNat * (1 : Nat))) [Value.int IntKind.u32 (IntKind.u32.wrap n_5)] w1_2 → CallsF Tryz.prog (60 : Nat) (Array.mk [Value.slice p_3 n_3 c]) w1_2 fun (e : Ending) (w : World) => ∃ (p : Option Addr), ∃ (n : Nat), ∃ (c : Nat), e = Ending.returned (Value.slice p n c) ∧ R (Ending.returned (Value.slice p n c)) w)) → J [Value.slice p n c, Value.slice p_2 n_2 c_2] w1) → Br (decide ((↑n : Int) < (↑n_1 : Int))) (J [Value.slice p_1 n_1 c_1, Value.slice p n c] w) (J [Value.slice p n c, Value.slice p_1 n_1 c_1] w)
theorem E_bignat_Add (x : Option Addr) (xn : Nat) (xc : Nat) (y : Option Addr) (yn : Nat) (yc : Nat) (w : World) (R : Ending → World → Prop) : shFn Tryz.prog Tryz.f42.ntmps Tryz.f42.results.toList (Tryz.f42.body.getD .skip) [Value.slice x xn xc, Value.slice y yn yc] w R = S_bignat_Add x xn xc y yn yc w R := by kernel_rfl
theorem C_bignat_Add (x : Option Addr) (xn : Nat) (xc : Nat) (y : Option Addr) (yn : Nat) (yc : Nat) (w : World) (R : Ending → World → Prop) (h : S_bignat_Add x xn xc y yn yc w R) : CallsF Tryz.prog 42 #[Value.slice x xn xc, Value.slice y yn yc] w R :=
 ⟨Tryz.call42, calls_of_sh A1G7mixed Tryz.func42 rfl (Nat.le_of_ble_eq_true rfl) ((E_bignat_Add x xn xc y yn yc w R).mpr h)⟩

/-- credence/bignat.FromUint64 -/
def S_bignat_FromUint64 (x : Int) (w : World) (R : Ending → World → Prop) : Prop :=
 (0 : Int) ≤ (32 : Int) ∧ ∀ (w1 : World), Ext w [OB.cells [Value.int IntKind.u32 (IntKind.u32.wrap x), Value.int IntKind.u32 (IntKind.u32.wrap (shrV IntKind.u64 x (32 : Int)))] (94 : Nat)] w1 → CallsF Tryz.prog (60 : Nat) (Array.mk [Value.slice (some (Addr.mk (w.heap.size + (0 : Nat)) (0 : Nat) none)) (2 : Nat) (2 : Nat)]) w1 fun (e : Ending) (w : World) => ∃ (p : Option Addr), ∃ (n : Nat), ∃ (c : Nat), e = Ending.returned (Value.slice p n c) ∧ R (Ending.returned (Value.slice p n c)) w
theorem E_bignat_FromUint64 (x : Int) (w : World) (R : Ending → World → Prop) : shFn Tryz.prog Tryz.f41.ntmps Tryz.f41.results.toList (Tryz.f41.body.getD .skip) [Value.int IntKind.u64 x] w R = S_bignat_FromUint64 x w R := by kernel_rfl
theorem C_bignat_FromUint64 (x : Int) (w : World) (R : Ending → World → Prop) (h : S_bignat_FromUint64 x w R) : CallsF Tryz.prog 41 #[Value.int IntKind.u64 x] w R :=
 ⟨Tryz.call41, calls_of_sh A1G7mixed Tryz.func41 rfl (Nat.le_of_ble_eq_true rfl) ((E_bignat_FromUint64 x w R).mpr h)⟩

/-- credence/bignat.trim -/
def S_bignat_trim (x : Option Addr) (xn : Nat) (xc : Nat) (w : World) (R : Ending → World → Prop) : Prop :=
 ∃ (I : Nat → List Value → World → Prop), (∃ (n : Nat), I n [Value.int IntKind.i64 (↑xn : Int)] w) ∧ ∀ (n : Nat) (n_1 : Int) (w1 : World), I n [Value.int IntKind.i64 n_1] w1 → ∀ (J : List Value → World → Prop), (∀ (b : Bool) (w1 : World), Br b (∃ (n' : Nat), n' < n ∧ I n' [Value.int IntKind.i64 (IntKind.i64.wrap (n_1 - (1 : Int)))] w1) (((0 : Int) ≤ n_1 ∧ n_1 ≤ (↑xc : Int)) ∧ ((0 : Int) ≤ n_1 ∧ n_1 ≤ (↑n_1.toNat : Int)) ∧ R (Ending.returned (Value.slice (sliceA x n_1.toNat (0 : Nat) (1 : Nat)) (n_1.toNat - (0 : Nat)) (n_1.toNat - (0 : Nat)))) w1) → J [Value.bool b] w1) → Br (decide (n_1 > (0 : Int))) (optP x fun (a : Addr) => ((0 : Int) ≤ IntKind.i64.wrap (n_1 - (1 : Int)) ∧ IntKind.i64.wrap (n_1 - (1 : Int)) < (↑xn : Int)) ∧ ∃ (n : Int), w1.cell? (a.add ((IntKind.i64.wrap (n_1 - (1 : Int))).toNat * (1 : Nat))) = some (Value.int IntKind.u32 n) ∧ J [Value.bool (n == (0 : Int))] w1) (J [Value.bool false] w1)
theorem E_bignat_trim (x : Option Addr) (xn : Nat) (xc : Nat) (w : World) (R : Ending → World → Prop) : shFn Tryz.prog Tryz.f60.ntmps Tryz.f60.results.toList (Tryz.f60.body.getD .skip) [Value.slice x xn xc] w R = S_bignat_trim x xn xc w R := by kernel_rfl
theorem C_bignat_trim (x : Option Addr) (xn : Nat) (xc : Nat) (w : World) (R : Ending → World → Prop) (h : S_bignat_trim x xn xc w R) : CallsF Tryz.prog 60 #[Value.slice x xn xc] w R :=
 ⟨Tryz.call60, calls_of_sh A1G7mixed Tryz.func60 rfl (Nat.le_of_ble_eq_true rfl) ((E_bignat_trim x xn xc w R).mpr h)⟩

/-- credence/credenceref1.NatCmp -/
def S_credenceref1_NatCmp (x : Option Addr) (xn : Nat) (xc : Nat) (y : Option Addr) (yn : Nat) (yc : Nat) (w : World) (R : Ending → World → Prop) : Prop :=
 CallsF Tryz.prog (40 : Nat) (Array.mk [Value.slice x xn xc]) w fun (e : Ending) (w : World) => ∃ (p : Option Addr), ∃ (n : Nat), ∃ (c : Nat), e = Ending.returned (Value.slice p n c) ∧ CallsF Tryz.prog (40 : Nat) (Array.mk [Value.slice y yn yc]) w fun (e : Ending) (w : World) => ∃ (p_1 : Option Addr), ∃ (n_1 : Nat), ∃ (c : Nat), e = Ending.returned (Value.slice p_1 n_1 c) ∧ Br ((↑n : Int) != (↑n_1 : Int)) (Br (decide ((↑n : Int) < (↑n_1 : Int))) (R (Ending.returned (Value.int IntKind.i64 (-1 : Int))) w) (R (Ending.returned (Value.int IntKind.i64 (1 : Int))) w)) (∃ (I : Nat → List Value → World → Prop), (∃ (n_2 : Nat), I n_2 [Value.int IntKind.i64 (0 : Int), Value.int IntKind.i64 (IntKind.i64.wrap ((↑n : Int) - (1 : Int)))] w) ∧ ∀ (n_2 : Nat) (n_3 n_4 : Int) (w1 : World), I n_2 [Value.int IntKind.i64 n_3, Value.int IntKind.i64 n_4] w1 → Br (decide (n_4 ≥ (0 : Int))) (optP p fun (a : Addr) => ((0 : Int) ≤ n_4 ∧ n_4 < (↑n : Int)) ∧ ∃ (n_5 : Int), w1.drew.cell? (a.add (n_4.toNat * (1 : Nat))) = some (Value.int IntKind.u32 n_5) ∧ optP p_1 fun (a : Addr) => ((0 : Int) ≤ n_4 ∧ n_4 < (↑n_1 : Int)) ∧ ∃ (n_6 : Int), w1.drew.cell? (a.add (n_4.toNat * (1 : Nat))) = some (Value.int IntKind.u32 n_6) ∧ Br (decide (n_5 < n_6)) (R (Ending.returned (Value.int IntKind.i64 (-1 : Int))) w1.drew) (optP p fun (a : Addr) => ((0 : Int) ≤ n_4 ∧ n_4 < (↑n : Int)) ∧ ∃ (n : Int), w1.drew.drew.cell? (a.add (n_4.toNat * (1 : Nat))) = some (Value.int IntKind.u32 n) ∧ optP p_1 fun (a : Addr) => ((0 : Int) ≤ n_4 ∧ n_4 < (↑n_1 : Int)) ∧ ∃ (n_7 : Int), w1.drew.drew.cell? (a.add (n_4.toNat * (1 : Nat))) = some (Value.int IntKind.u32 n_7) ∧ Br (decide (n > n_7)) (R (Ending.returned (Value.int IntKind.i64 (1 : Int))) w1.drew.drew) (∃ (n' : Nat), n' < n_2 ∧ I n' [Value.int IntKind.i64 n_3, Value.int IntKind.i64 (IntKind.i64.wrap (n_4 - (1 : Int)))] w1.drew.drew))) (R (Ending.returned (Value.int IntKind.i64 (0 : Int))) w1))
theorem E_credenceref1_NatCmp (x : Option Addr) (xn : Nat) (xc : Nat) (y : Option Addr) (yn : Nat) (yc : Nat) (w : World) (R : Ending → World → Prop) : shFn Tryz.prog Tryz.f20.ntmps Tryz.f20.results.toList (Tryz.f20.body.getD .skip) [Value.slice x xn xc, Value.slice y yn yc] w R = S_credenceref1_NatCmp x xn xc y yn yc w R := by kernel_rfl
theorem C_credenceref1_NatCmp (x : Option Addr) (xn : Nat) (xc : Nat) (y : Option Addr) (yn : Nat) (yc : Nat) (w : World) (R : Ending → World → Prop) (h : S_credenceref1_NatCmp x xn xc y yn yc w R) : CallsF Tryz.prog 20 #[Value.slice x xn xc, Value.slice y yn yc] w R :=
 ⟨Tryz.call20, calls_of_sh A1G7mixed Tryz.func20 rfl (Nat.le_of_ble_eq_true rfl) ((E_credenceref1_NatCmp x xn xc y yn yc w R).mpr h)⟩

/-- credence/credenceref1.NatOf -/
def S_credenceref1_NatOf (x : Int) (w : World) (R : Ending → World → Prop) : Prop :=
 (0 : Int) ≤ (32 : Int) ∧ ∀ (w1 : World), Ext w [OB.cells [Value.int IntKind.u32 (IntKind.u32.wrap x), Value.int IntKind.u32 (IntKind.u32.wrap (shrV IntKind.u64 x (32 : Int)))] (94 : Nat)] w1 → CallsF Tryz.prog (40 : Nat) (Array.mk [Value.slice (some (Addr.mk (w.heap.size + (0 : Nat)) (0 : Nat) none)) (2 : Nat) (2 : Nat)]) w1 fun (e : Ending) (w : World) => ∃ (p : Option Addr), ∃ (n : Nat), ∃ (c : Nat), e = Ending.returned (Value.slice p n c) ∧ R (Ending.returned (Value.slice p n c)) w
theorem E_credenceref1_NatOf (x : Int) (w : World) (R : Ending → World → Prop) : shFn Tryz.prog Tryz.f22.ntmps Tryz.f22.results.toList (Tryz.f22.body.getD .skip) [Value.int IntKind.u64 x] w R = S_credenceref1_NatOf x w R := by kernel_rfl
theorem C_credenceref1_NatOf (x : Int) (w : World) (R : Ending → World → Prop) (h : S_credenceref1_NatOf x w R) : CallsF Tryz.prog 22 #[Value.int IntKind.u64 x] w R :=
 ⟨Tryz.call22, calls_of_sh A1G7mixed Tryz.func22 rfl (Nat.le_of_ble_eq_true rfl) ((E_credenceref1_NatOf x w R).mpr h)⟩

/-- credence/credenceref1.NatNorm -/
def S_credenceref1_NatNorm (x : Option Addr) (xn : Nat) (xc : Nat) (w : World) (R : Ending → World → Prop) : Prop :=
 ∃ (I : Nat → List Value → World → Prop), (∃ (n : Nat), I n [Value.int IntKind.i64 (↑xn : Int)] w) ∧ ∀ (n : Nat) (n_1 : Int) (w1 : World), I n [Value.int IntKind.i64 n_1] w1 → ∀ (J : List Value → World → Prop), (∀ (b : Bool) (w1 : World), Br b (∃ (n' : Nat), n' < n ∧ I n' [Value.int IntKind.i64 (IntKind.i64.wrap (n_1 - (1 : Int)))] w1) (((0 : Int) ≤ n_1 ∧ n_1 ≤ (↑xc : Int)) ∧ ∀ (w1_1 : World), Ext w1 [OB.cells [] (94 : Nat)] w1_1 → ∃ (w1_2 : World), ∃ (p : Option Addr), ∃ (n : Nat), ∃ (c : Nat), Sem.run Tryz.prog (Builtin.append_ (Array.mk [(46 : Nat), (46 : Nat)]) (46 : Nat) (Array.mk [Value.slice (some (Addr.mk (w1.heap.size + (0 : Nat)) (0 : Nat) none)) (0 : Nat) (0 : Nat), Value.slice (sliceA x xc (0 : Nat) (1 : Nat)) (n_1.toNat - (0 : Nat)) (xc - (0 : Nat))])) w1_1 = Result.ok (Value.slice p n c) w1_2 ∧ R (Ending.returned (Value.slice p n c)) w1_2) → J [Value.bool b] w1) → Br (decide (n_1 > (0 : Int))) (optP x fun (a : Addr) => ((0 : Int) ≤ IntKind.i64.wrap (n_1 - (1 : Int)) ∧ IntKind.i64.wrap (n_1 - (1 : Int)) < (↑xn : Int)) ∧ ∃ (n : Int), w1.cell? (a.add ((IntKind.i64.wrap (n_1 - (1 : Int))).toNat * (1 : Nat))) = some (Value.int IntKind.u32 n) ∧ J [Value.bool (n == (0 : Int))] w1) (J [Value.bool false] w1)
theorem E_credenceref1_NatNorm (x : Option Addr) (xn : Nat) (xc : Nat) (w : World) (R : Ending → World → Prop) : shFn Tryz.prog Tryz.f40.ntmps Tryz.f40.results.toList (Tryz.f40.body.getD .skip) [Value.slice x xn xc] w R = S_credenceref1_NatNorm x xn xc w R := by kernel_rfl
theorem C_credenceref1_NatNorm (x : Option Addr) (xn : Nat) (xc : Nat) (w : World) (R : Ending → World → Prop) (h : S_credenceref1_NatNorm x xn xc w R) : CallsF Tryz.prog 40 #[Value.slice x xn xc] w R :=
 ⟨Tryz.call40, calls_of_sh A1G7mixed Tryz.func40 rfl (Nat.le_of_ble_eq_true rfl) ((E_credenceref1_NatNorm x xn xc w R).mpr h)⟩

/-- credence/transform.Leaves -/
def S_transform_Leaves (x : Addr) (y : Int) (w : World) (R : Ending → World → Prop) : Prop :=
 ∀ (w1 : World), Ext w [OB.obj (Obj.map (Array.mk []) (0 : Nat))] w1 → CallsF Tryz.prog (26 : Nat) (Array.mk [Value.pointer (some x), Value.int IntKind.i64 y]) w1 fun (e : Ending) (w_1 : World) => ∃ (p : Option Addr), ∃ (n : Nat), ∃ (c : Nat), e = Ending.returned (Value.slice p n c) ∧ ∃ (I : Nat → List Value → World → Prop), (∃ (n : Nat), I n [Value.slice none (0 : Nat) (0 : Nat), Value.int IntKind.i64 (0 : Int)] w_1) ∧ ∀ (n_1 : Nat) (p_1 : Option Addr) (n_2 c : Nat) (n_3 : Int) (w1 : World), I n_1 [Value.slice p_1 n_2 c, Value.int IntKind.i64 n_3] w1 → Br (decide (n_3 < (↑n : Int))) (optP p fun (a : Addr) => ((0 : Int) ≤ n_3 ∧ n_3 < (↑n : Int)) ∧ ∃ (n : Int), ∃ (n_4 : Int), ∃ (n_5 : Int), ∃ (n_6 : Int), ∃ (p : Option Addr), ∃ (n_7 : Nat), ∃ (c : Nat), CellsAre w1 (a.add (n_3.toNat * (5 : Nat))) (0 : Nat) [Value.int IntKind.i64 n, Value.int IntKind.i64 n_4, Value.int IntKind.i64 n_5, Value.int IntKind.i64 n_6, Value.slice p n_7 c] ∧ ∀ (w1_1 : World), Ext w1 [OB.cells [Value.int IntKind.i64 n, Value.int IntKind.i64 n_4, Value.int IntKind.i64 n_5, Value.int IntKind.i64 n_6, Value.slice p n_7 c] (60 : Nat)] w1_1 → ∀ (J : List Value → World → Prop), (∀ (p : Option Addr) (n c : Nat) (w1_2 : World), (∃ (p_2 : Option Addr), ∃ (n_8 : Nat), ∃ (c_1 : Nat), w1_2.cell? (((Addr.mk (w1.heap.size + (0 : Nat)) (0 : Nat) none).add (1 : Nat)).add (3 : Nat)) = some (Value.slice p_2 n_8 c_1) ∧ ∃ (I_1 : Nat → List Value → World → Prop), (∃ (n_9 : Nat), I_1 n_9 [Value.slice p n c, Value.int IntKind.i64 (0 : Int)] w1_2) ∧ ∀ (n : Nat) (p : Option Addr) (n_9 c : Nat) (n_10 : Int) (w1_3 : World), I_1 n [Value.slice p n_9 c, Value.int IntKind.i64 n_10] w1_3 → Br (decide (n_10 < (↑n_8 : Int))) (optP p_2 fun (a : Addr) => ((0 : Int) ≤ n_10 ∧ n_10 < (↑n_8 : Int)) ∧ ∃ (n_11 : Int), w1_3.cell? (a.add (n_10.toNat * (1 : Nat))) = some (Value.int IntKind.i64 n_11) ∧ ∃ (p_3 : Option Addr), ∃ (n_12 : Nat), ∃ (c_2 : Nat), Sem.run Tryz.prog (Instr.lookup (95 : Nat) (Value.map (some (w.heap.size + (0 : Nat)))) (Value.int IntKind.i64 n_11) false) w1_3 = Result.ok (Value.slice p_3 n_12 c_2) w1_3 ∧ CallsF Tryz.prog (42 : Nat) (Array.mk [Value.slice p n_9 c, Value.slice p_3 n_12 c_2]) w1_3 fun (e : Ending) (w : World) => ∃ (p : Option Addr), ∃ (n_13 : Nat), ∃ (c : Nat), e = Ending.returned (Value.slice p n_13 c) ∧ ∃ (n' : Nat), n' < n ∧ I_1 n' [Value.slice p n_13 c, Value.int IntKind.i64 (IntKind.i64.wrap (n_10 + (1 : Int)))] w) (∃ (n : Int), w1_3.cell? ((Addr.mk (w1.heap.size + (0 : Nat)) (0 : Nat) none).add (0 : Nat)) = some (Value.int IntKind.i64 n) ∧ ∃ (w1 : World), Sem.run Tryz.prog (Instr.mapUpdate (95 : Nat) (Value.map (some (w.heap.size + (0 : Nat)))) (Value.int IntKind.i64 n) (Value.slice p n_9 c)) w1_3 = Result.ok () w1 ∧ ∃ (n' : Nat), n' < n_1 ∧ I n' [Value.slice p n_9 c, Value.int IntKind.i64 (IntKind.i64.wrap (n_3 + (1 : Int)))] w1)) → J [Value.slice p n c] w1_2) → Br (n_4 == (2 : Int)) (CallsF Tryz.prog (41 : Nat) (Array.mk [Value.int IntKind.u64 (1 : Int)]) w1_1 fun (e : Ending) (w : World) => ∃ (p : Option Addr), ∃ (n : Nat), ∃ (c : Nat), e = Ending.returned (Value.slice p n c) ∧ J [Value.slice p n c] w) (J [Value.slice none (0 : Nat) (0 : Nat)] w1_1)) (R (Ending.returned (Value.slice p_1 n_2 c)) w1)
theorem E_transform_Leaves (x : Addr) (y : Int) (w : World) (R : Ending → World → Prop) : shFn Tryz.prog Tryz.f21.ntmps Tryz.f21.results.toList (Tryz.f21.body.getD .skip) [Value.pointer (some x), Value.int IntKind.i64 y] w R = S_transform_Leaves x y w R := by kernel_rfl
theorem C_transform_Leaves (x : Addr) (y : Int) (w : World) (R : Ending → World → Prop) (h : S_transform_Leaves x y w R) : CallsF Tryz.prog 21 #[Value.pointer (some x), Value.int IntKind.i64 y] w R :=
 ⟨Tryz.call21, calls_of_sh A1G7mixed Tryz.func21 rfl (Nat.le_of_ble_eq_true rfl) ((E_transform_Leaves x y w R).mpr h)⟩


end Go.Proofs.YtajfdcbknghipaaGreatDoor
end
