/- The law TransformCondition of the package credencelaw23 answers true at every input and leaves its arguments as they were (Rows.TransformConditionCardSaid); no condition beyond the card's own: the three listed tables stand as the program's text lays them. Part 25 of 25. -/
import Derived.OpenVars
import Derived.ChangeSame
import Derived.OpenShut
import Derived.Deep.Slices
import Derived.Lib.SmallJoins
import Derived.WideShapes
import Derived.WalkKit
import Derived.ProofKit
import Derived.Deep.DeepHandedRow
import Derived.Lib.LaidTab
import Derived.LaidSub
import Derived.Test.YtajfdcbknghipaaGreatDoorW24
import Derived.Test.YtajfdcbknghipaaGreatDoorW14
import Derived.Test.YtajfdcbknghipaaGreatDoorCards
import Derived.Test.YtajfdcbknghipaaGreatDoorTie

section
/- Layer 23's helpers: Usable, imported, holds. Conditions on memory as stated. -/
namespace Go.Proofs.YtajfdcbknghipaaGreatDoor
open Go Go.Sh Go.Fm

variable {w : World} {s : Addr} {L : List Nd} {d : SD} {B : Nat}

theorem exp_vf (hw : WF L) {a : Nat} (ha : a < L.length) {F : List FNode} (hF : F.map FNode.nd = expN L a) (hnn : ∀ x ∈ F, ∀ v ∈ x.ins, 0 ≤ v) : vf F = true := by
  have hok := hw.ok
  have hasc := coneL_asc hok a
  have hnd := asc_nodup hasc
  have hmemL : ∀ x ∈ coneL L a, x < L.length := fun x hx => by have := cone_le hok a ha hx; omega
  have hcl : ∀ x ∈ coneL L a, ∀ n, L[x]? = some n → ∀ y ∈ n.ins, y ∈ coneL L a := fun x hx n hn y hy => cone_trans hok a ha hx hn hy
  have hexp : expN L a = (coneL L a).map fun x => reN (coneL L a) (nodeAt L x) := rfl
  rw [hexp] at hF
  generalize coneL L a = l at *
  rw [vf_iff]
  intro j x hj
  have hxF := List.mem_of_getElem? hj
  have h1 : (F.map FNode.nd)[j]? = some x.nd := by rw [List.getElem?_map, hj]; rfl
  rw [hF, List.getElem?_map] at h1
  cases hz : l[j]? with
  | none => rw [hz] at h1; cases h1
  | some z =>
    rw [hz] at h1
    simp only [Option.map_some, Option.some.injEq] at h1
    have hzm := List.mem_of_getElem? hz
    have hn : L[z]? = some (L[z]'(hmemL z hzm)) := List.getElem?_eq_getElem _
    generalize L[z]'(hmemL z hzm) = n at hn
    rw [nodeAt_eq hn] at h1
    have hnok := hok z n hn
    have ek : x.kind = n.kind := (congrArg Nd.kind h1).symm
    have eb : x.block = n.block := (congrArg Nd.block h1).symm
    have ea : x.alt = n.alt := (congrArg Nd.alt h1).symm
    have ei : x.ins.map Int.toNat = n.ins.map fun y => l.idxOf y := (congrArg Nd.ins h1).symm
    have el : x.ins.length = n.ins.length := by have := congrArg List.length ei; simpa using this
    unfold vnode
    rw [Bool.and_eq_true]
    constructor
    · unfold vform
      rw [ek, eb, ea, el]
      have k0 := hnok.k0; have k1 := hnok.k1
      split
      · rename_i hk
        have hp := hnok.plain (by omega)
        have hl := hnok.leaf (by omega)
        rw [hl]
        exact decide_eq_true ⟨hp.1, hp.2, rfl⟩
      split
      · rename_i hk
        have hl := hnok.leaf (by omega)
        rw [hl]
        unfold validP
        rw [decide_eq_true ⟨hnok.b0, hnok.b1, hnok.a0, hnok.a1⟩]; rfl
      split
      · rename_i hk
        have hp := hnok.plain (by omega)
        exact decide_eq_true ⟨hp.1, hp.2, hnok.not1 hk⟩
      split
      · have hp := hnok.plain (by omega)
        exact decide_eq_true hp
      · omega
    · unfold insOK
      rw [List.all_eq_true]
      intro u hu
      have h0 := hnn x hxF u hu
      have hm : u.toNat ∈ x.ins.map Int.toNat := List.mem_map.2 ⟨u, hu, rfl⟩
      rw [ei] at hm
      obtain ⟨y, hy, hyu⟩ := List.mem_map.1 hm
      have hyi := asc_before hasc hz (hcl z hzm n hn y hy) (hnok.lt y hy)
      obtain ⟨k, hk⟩ := List.getElem?_of_mem hyi
      rw [List.getElem?_take] at hk
      split at hk
      · rename_i hkj
        rw [idxOf_get hnd hk] at hyu
        exact decide_eq_true (by omega)
      · cases hk

theorem holds2_ok (h : StM w s L d) (hw : WF L) (hL : L.length ≤ 200) {a : Nat} (ha : a < L.length) {z : Option Addr} {zc : Nat} {v : List Int} (hz : Row w z (ints v)) :
    CallsF Tryz.prog 10 #[.pointer (some s), .int .i64 a, .slice z v.length zc] w (Ret (.tuple #[.bool (val L v a), .bool true]) NoB w) := by
  refine C_credencelaw23_holds _ _ _ _ _ _ _ ?_
  refine (export_ok h hw.ok (by omega) ha).mono ?_
  rintro e w1 ⟨p, F, rfl, hform, hF, hnn, hm1⟩
  refine ⟨_, _, _, _, rfl, ?_⟩
  intro w2 hw2
  have hmemL : ∀ x ∈ coneL L a, x < L.length := fun x hx => by have := cone_le hw.ok a ha hx; omega
  have hcl : (coneL L a).length ≤ L.length := asc_len (coneL_asc hw.ok a) hmemL
  have hFl : F.length = (coneL L a).length := by
    have := congrArg List.length hF
    unfold expN at this
    simpa using this
  have hFi : ∀ x ∈ F, x.ins.length ≤ 200 := by
    intro x hx
    have h1 : x.nd ∈ expN L a := by rw [← hF]; exact List.mem_map.2 ⟨x, hx, rfl⟩
    unfold expN at h1
    obtain ⟨y, hy, hyx⟩ := List.mem_map.1 h1
    have hn : L[y]? = some (L[y]'(hmemL y hy)) := List.getElem?_eq_getElem _
    rw [nodeAt_eq hn] at hyx
    have h2 : x.ins.length = (L[y]'(hmemL y hy)).ins.length := by
      have h5 : (reN (coneL L a) (L[y]'(hmemL y hy))).ins.length = x.nd.ins.length := congrArg (fun n : Nd => n.ins.length) hyx
      have e1 : x.nd.ins.length = x.ins.length := by show (x.ins.map Int.toNat).length = _; rw [List.length_map]
      have e2 : (reN (coneL L a) (L[y]'(hmemL y hy))).ins.length = (L[y]'(hmemL y hy)).ins.length := by show ((L[y]'(hmemL y hy)).ins.map _).length = _; rw [List.length_map]
      rw [← e1, ← h5, e2]
    have h3 := (hw.ok y _ hn).len
    have h4 := hmemL y hy
    omega
  have hm02 := hm1.then hw2.mod
  refine (holds_ok (hform.same hw2.mod) (by omega) hFi (hz.keep hm02 fun _ _ => NoB.not)).mono ?_
  rintro e w3 ⟨rfl, hm3⟩
  refine ⟨_, rfl, ?_, hm02.then hm3⟩
  have hroot : rootV F v = val L v a := by unfold rootV; rw [hF]; exact exp_root hw.ok ha v
  rw [exp_vf hw ha hF hnn, Bool.true_and, hroot]; rfl

theorem usable_ok {p : Option Addr} {c : Nat} {f : List FNode} (h : FormM B w p f) (hf : f.length ≤ 9223372036854775807) {m : Nat} (hm : m ≤ 200) :
    CallsF Tryz.prog 4 #[.agg #[.slice p f.length c], .int .i64 m] w (Ret (.bool (decide (f.length ≤ m ∧ ∀ x ∈ f, x.ins.length ≤ m) && vf f)) NoB w) := by
  refine C_credencelaw23_Usable _ _ _ _ _ _ ?_
  intro w1 hw1
  have hb1 := hw1.blk 0 rfl
  intro J hJ
  refine ⟨_, _, _, hb1.cellsAre, ?_⟩
  refine (small_ok (h.same hw1.mod) (by omega) hf).mono ?_
  rintro e w2 ⟨rfl, hm2⟩
  have hm02 := hw1.mod.then hm2
  refine ⟨_, rfl, Br_dec (fun hs => ?_) fun hs => ?_⟩
  · refine ⟨_, _, _, (hb1.keep hm2 NoB.not).cellsAre, ?_⟩
    refine (rvalid_ok (h.same hm02) (by omega) fun x hx => Nat.le_trans (hs.2 x hx) hm).mono ?_
    rintro e w3 ⟨rfl, hm3⟩
    refine ⟨_, rfl, hJ _ _ ⟨?_, hm02.then hm3⟩⟩
    rw [decide_eq_true hs, Bool.true_and]
  · refine hJ _ _ ⟨?_, hm02⟩
    rw [decide_eq_false hs, Bool.false_and]

theorem imported_ok (hT : TabB B w) (hB : B ≤ w.heap.size) {p : Option Addr} {c : Nat} {f : List FNode} (h : FormM B w p f) (hs : f.length ≤ 200) (hi : ∀ x ∈ f, x.ins.length ≤ 200) (hv : vf f = true) :
    CallsF Tryz.prog 6 #[.agg #[.slice p f.length c]] w fun e w' => ∃ (s m : Addr) (d : SD), e = .returned (.tuple #[.pointer (some s), .pointer (some m), .int .i64 ((impF L0 [] f).2.getLastD 0 : Nat), .bool true]) ∧ Fresh w w' s (impF L0 [] f).1 d := by
  refine C_credencelaw23_imported _ _ _ _ _ ?_
  intro w1 hw1
  have hb1 := hw1.blk 0 rfl
  have hs1 := hw1.mod.size
  refine (newStore_ok w1).mono ?_
  rintro e w2 ⟨s, d1, rfl, h1, hm2, hg1⟩
  have hm02 := hw1.mod.then hm2
  have hs2 := hm02.size
  refine ⟨_, rfl, ?_⟩
  refine (rnew_ok (hT.keep hB hm02 fun _ h => h.elim) (Nat.le_trans hB hs2)).mono ?_
  rintro e w3 ⟨sr, dr, rfl, hr3, hm3, hgr⟩
  have hm03 := hm02.then hm3
  have hs3 := hm3.size
  have hL0 : L0.length = 2 := rfl
  refine ⟨_, rfl, Br_false rfl ⟨_, _, _, ((hb1.keep hm2 NoB.not).keep hm3 NoB.not).cellsAre, ?_⟩⟩
  have hfp1 : ∀ b, d1.fp b → w1.heap.size ≤ b := hg1
  refine (import_ok (B := B) (h1.same hm3) (by omega) (h.same hm03) (by omega) (fun b hb => by have := hfp1 b hb; omega) hs hi hv).mono ?_
  rintro e w4 ⟨rfl, d4, h4, hm4, hfp4⟩
  have hs4 := hm4.size
  have hm04 : Mod NoB w w4 := hm03.new _ hm4 fun x hx hf => by have := hfp1 x hf; omega
  have hlt1 := h1.m.lt
  have hb4 := ((hb1.keep hm2 NoB.not).keep hm3 NoB.not).keep hm4 fun hf => by have := hfp1 _ hf; have := hw1.size; simp at this; omega
  refine ⟨_, _, rfl, _, _, _, hb4.cellsAre, ?_⟩
  have hr4 : RefM w4 sr L0 dr := hr3.keep hm4 fun b hb hf => by have h5 := hgr b hb; have h6 := hlt1 b hf; omega
  have hallr := hr3.allLt
  refine (rimport_ok hr4 L0_ok (hT.keep hB hm04 fun _ h => h.elim) (by omega) (by omega) (h.same hm04) (fun b hb => by have := hgr b hb; omega) hs hi hv).mono ?_
  rintro e w5 ⟨rfl, dr5, hr5, hm5, hfp5, hall5⟩
  refine ⟨_, _, rfl, ?_⟩
  intro J hJ
  have hm05 : Mod NoB w w5 := hm04.new _ hm5 fun x hx hf => by have := hgr x (.inl hf); omega
  refine Br_true rfl (Br_true rfl (hJ _ _ _ _ _ ⟨s, sr, d4, ?_, ⟨h4.keep hm5 fun b hb hf => ?_, fun b hb => ?_, hm05⟩⟩))
  · have : ((((impF L0 [] f).2.getLastD 0 : Nat) : Int) == (((impF L0 [] f).2.getLastD 0 : Nat) : Int)) = true := by simp
    rw [this]
  · have h6 := hgr b (.inl hf)
    have h7 := hallr b (.inl hf)
    rcases hfp4 b hb with h' | h'
    · have := hlt1 b h'; omega
    · omega
  · rcases hfp4 b hb with h' | h'
    · have := hfp1 b h'; omega
    · omega

end Go.Proofs.YtajfdcbknghipaaGreatDoor
end

section
/- append over slices of two types that have one element type. No condition. -/
namespace Go.Sh
open Go
theorem append_types {P : Program} {t t' e e' ty : TypeId} (h : P.underlying t = some (.slice e)) (h' : P.underlying t' = some (.slice e')) (p : Option Addr) (n c : Nat) (b : Value) (w : World) : (Builtin.append_ #[t, t'] ty #[.slice p n c, b]).run P w = (Builtin.append_ #[t, t] ty #[.slice p n c, b]).run P w := by
  unfold Builtin.append_
  simp only [List.getElem?_toArray, List.getElem?_cons_zero, List.getElem?_cons_succ, Sem.run_bind, run_underlying h, run_underlying h', Result.andThen_ok, Sem.run_pure]
end Go.Sh
end

section
/- TransformCondition, walked: it answers true. Conditions on memory as stated. -/
namespace Go.Proofs.YtajfdcbknghipaaGreatDoor
open Go Go.Sh Go.Fm

variable {w : World} {B : Nat}

theorem impF_inv {f : List FNode} (hv : vf f = true) : ∀ i, i ≤ f.length → WF (impF L0 [] (f.take i)).1 ∧ (∀ a ∈ (impF L0 [] (f.take i)).2, a < (impF L0 [] (f.take i)).1.length) ∧ (impF L0 [] (f.take i)).1.length ≤ 2 + i ∧ (impF L0 [] (f.take i)).2.length = i := by
  have hvn := vf_iff.1 hv
  intro i
  induction i with
  | zero => intro _; exact ⟨L0_ok, (fun a ha => nomatch ha), Nat.le_refl _, rfl⟩
  | succ i ih =>
    intro hi
    obtain ⟨h1, h2, h3, h4⟩ := ih (by omega)
    have hx : f[i]? = some (f[i]'(by omega)) := List.getElem?_eq_getElem (by omega)
    have htake : f.take (i + 1) = f.take i ++ [f[i]'(by omega)] := List.take_succ_eq_append_getElem (by omega)
    generalize f[i]'(by omega) = x at hx htake
    rw [htake, impF_snoc]
    generalize impF L0 [] (f.take i) = st at h1 h2 h3 h4 ⊢
    obtain ⟨Li, nums⟩ := st
    simp only at h1 h2 h3 h4 ⊢
    have hvx := hvn i x hx
    unfold vnode at hvx
    rw [Bool.and_eq_true] at hvx
    have hins := insOK_iff hvx.2
    have hnl2 : (numsOf nums x.ins).length = x.ins.length := by simp [numsOf]
    have hnlt := numsOf_lt h2 (ins := x.ins) (fun y hy => by have := hins y hy; omega)
    have hwf7 := addN_wf h1 (l := numsOf nums x.ins) (by rw [hnl2]; exact hvx.1) hnlt
    have hrlt := addN_lt h1 (l := numsOf nums x.ins) hvx.1 hnl2 hnlt
    obtain ⟨ex, hex, hexl⟩ := addN_ext Li x.kind x.block x.alt (numsOf nums x.ins)
    refine ⟨hwf7, fun a ha => ?_, by rw [hex, List.length_append]; omega, by rw [List.length_append, h4]; rfl⟩
    rcases List.mem_append.1 ha with ha | ha
    · have := h2 a ha
      rw [hex, List.length_append]; omega
    · simp only [List.mem_singleton] at ha
      subst ha; exact hrlt
theorem impF_root {f : List FNode} (hv : vf f = true) : WF (impF L0 [] f).1 ∧ (impF L0 [] f).2.getLastD 0 < (impF L0 [] f).1.length ∧ (impF L0 [] f).1.length ≤ 2 + f.length := by
  have := impF_inv hv f.length (Nat.le_refl _)
  rw [List.take_length] at this
  obtain ⟨h1, h2, h3, _⟩ := this
  refine ⟨h1, ?_, h3⟩
  have h5 := h1.two
  rcases List.eq_nil_or_concat (impF L0 [] f).2 with h | ⟨l, x, h⟩
  · rw [h]; show 0 < _; omega
  · rw [List.concat_eq_append] at h
    rw [h, List.getLastD_concat]
    exact h2 x (by rw [h]; simp)

theorem elem_world : ElemOK Tryz.prog 35 3 1 8 (.int .i64 0) := elem_of (by kernel_rfl) (by kernel_rfl) rfl (by decide)
theorem und_ints : Tryz.prog.underlying 25 = some (.slice 3) := by kernel_rfl

theorem transformCondition_ok (hT : TabB B w) (hB : B ≤ w.heap.size) {p : Option Addr} {c : Nat} {f : List FNode} (hform : FormM B w p f) (hf : f.length ≤ 9223372036854775807) {u : Option Addr} {uc : Nat} {v0 : List Int} (hu : RowL B w u (ints v0)) (y z : Int) (hy : -9223372036854775808 ≤ y ∧ y ≤ 9223372036854775807) :
    CallsF Tryz.prog 3 #[.agg #[.slice p f.length c], .int .i64 y, .int .i64 z, .slice u v0.length uc] w (Ret (.bool true) NoB w) := by
  have hmax : maxLen = 9223372036854775807 := rfl
  refine C_credencelaw23_TransformCondition _ _ _ _ _ _ _ _ _ _ ?_
  intro w1 hw1
  have hb1 := hw1.blk 0 rfl
  intro J hJ
  have main : ∀ (w2 : World) (b : Bool), (b = false → f.length ≤ 60 ∧ (∀ x ∈ f, x.ins.length ≤ 60) ∧ vf f = true ∧ v0.length ≤ 60) → Mod NoB w1 w2 → J [.bool b] w2 := by
    intro w2 b hbf hm2
    have hm02 := hw1.mod.then hm2
    refine hJ _ _ (Br_intro (fun _ => ?_) fun hb => ?_)
    · refine (awake_ok w2).mono ?_
      rintro e w3 ⟨rfl, hm3⟩
      exact ⟨_, rfl, rfl, hm02.then hm3⟩
    obtain ⟨hs, hi, hv, hul⟩ := hbf hb
    have hB2 := Nat.le_trans hB hm02.size
    refine ⟨_, _, _, (hb1.keep hm2 NoB.not).cellsAre, ?_⟩
    refine (imported_ok (hT.keep hB hm02 fun _ h => h.elim) hB2 (hform.same hm02) (by omega) (fun x hx => by have := hi x hx; omega) hv).mono ?_
    rintro e w3 ⟨s, m, d, rfl, f3⟩
    obtain ⟨hwf, hroot, hlen⟩ := impF_root hv
    generalize (impF L0 [] f).2.getLastD 0 = a at hroot ⊢
    generalize (impF L0 [] f).1 = L at f3 hwf hroot hlen
    refine ⟨_, _, _, _, rfl, Br_false rfl ?_⟩
    refine (index_ok y 60 (by decide) (by decide) hy.1 hy.2 w3).mono ?_
    rintro e w4 ⟨n, hn60, rfl, hm4⟩
    have f4 := f3.same hm4
    refine ⟨_, rfl, ?_⟩
    refine (Condition_ok f4.st (by omega) hroot n z).mono ?_
    rintro e w5 ⟨rfl, hp⟩
    obtain ⟨d5, f5⟩ := f4.step hp
    -- a world that makes the choice
    have hsem := fun (vv : List Int) (h : vv[((n : Nat) : Int).toNat]? = some z) => cond_sem hwf hroot (b := (n : Nat)) (al := z) h
    have hex0 : ∃ vv : List Int, vv[((n : Nat) : Int).toNat]? = some z := ⟨List.replicate (n + 1) z, by rw [Int.toNat_natCast]; simp⟩
    obtain ⟨vv0, hvv0⟩ := hex0
    obtain ⟨g1, ⟨e5, ge5, gl5⟩, g3, _, g5⟩ := hsem vv0 hvv0
    have hid := cond_id g1 g3 g5 0
    have hvals : ∀ vv : List Int, vv[((n : Nat) : Int).toNat]? = some z → val (condF L a n z).1 vv (condF L a n z).2 = val (condF L a n z).1 vv a := by
      intro vv h
      obtain ⟨_, ⟨e', ge', _⟩, _, h4, _⟩ := hsem vv h
      rw [h4, ge', val_append hroot]
    have hlen5 : (condF L a n z).1.length ≤ 200 := by rw [ge5, List.length_append]; omega
    have hroot5 : a < (condF L a n z).1.length := by rw [ge5, List.length_append]; omega
    generalize condF L a n z = r at f5 g1 g3 g5 hid hvals hlen5 hroot5 ⊢
    obtain ⟨L5, c5⟩ := r
    simp only at f5 g1 g3 g5 hid hvals hlen5 hroot5 ⊢
    refine ⟨_, rfl, Br_false (by rw [decide_eq_false_iff_not]; omega) ?_⟩
    refine (support_ok f5.st.m g1.ok (by omega) g3).mono ?_
    rintro e w6 ⟨ps, cs, l6, rfl, hasc6, hmem6, hown6, hps6, hm6⟩
    have f6 := f5.same hm6
    refine ⟨_, _, _, rfl, ?_⟩
    have hnot : ∀ x ∈ l6, x ≠ (n : Nat) := by
      intro x hx e
      rw [hmem6] at hx
      obtain ⟨i, hi, hbi⟩ := List.mem_filterMap.1 hx
      unfold blockOf at hbi
      cases hL : L5[i]? with
      | none => rw [hL] at hbi; cases hbi
      | some nd =>
        rw [hL] at hbi
        simp only at hbi
        split at hbi
        · rename_i hk
          injection hbi with hbi
          exact g5 i hi nd hL hk (by rw [hbi]; exact e)
        · cases hbi
    have hle6 := Own.le hown6
    have hl6 : l6.length ≤ 9223372036854775807 := by rw [hmax] at hle6; omega
    refine ⟨fun m vs w' => ∃ i : Nat, m = l6.length - i ∧ i ≤ l6.length ∧ vs = [.bool false, .int .i64 i] ∧ w' = w6, ⟨_, 0, rfl, Nat.zero_le _, rfl, rfl⟩, ?_⟩
    rintro m b' i' w7 ⟨i, rfl, hi6, hvs, rfl⟩
    simp only [List.cons.injEq, Value.int.injEq, Value.bool.injEq, true_and, and_true] at hvs
    obtain ⟨rfl, rfl⟩ := hvs
    refine Br_dec (fun hlt => ?_) fun hge => ?_
    · have hi' : i < l6.length := by omega
      have hx : l6[i]? = some l6[i] := List.getElem?_eq_getElem hi'
      have hxm : l6[i] ∈ l6 := List.getElem_mem hi'
      generalize l6[i] = x at hx hxm
      obtain ⟨ap, hap, hcp⟩ := hown6.row.at (i := i) (v := .int .i64 x) (by rw [ints_get, hx]; rfl)
      refine optP_intro hap ⟨⟨by omega, by omega⟩, x, by rw [Int.toNat_natCast, Nat.mul_one]; exact hcp, Br_eq (fun e => absurd e (hnot x hxm)) fun _ => ?_⟩
      exact ⟨l6.length - (i + 1), by omega, i + 1, rfl, hi', by rw [wrap_i64 (by omega) (by omega)]; rfl, rfl⟩
    intro w8 hw8
    have f8 := f6.same hw8.mod
    have ho8 : Own w8 3 1 (some ⟨w7.heap.size + 0, 0, none⟩) 0 0 [] := Own.fresh hw8 0 1 0 rfl rfl (by decide)
    have hm08 := hm02.then f8.mod
    have hrow8 : Row w8 u (ints v0) := (hu.keep hm08 fun _ h => h.elim).row
    obtain ⟨p9, c9, w9, hrun9, ho9, hm9, hat9⟩ := append_own (m := v0.length) (mc := uc) (ty := 35) elem_world ho8 hrow8 (by rw [ints_len, Nat.mul_one]) (by
      intro x hx
      simp only [ints, List.mem_map] at hx
      obtain ⟨q, _, rfl⟩ := hx; rfl) (by rw [hmax]; omega) (by omega)
    rw [Nat.zero_add, List.nil_append] at ho9
    rw [Nat.zero_add] at hrun9
    refine ⟨w9, p9, _, c9, by rw [append_types elem_world.sl und_ints]; exact hrun9, ?_⟩
    have hs8 := hw8.size
    simp only [List.length_cons, List.length_nil] at hs8
    have hd5lt : ∀ b, d5.fp b → b < w7.heap.size := f6.st.m.lt
    have hs7 : w2.heap.size ≤ w7.heap.size := f6.mod.size
    have hp9 : ∀ b, At p9 b → w7.heap.size ≤ b := by
      intro b hb
      rcases hat9 b hb with h' | h'
      · rw [at_some] at h'; omega
      · omega
    have f9 : Fresh w2 w9 s L5 d5 := f8.keep hm9 (fun b hb hp => by rw [at_some] at hp; have := hd5lt b hb; omega) fun b hp => by rw [at_some] at hp; omega
    -- the world grows until it has the block
    refine ⟨fun m vs w' => ∃ (vv : List Int) (q : Option Addr) (cq : Nat), m = 120 - vv.length ∧ vs = [.slice q vv.length cq] ∧ vv.length ≤ 61 ∧ Own w' 3 1 q vv.length cq (ints vv) ∧ (∀ b, At q b → w7.heap.size ≤ b) ∧ w7.heap.size ≤ w'.heap.size ∧ Fresh w2 w' s L5 d5, ⟨_, v0, p9, c9, rfl, rfl, by omega, ho9, hp9, by have := hm9.size; omega, f9⟩, ?_⟩
    rintro m q' nq cq' w10 ⟨vv, q, cq, rfl, hvs, hvl, ho10, hq10, hs7', f10⟩
    simp only [List.cons.injEq, Value.slice.injEq, and_true] at hvs
    obtain ⟨rfl, rfl, rfl⟩ := hvs
    refine Br_dec (fun hle => ?_) fun hgt => ?_
    · intro w11 hw11
      obtain ⟨w12, p12, c12, hrun, ho12, hm12, hat12⟩ := append_one (ty := 35) elem_world ho10 (vs := [.int .i64 (-1)]) rfl (by intro x hx; simp only [List.mem_singleton] at hx; subst hx; rfl) (by omega) (by omega) hw11
      have hs10 := f10.mod.size
      have hl12 : vv.length + 1 = (vv ++ [(-1 : Int)]).length := by rw [List.length_append]; rfl
      refine ⟨w12, p12, _, c12, hrun, 120 - (vv.length + 1), by omega, vv ++ [-1], p12, c12, by rw [← hl12], by rw [hl12], by rw [← hl12]; omega, ?_, ?_, by have := hm12.size; omega, ?_⟩
      · rw [← hl12]
        have : ints (vv ++ [(-1 : Int)]) = ints vv ++ [.int .i64 (-1)] := by rw [ints_append]; rfl
        rw [this]; exact ho12
      · intro b hb
        rcases hat12 b hb with h' | h'
        · exact hq10 b h'
        · omega
      · exact f10.keep hm12 (fun b hb hp => by have h1 := hd5lt b hb; have h2 := hq10 b hp; omega) fun b hp => by have := hq10 b hp; omega
    · have hnv : n < vv.length := by omega
      obtain ⟨g, rest, rfl, hbg, hcap, _, _⟩ : ∃ g rest, q' = some ⟨g, 0, none⟩ ∧ Blk w10 g (ints vv ++ rest) 3 ∧ vv.length ≤ cq' ∧ True ∧ True := by
        rcases ho10.form with ⟨_, h0, _⟩ | ⟨g, rest, rfl, hb, h2, _⟩
        · omega
        · exact ⟨g, rest, rfl, hb, h2, trivial, trivial⟩
      refine ⟨⟨by omega, by omega⟩, ?_, ?_⟩
      · rw [own_add]
        refine canStore_blk hbg _ 0 rfl ?_
        simp only [List.length_append, ints_len, List.length_cons, List.length_nil, Int.toNat_natCast]
        omega
      intro w11 hw11
      rw [own_add, Int.toNat_natCast, Nat.zero_add, Nat.mul_one] at hw11
      have hb11 := hw11.blk hbg
      have hg7 : w7.heap.size ≤ g := hq10 g (by rw [at_some])
      have hset : setAt (ints vv ++ rest) n [.int .i64 z] = ints (vv.set n z) ++ rest := by
        show (ints vv ++ rest).set n (.int .i64 z) = _
        have e : (ints vv).set n (.int .i64 z) = ints (vv.set n z) := by unfold ints; exact List.map_set.symm
        rw [List.set_append_left _ _ (by rw [ints_len]; exact hnv), e]
      rw [hset] at hb11
      have hm11 : Mod (· = g) w10 w11 := hw11.mod
      have f11 : Fresh w2 w11 s L5 d5 := f10.keep hm11 (fun b hb e => by have h1 := hd5lt b hb; have e' : b = g := e; omega) fun b e => by have e' : b = g := e; omega
      have hrow11 : Row w11 (some ⟨g, 0, none⟩) (ints (vv.set n z)) := (Row.of_blk hb11).front
      have hvz : (vv.set n z)[((n : Nat) : Int).toNat]? = some z := by rw [Int.toNat_natCast, List.getElem?_set_self hnv]
      have hll : (vv.set n z).length = vv.length := List.length_set ..
      have h1 := holds2_ok (zc := cq') f11.st.m g1 hlen5 hroot5 hrow11
      rw [hll] at h1
      refine h1.mono ?_
      rintro e w12 ⟨rfl, hm12⟩
      have f12 := f11.same hm12
      refine ⟨_, _, rfl, ?_⟩
      have h2 := holds2_ok (zc := cq') f12.st.m g1 hlen5 g3 (hrow11.keep hm12 fun _ _ => NoB.not)
      rw [hll] at h2
      refine h2.mono ?_
      rintro e w13 ⟨rfl, hm13⟩
      have f13 := f12.same hm13
      refine ⟨_, _, rfl, ?_⟩
      intro J2 hJ2
      refine Br_true rfl (Br_true rfl (Br_true (by rw [hvals _ hvz]; simp) ?_))
      have h3 := Condition_ok f13.st (by omega) g3 n 0
      rw [hid] at h3
      refine h3.mono ?_
      rintro e w14 ⟨rfl, hp14⟩
      obtain ⟨d14, f14⟩ := f13.step hp14
      refine ⟨_, rfl, Br_true (by simp) ?_⟩
      refine (awake_ok w14).mono ?_
      rintro e w15 ⟨rfl, hm15⟩
      exact ⟨_, rfl, hJ2 _ _ ⟨rfl, (hm02.then f14.mod).then hm15⟩⟩
  refine ⟨_, _, _, hb1.cellsAre, ?_⟩
  refine (usable_ok (hform.same hw1.mod) hf (m := 60) (by decide)).mono ?_
  rintro e w2 ⟨rfl, hm2⟩
  refine ⟨_, rfl, Br_not (Br_intro (fun hu => main w2 _ (fun hb => ?_) hm2) fun hu => main w2 true (fun h => by cases h) hm2)⟩
  rw [Bool.and_eq_true, decide_eq_true_iff] at hu
  have := of_decide_eq_false hb
  exact ⟨hu.1.1, hu.1.2, hu.2, by omega⟩

end Go.Proofs.YtajfdcbknghipaaGreatDoor
end

section
/- A law's answer, where nothing below the old heap's size has turned; slices of numbers read as data. No condition. -/
namespace Go.Sh
open Go Go.ChangeShapes Go.WideShapes Go.RowKit Go.WideElems

theorem below_kept {w w' : World} (h : Below w.heap.size w w') (may : MemPlace → Prop) : w.keptBut w' may := by
  refine ⟨h.os, h.output, fun i hi => ?_⟩
  rw [h.block i hi]
  exact (World.keptBut_refl w may).2.2 i hi
theorem below_trodAll {H : Type} {enc : TypeId × Value → H} {P : Program} (hl : laidOutB P = true) {W W' : World} (hb : Below W.heap.size W W') {sp : Nat → Bool} :
    ∀ {ts : List TypeId} {vs : List Value} {ds : List (DataW H)} {ps : List MemPlace}, (ts.all fun t => P.readableRec t && decide (t < P.types.size)) = true → (∀ p ∈ ps, p.block < W.heap.size) → (∀ p ∈ ps, sp p.block = true) →
      DataW.TrodAll enc P W 0 (fun _ => true) true ts vs ds ps → DataW.TrodAll enc P W' 0 sp true ts vs ds ps
  | [], vs, ds, ps, _, _, _, h => by
    obtain ⟨rfl, rfl, rfl⟩ := trodAll_nil h
    exact rfl
  | t :: ts, vs, ds, ps, ht, hlt, hsp, h => by
    obtain ⟨v, vs', d, ds', p, q, rfl, rfl, rfl, ⟨fuel, h1⟩, h2⟩ := trodAll_cons h
    simp only [List.all_cons, Bool.and_eq_true, decide_eq_true_eq] at ht
    refine ⟨p, q, ⟨fuel, ?_⟩, below_trodAll hl hb (by simpa using ht.2) (fun x hx => hlt x (List.mem_append_right _ hx)) (fun x hx => hsp x (List.mem_append_right _ hx)) h2, rfl⟩
    exact DataW.trod_stays (kids_book hl ht.1.1) (book_sized ht.1.1) (fun h => by cases h) ⟨ht.1.2, book_self t⟩ h1 (fun x hx => hb.same (hlt x (List.mem_append_left _ hx))) (fun x hx => hsp x (List.mem_append_left _ hx))

theorem trodAll_len {H : Type} {enc : TypeId × Value → H} {P : Program} {w : World} {base : Nat} {sp : Nat → Bool} {held : Bool} : ∀ {ts : List TypeId} {vs : List Value} {ds : List (DataW H)} {ps : List MemPlace}, DataW.TrodAll enc P w base sp held ts vs ds ps → ds.length = ts.length
  | [], _, _, _, h => by
    obtain ⟨_, rfl, _⟩ := trodAll_nil h
    rfl
  | t :: ts, _, _, _, h => by
    obtain ⟨v, vs', d, ds', p, q, _, rfl, _, _, h2⟩ := trodAll_cons h
    rw [List.length_cons, List.length_cons, trodAll_len h2]
/-- THE ANSWER 'true' OF A LAW THAT NAMES NO VARIABLE: all that was there reads as it did. -/
theorem post_law {H : Type} {enc : TypeId × Value → H} {P : Program} (hl : laidOutB P = true) {f : Func} {s : ChangeSpec} {fresh handsOn : Bool} {W W' : World} {args : Array Value} {ds gs : List (DataW H)} {before : List MemPlace} {tb : TypeId}
    (hp : (f.params.toList.all fun t => P.readableRec t && decide (t < P.types.size)) = true) (hr : f.resultTypes = #[tb]) (htb : P.underlying tb = some .bool) (hvs : s.vars = [])
    (hfn : ∀ ds : List (DataW H), ds.length = f.params.size → s.fn H ds = { results := [.lit (.bool true)], args := ds })
    (hW : DataW.Whole enc P f.params.toList s.vars false W args.toList ds gs before) (hb : Below W.heap.size W W') :
    s.post enc P f false fresh handsOn false W args (.bool true) W' := by
  have hW0 := hW
  obtain ⟨p, q, hA, hV, rfl, hfz, _⟩ := hW
  rw [hvs] at hV
  obtain ⟨rfl, rfl⟩ := trodVars_none hV
  have hlt := hA.lt
  have hlen := trodAll_len hA
  have hsp : s.fn H (ds ++ []) = { results := [.lit (.bool true)], args := ds } := by rw [List.append_nil]; exact hfn ds (by rw [hlen]; simp)
  refine ⟨ds, [], p ++ [], [], p, [], hW0, ?_, ?_, ?_, below_kept hb _, fun h => by cases h⟩
  · rw [hsp, hr]
    exact trodAll_cons_mk (shut_bool htb _) trodAll_mk0
  · rw [hsp]
    exact below_trodAll hl hb hp hlt (fun x hx => by simpa using hlt x hx) hA
  · rw [hsp, hvs]
    exact rfl

/-- For every index something: a list of such things. -/
theorem list_of {α : Type} {P : Nat → α → Prop} : ∀ (n : Nat), (∀ i, i < n → ∃ x, P i x) → ∃ l : List α, l.length = n ∧ ∀ i x, l[i]? = some x → P i x
  | 0, _ => ⟨[], rfl, fun i x h => by cases h⟩
  | n + 1, h => by
    obtain ⟨l, h1, h2⟩ := list_of n fun i hi => h i (by omega)
    obtain ⟨x, hx⟩ := h n (by omega)
    refine ⟨l ++ [x], by rw [List.length_append, h1]; rfl, fun i y hy => ?_⟩
    by_cases hi : i < n
    · rw [List.getElem?_append_left (by omega)] at hy
      exact h2 i y hy
    · rw [List.getElem?_append_right (by omega)] at hy
      have : i - l.length = 0 := by
        have := (List.getElem?_eq_some_iff.1 hy).1
        simp at this; omega
      rw [this] at hy
      have hin : i = n := by omega
      subst hin
      injection hy with hy
      subst hy; exact hx

/-- A slice of whole numbers, read. -/
theorem read_ints {H : Type} {enc : TypeId × Value → H} {P : Program} {w : World} {base : Nat} {sp : Nat → Bool} {held : Bool} {fuel : Nat} {t e : TypeId} {k : IntKind} {cs : List Value} {x : DataW H × List MemPlace}
    (ht : P.underlying t = some (.slice e)) (he : P.underlying e = some (.int k)) (hc : P.cellsOf e = 1) (h : DataW.trod enc P w base sp held fuel t cs = some x) :
    ∃ (p : Option Addr) (c : Nat) (l : List Int), cs = [.slice p l.length c] ∧ l.length ≤ c ∧ c ≤ maxLen ∧ (l = [] ∨ ∃ a, p = some a ∧ a.block < w.heap.size ∧ ∀ i v, (l.map (Value.int k))[i]? = some v → w.cell? (a.add i) = some v) := by
  rcases Go.Deep.open_slice1 ht hc h with ⟨rfl, _⟩ | ⟨a, len, cap, m, n, V, D, Pl, rfl, _, hl, hcap, hm, _, hx⟩
  · exact ⟨none, 0, [], rfl, Nat.zero_le _, Nat.zero_le _, .inl rfl⟩
  · have hlm : len ≤ m := by rw [hm]; split <;> omega
    obtain ⟨l, hll, hlx⟩ := list_of (P := fun i (z : Int) => w.cell? (a.add i) = some (.int k z)) len fun i hi => by
      obtain ⟨h1, h2⟩ := hx i (by omega)
      obtain ⟨z, hz, _⟩ := DataW.trod_int he h2
      simp only [List.cons.injEq, and_true] at hz
      exact ⟨z, by rw [h1, hz]⟩
    refine ⟨some a, cap, l, by rw [hll], by omega, hcap, ?_⟩
    by_cases hl0 : l = []
    · exact .inl hl0
    · refine .inr ⟨a, rfl, ?_, fun i v hv => ?_⟩
      · have hlt : 0 < l.length := List.length_pos_iff.2 hl0
        have h0 := hlx 0 _ (List.getElem?_eq_getElem hlt)
        have := cell?_lt h0
        rwa [add_block] at this
      · rw [List.getElem?_map] at hv
        cases hz : l[i]? with
        | none => rw [hz] at hv; cases hv
        | some z =>
          rw [hz] at hv
          injection hv with hv
          subst hv
          exact hlx i z hz
end Go.Sh
end

section
/- The arguments of the law, read as memory. No condition. -/
namespace Go.Proofs.YtajfdcbknghipaaGreatDoor
open Go Go.Joins Go.Sh Go.Fm Go.ChangeShapes Go.WideShapes Go.RowKit

set_option maxRecDepth 100000
variable {H : Type} {enc : TypeId × Value → H}

theorem cellsN : Tryz.prog.cellsOf 58 = 4 := by kernel_rfl
theorem cellsS : Tryz.prog.cellsOf 25 = 1 := by kernel_rfl
theorem cellsI : Tryz.prog.cellsOf 3 = 1 := by kernel_rfl
theorem cellsNs : Tryz.prog.cellsOf 22 = 1 := by kernel_rfl
theorem cellsF : Tryz.prog.cellsOf 24 = 1 := by kernel_rfl

/-- A slice of nodes in memory is a formula in memory. -/
theorem read_nodes {W : World} {sp : Nat → Bool} {held : Bool} {fuel : Nat} {cs : List Value} {x : DataW H × List MemPlace} (h : DataW.trod enc Tryz.prog W 0 sp held fuel 22 cs = some x) :
    ∃ (p : Option Addr) (c : Nat) (f : List FNode), cs = [.slice p f.length c] ∧ f.length ≤ c ∧ c ≤ maxLen ∧ FormM W.heap.size W p f := by
  rcases Go.Deep.open_slice Tryz.underlying22 h with ⟨rfl, _⟩ | ⟨a, len, cap, m, n, D, Pl, rfl, _, hl, hcap, hm, _, hx⟩
  · exact ⟨none, 0, [], rfl, Nat.zero_le _, Nat.zero_le _, .inl rfl, fun x hx => nomatch hx⟩
  · have hlm : len ≤ m := by rw [hm]; split <;> omega
    obtain ⟨f, hfl, hfx⟩ := list_of (P := fun i (x : FNode) => (∀ j v, x.cells[j]? = some v → W.cell? (a.add (i * 4 + j)) = some v) ∧ RowL W.heap.size W x.p (ints x.ins)) len fun i hi => by
      obtain ⟨cs', h1, h2⟩ := hx i (by omega)
      rw [cellsN] at h1
      obtain ⟨_, hlen, hcell⟩ := World.cells?_some h1
      match cs', hlen with
      | [c0, c1, c2, c3], _ =>
        obtain ⟨y0, y1, y2, y3, n', _, _, t0, t1, t2, t3⟩ := trod_struct4 Tryz.underlying58 h2
        simp only [cellsI, cellsS, List.drop, List.take] at t0 t1 t2 t3
        obtain ⟨k, hk, _, _⟩ := DataW.trod_int Tryz.underlying3 t0
        obtain ⟨b, hb, _, _⟩ := DataW.trod_int Tryz.underlying3 t1
        obtain ⟨al, hal, _, _⟩ := DataW.trod_int Tryz.underlying3 t2
        obtain ⟨p, c, l, hs, _, _, hr⟩ := read_ints Tryz.underlying25 Tryz.underlying3 cellsI t3
        simp only [List.cons.injEq, and_true] at hk hb hal hs
        subst hk; subst hb; subst hal; subst hs
        refine ⟨⟨k, b, al, l, p, c⟩, fun j v hj => ?_, ?_⟩
        · have hj4 : j < 4 := by have := (List.getElem?_eq_some_iff.1 hj).1; simpa [FNode.cells] using this
          have h3 := hcell j hj4
          rw [add_add] at h3
          rw [h3]; exact hj
        · rcases hr with rfl | ⟨a', rfl, hb', hc'⟩
          · exact .inl rfl
          · exact .inr ⟨a', rfl, hb', hc'⟩
    refine ⟨some a, cap, f, by rw [hfl], by omega, hcap, ?_, fun x hxm => ?_⟩
    · by_cases hf0 : f = []
      · subst hf0; exact .inl rfl
      · have hpos : 0 < f.length := List.length_pos_iff.2 hf0
        refine .inr ⟨a, rfl, ?_, fun i v hv => ?_⟩
        · have h0 := (hfx 0 _ (List.getElem?_eq_getElem hpos)).1 0 _ rfl
          have := cell?_lt h0
          rwa [add_block] at this
        · have hil := (List.getElem?_eq_some_iff.1 hv).1
          rw [fcells_len] at hil
          have hi4 : i / 4 < f.length := by omega
          have hd : i / 4 * 4 + i % 4 = i := by omega
          have hg := fcells_get (List.getElem?_eq_getElem hi4) (i % 4) (Nat.mod_lt _ (by decide))
          rw [hd, hv] at hg
          have := (hfx (i / 4) _ (List.getElem?_eq_getElem hi4)).1 (i % 4) v hg.symm
          rw [hd] at this
          exact this
    · obtain ⟨i, hi⟩ := List.getElem?_of_mem hxm
      exact (hfx i x hi).2

/-- A formula, handed as an argument. -/
theorem read_formula {W : World} {sp : Nat → Bool} {held : Bool} {b0 : Nat} {v : Value} {d : DataW H} {ps : List MemPlace} (hval : Value.okWide Tryz.prog W .any b0 24 v) (h : DataW.Trod enc Tryz.prog W 0 sp held 24 v d ps) :
    ∃ (p : Option Addr) (c : Nat) (f : List FNode), v = .agg #[.slice p f.length c] ∧ f.length ≤ c ∧ c ≤ maxLen ∧ FormM W.heap.size W p f := by
  obtain ⟨fuel, h⟩ := h
  obtain ⟨cs, rfl, hsz⟩ := Go.WideShapes.okWide_struct Tryz.underlying24 (hval)
  rw [cellsF] at hsz
  obtain ⟨y0, n, _, _, t0⟩ := trod_struct1 Tryz.underlying24 h
  have hl : cs.toList.length = 1 := by simpa using hsz
  obtain ⟨c0, hc0⟩ := List.length_eq_one_iff.1 hl
  have hcs : (Value.agg cs).cells.toList = [c0] := hc0
  simp only [hcs, cellsNs, List.drop, List.take] at t0
  obtain ⟨p, c, f, he, h1, h2, h3⟩ := read_nodes t0
  simp only [List.cons.injEq, and_true] at he
  subst he
  exact ⟨p, c, f, by rw [← Array.toArray_toList (xs := cs), hc0], h1, h2, h3⟩

/-- A slice of whole numbers, handed as an argument. -/
theorem read_arg_ints {W : World} {sp : Nat → Bool} {held : Bool} {b0 : Nat} {v : Value} {d : DataW H} {ps : List MemPlace} (hval : Value.okWide Tryz.prog W .any b0 25 v) (h : DataW.Trod enc Tryz.prog W 0 sp held 25 v d ps) :
    ∃ (p : Option Addr) (c : Nat) (l : List Int), v = .slice p l.length c ∧ RowL W.heap.size W p (ints l) := by
  obtain ⟨fuel, h⟩ := h
  obtain ⟨p, c, l, he, _, _, hr⟩ := read_ints Tryz.underlying25 Tryz.underlying3 cellsI h
  refine ⟨p, c, l, ?_, ?_⟩
  · obtain ⟨a0, len, cap, rfl⟩ := Go.WideShapes.okWide_slice Tryz.underlying25 hval
    exact List.head_eq_of_cons_eq he
  · rcases hr with rfl | ⟨a, rfl, hb, hc⟩
    · exact .inl rfl
    · exact .inr ⟨a, rfl, hb, hc⟩

end Go.Proofs.YtajfdcbknghipaaGreatDoor
end

section
/- The contract of the law, its row and its card. -/
namespace Go.Proofs.YtajfdcbknghipaaGreatDoor
open Go Go.Sh Go.Fm Go.ChangeShapes Go.WideShapes Go.ChangeAt Go.RowKit
set_option maxRecDepth 100000

theorem ownKnobs : ownKnob Tryz.prog.godebug = none := by kernel_rfl
theorem laidOut : laidOutB Tryz.prog = true := by kernel_rfl
theorem gTab : Tryz.prog.globalNamed "internal/strconv.uint64pow10" = some 0 := by kernel_rfl
theorem gTabType : (Tryz.prog.globals[0]?).map (·.type) = some 174 := by kernel_rfl
theorem cellsTab : Tryz.prog.cellsOf 174 = 20 := by kernel_rfl
theorem cellsU64 : Tryz.prog.cellsOf 49 = 1 := by kernel_rfl
def onlyPow (x : String × DataW Unit) : Bool := match x.2 with
  | .agg l => l.length == 20
  | _ => false

/-- WHAT THE ROW's LIST GIVES: the table's cells hold its twenty numbers. -/
theorem table {W : World} (h : laidMetH Tryz.prog Rows.transformConditionRow.laid W) : TabB W.heap.size W := by
  have h1 : laidMetH Tryz.prog (Rows.transformConditionRow.laid.filter onlyPow) W := h.filter onlyPow
  exact Lib.tabBelow_of_tabIs (Lib.tabIs_of_head (rest := []) gTab gTabType Tryz.underlying174 Tryz.underlying49 cellsU64 cellsTab h1)

/-- WHAT THE CALL GIVES, FOR EVERY ARGUMENT AND EVERY WORLD THAT HOLDS THE TABLE. -/
theorem contract (H : Type) (enc : TypeId × Value → H) (W : World) (base : Nat) (args : Array Value) (ds gs : List (DataW H)) (before : List MemPlace)
    (hval : ∀ (j : Nat) t v, Tryz.f3.params[j]? = some t → args[j]? = some v → Value.okWide Tryz.prog W .any base t v)
    (hW : DataW.Whole enc Tryz.prog Tryz.f3.params.toList Rows.transformConditionSpec.vars false W args.toList ds gs before) (hL : laidMetH Tryz.prog Rows.transformConditionRow.laid W) :
    Calls Tryz.prog 3 args W fun e W' => ∃ v, e = .returned v ∧ Rows.transformConditionSpec.post enc Tryz.prog Tryz.f3 false true false false W args v W' := by
  have hW' := hW
  obtain ⟨p, q, hA0, hV, rfl, hfz, hnd⟩ := hW
  have hA : DataW.TrodAll enc Tryz.prog W 0 (fun _ => true) true Tryz.f3.params.toList args.toList ds p := hA0
  rw [Tryz.params3] at hA hval
  obtain ⟨v0, vs0, d0, ds0, p0, q0, hv0, hd0, hp0, h0, r0⟩ := trodAll_cons hA
  obtain ⟨v1, vs1, d1, ds1, p1, q1, hv1, hd1, hp1, h1, r1⟩ := trodAll_cons r0
  obtain ⟨v2, vs2, d2, ds2, p2, q2, hv2, hd2, hp2, h2, r2⟩ := trodAll_cons r1
  obtain ⟨v3, vs3, d3, ds3, p3, q3, hv3, hd3, hp3, h3, r3⟩ := trodAll_cons r2
  obtain ⟨hv4, _, _⟩ := trodAll_nil r3
  subst hv4; subst hv3; subst hv2; subst hv1
  obtain rfl : args = #[v0, v1, v2, v3] := by cases args; simp_all
  obtain ⟨a, c, f, rfl, hfc, hcm, hform⟩ := read_formula (hval 0 24 v0 rfl rfl) h0
  obtain ⟨y, rfl, _, _, hy⟩ := open_int Tryz.underlying3 (hval 1 3 v1 rfl rfl) h1
  obtain ⟨z, rfl, _, _, hz⟩ := open_int Tryz.underlying3 (hval 2 3 v2 rfl rfl) h2
  obtain ⟨u, uc, l, rfl, hrow⟩ := read_arg_ints (hval 3 25 v3 rfl rfl) h3
  have hmax : maxLen = 9223372036854775807 := rfl
  refine (transformCondition_ok (table hL) (Nat.le_refl _) hform (by omega) hrow y z (bounds_i64 hy)).2.mono fun e W' ⟨he, hm⟩ => ?_
  subst he
  refine ⟨_, rfl, post_law laidOut (by kernel_rfl) rfl Tryz.underlying4 rfl ?_ hW' (mod_below (hm.mono fun _ _ h => h.elim) (Nat.le_refl _))⟩
  intro ds hds
  match ds, hds with
  | [_, _, _, _], _ => rfl

/-- A WORLD FOR THE WITNESS: the settled one, the tables holding what their initialisers lay. -/
def cellsOfData {H : Type} : DataW H → Array Value
  | .agg l => (l.filterMap fun | .lit (.int k n) => some (.int k n) | _ => none).toArray
  | _ => #[]
def layBlock (cs : Array Value) : Obj → Obj
  | .cells _ t frozen => .cells cs t frozen
  | o => o
noncomputable def laidWorld (os : Os) : World :=
  { World.holding Tryz.prog os ⟨#[], #[], []⟩ with heap := (((World.holding Tryz.prog os ⟨#[], #[], []⟩).heap.modify 0 (layBlock (cellsOfData (Rows.laid_internal_strconv_uint64pow10 (H := Unit))))).modify 1 (layBlock (cellsOfData (Rows.laid_math_bits_deBruijn32tab (H := Unit))))).modify 2 (layBlock (cellsOfData (Rows.laid_math_bits_deBruijn64tab (H := Unit)))) }
def wargs : Array Value := #[.agg #[.slice none 0 0], .int .i64 0, .int .i64 0, .slice none 0 0]
theorem laid_met (os : Os) : laidMet Tryz.prog Rows.transformConditionRow.laid ((laidWorld os).forCall (fun _ _ => 0) ⟨#[], wargs, []⟩).memory :=
  laidMet_of_run' 8 (by kernel_rfl) (by kernel_rfl)
theorem reads (os : Os) {H : Type} (enc : TypeId × Value → H) : ∃ ds places, DataW.whole enc Tryz.prog ((laidWorld os).forCall (fun _ _ => 0) ⟨#[], wargs, []⟩).memory Tryz.f3.params.toList Rows.transformConditionSpec.vars false wargs.toList 8 = some (ds, [], places) :=
  ⟨[.agg [.nil], .lit (.int .i64 0), .lit (.int .i64 0), .nil], [], by kernel_rfl⟩

theorem lifted (os : Os) (started : os.Started) (H : Type) (enc : TypeId × Value → H) (F : Stop.Interp) :
    ReturnsInHanded {} Tryz.checked os 3 .any ((OpenSpec.ofChange Rows.transformConditionSpec).preRow enc Tryz.prog Tryz.f3 Rows.transformConditionRow.domain false Rows.transformConditionRow.laid) (((OpenSpec.ofChange Rows.transformConditionSpec).at F).post enc Tryz.prog Tryz.f3 false true false false) := by
  obtain ⟨ds, places, hx⟩ := reads os enc
  refine returnsInHanded_of_row (C := Tryz.checked) (s := OpenSpec.ofChange Rows.transformConditionSpec) ownKnobs started (by kernel_rfl) Tryz.func3
    (witness_row_at (enc := enc) (C := Tryz.checked) false (laidWorld os) wargs rfl (by kernel_rfl) (by kernel_rfl) (by kernel_rfl)
      (OpenSpec.preRow_of_cond 8 hx (by kernel_rfl) (fun k hk => by cases hk) (by kernel_rfl) (laid_met os))) ?_
  intro W base args ds gs before hval hW _ _ _ hL _ _
  exact contract H enc W base args ds gs before hval hW hL

theorem said : Rows.TransformConditionSaid :=
  OpenClaim.holds_of_cond 3 Tryz.f3 rfl rfl rfl rfl rfl rfl rfl ⟨rfl, rfl, rfl, rfl, rfl⟩ rfl rfl rfl rfl rfl (by kernel_rfl) Tryz.func3 (by kernel_rfl)
    (of_decide_eq_true (by kernel_rfl)) (by unfold Func.isWrapper; first | (rw [if_pos (by decide +kernel)]; kernel_rfl) | (rw [if_neg (by decide +kernel)]; exact ⟨rfl, rfl⟩))
    (fun os started H enc _ F => by rw [OpenClaim.pre_eq_preRow]; exact lifted os started H enc F)

/-- No parameter wants a stand-in; the program's own looks are off. -/
theorem plain (f : FuncId) (fn : Func) (hf : Tryz.pinned.checked.prog.funcNamed "credence/credencelaw23.TransformCondition" = some f) (hfn : Tryz.pinned.checked.prog.funcs[f]? = some fn) :
    false = Tryz.pinned.checked.prog.looks [] ∧ ∀ (j : Nat) t, fn.params[j]? = some t → Tryz.pinned.checked.prog.wantsStandIn t = false := by
  obtain rfl : f = 3 := Option.some.inj ((show Tryz.prog.funcNamed "credence/credencelaw23.TransformCondition" = some 3 by kernel_rfl).symm.trans hf) |>.symm
  obtain rfl : fn = Tryz.f3 := (Option.some.inj (Tryz.func3.symm.trans hfn)).symm
  refine ⟨by kernel_rfl, fun j t ht => ?_⟩
  have hall : (Tryz.f3.params.toList.all fun t => !Tryz.prog.wantsStandIn t) = true := by kernel_rfl
  have := List.all_eq_true.1 hall t (Array.mem_toList_iff.2 (Array.mem_of_getElem? ht))
  rw [Bool.not_eq_true'] at this
  exact this

/-- THE CARD -/
theorem card : Rows.TransformConditionCardSaid :=
  Claim7.holds_tied_plain_at .later [] _ _ _ _ said (fun _ h => by cases h) (by kernel_rfl) (fun _ h => by cases h) transformCondition_row_tie rfl ⟨rfl, rfl⟩ (by kernel_rfl) rfl plain (by kernel_rfl)
#print axioms card
end Go.Proofs.YtajfdcbknghipaaGreatDoor
end
