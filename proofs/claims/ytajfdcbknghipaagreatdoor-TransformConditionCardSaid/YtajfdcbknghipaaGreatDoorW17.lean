/- The law TransformCondition of the package credencelaw23 answers true at every input and leaves its arguments as they were (Rows.TransformConditionCardSaid); no condition beyond the card's own: the three listed tables stand as the program's text lays them. Part 17 of 25. -/
import Derived.Test.YtajfdcbknghipaaGreatDoorW16
import Derived.Test.YtajfdcbknghipaaGreatDoorW10

section
/- Condition, walked. Conditions on memory as stated. -/
namespace Go.Proofs.YtajfdcbknghipaaGreatDoor
open Go Go.Sh Go.Fm

variable {w : World} {s : Addr} {L : List Nd} {d : SD}

def resAt (l : List Nat) (bec : List (Nat × Nat)) : Nat → Int
  | 0 => -1
  | i + 1 => (getN bec (l.getD i 0) : Nat)

/-- All blocks of the members lie below T. -/
def ConeLt (T : Nat) (p : Option Addr) (M : List Mem) : Prop := (∀ b, At p b → b < T) ∧ ∀ m ∈ M, ∀ b, At m.2 b → b < T
theorem ConeM.lt {B : Nat} {p : Option Addr} {c : Nat} {M : List Mem} (h : ConeM B w L p c M) : ConeLt w.heap.size p M := ⟨h.own.lt, fun m hm b hb => Own.lt (h.ins m hm).own b hb⟩
theorem ConeM.keepT {B T : Nat} {p : Option Addr} {c : Nat} {M : List Mem} {fp : Nat → Prop} {w' : World} (h : ConeM B w L p c M) (hT : ConeLt T p M) (hm : Mod fp w w') (hn : ∀ b, B ≤ b → b < T → ¬ fp b) : ConeM B w' L p c M :=
  ⟨h.own.keep hm fun b hb => hn b (h.ge b hb) (hT.1 b hb), h.ge, fun m hm' => (h.ins m hm').keep hm fun b hb => hn b ((h.ins m hm').ge b hb) (hT.2 m hm' b hb), h.sep⟩

theorem Condition_ok (h : StI w s L d) (hL : L.length ≤ 5000) {a : Nat} (ha : a < L.length) (b al : Int) :
    CallsF Tryz.prog 8 #[.pointer (some s), .int .i64 a, .int .i64 b, .int .i64 al] w fun e w' => e = .returned (.int .i64 (condF L a b al).2) ∧ StPost w s d (condF L a b al).1 w' := by
  have hok := h.wf.ok
  have hasc := coneL_asc hok a
  have hnd := asc_nodup hasc
  have hself := cone_self hok ha
  have hleA : ∀ x ∈ coneL L a, x ≤ a := fun x hx => cone_le hok a ha hx
  have hmemL : ∀ x ∈ coneL L a, x < L.length := fun x hx => by have := hleA x hx; omega
  have hcl : ∀ x ∈ coneL L a, ∀ n, L[x]? = some n → ∀ y ∈ n.ins, y ∈ coneL L a := fun x hx n hn y hy => cone_trans hok a ha hx hn hy
  obtain ⟨hpos, hlast⟩ := asc_last hasc hself hleA
  have hle5 : (coneL L a).length ≤ 5000 := Nat.le_trans (nodup_lenLe hnd hmemL) hL
  refine C_transform_Condition _ _ _ _ _ _ ?_
  intro w1 hw1
  have hmap1 : MapM encI w1 (w.heap.size + 0) (encB []) := hw1.mapM 0 rfl encI
  have hs1 := hw1.size
  simp only [List.length_cons, List.length_nil] at hs1
  refine (tcone_ok (h.m.same hw1.mod) hok hL ha).mono ?_
  rintro e w2 ⟨p, c, M, rfl, hMl, hcone2, hm2⟩
  have hs2 := hm2.size
  have hm02 := hw1.mod.then hm2
  have hcF : condF L a b al = ((condR L b al L [] (coneL L a)).1, getN (condR L b al L [] (coneL L a)).2 a) := rfl
  rw [hcF]
  have hMn : M.length = (coneL L a).length := by rw [← hMl, List.length_map]
  generalize coneL L a = l at *
  refine ⟨p, M.length, c, rfl, ?_⟩
  refine ⟨fun m vs w' => ∃ (i : Nat) (di : SD), m = l.length - i ∧ i ≤ l.length ∧ vs = [.int .i64 (resAt l (condR L b al L [] (l.take i)).2 i), .int .i64 0, .int .i64 i] ∧ StI w' s (condR L b al L [] (l.take i)).1 di ∧ (∀ b, di.fp b → d.fp b ∨ w2.heap.size ≤ b) ∧
      MapM encI w' (w.heap.size + 0) (encB (condR L b al L [] (l.take i)).2) ∧ ConeM w1.heap.size w' L p c M ∧ (∀ y ∈ l.take i, getN (condR L b al L [] (l.take i)).2 y < (condR L b al L [] (l.take i)).1.length) ∧ L.length ≤ (condR L b al L [] (l.take i)).1.length ∧ (condR L b al L [] (l.take i)).1.length ≤ L.length + i ∧ w2.heap.size ≤ w'.heap.size ∧ Mod d.fp w w',
    ⟨_, 0, d, rfl, Nat.zero_le _, rfl, h.same hm02, fun b hb => .inl hb, hmap1.only hm2, hcone2, (fun y hy => nomatch hy), Nat.le_refl _, Nat.le_refl _, Nat.le_refl _, hm02.to⟩, ?_⟩
  rintro m r' z' i' w4 ⟨i, di, rfl, hil, hvs, h4, hfp4, hmap4, hcone4, hlt4, hge4, hlen4, hsz4, hm4⟩
  simp only [List.cons.injEq, Value.int.injEq, true_and, and_true] at hvs
  obtain ⟨rfl, rfl, rfl⟩ := hvs
  refine Br_dec (fun hlt => ?_) fun hge => ?_
  rotate_left
  · have : i = l.length := by omega
    subst this
    rw [List.take_length] at h4 ⊢
    refine ⟨?_, di, h4, hm4, fun b hb => ?_⟩
    · have e : resAt l (condR L b al L [] l).2 l.length = (getN (condR L b al L [] l).2 a : Nat) := by
        obtain ⟨k, hk⟩ : ∃ k, l.length = k + 1 := ⟨l.length - 1, by omega⟩
        rw [hk] at hlast ⊢
        show ((getN (condR L b al L [] l).2 (l.getD k 0) : Nat) : Int) = _
        rw [Nat.add_sub_cancel] at hlast
        rw [hlast]
      rw [e]
    · rcases hfp4 b hb with h' | h'
      · exact .inl h'
      · exact .inr (by omega)
  have hx : l[i]? = some (l[i]'(by omega)) := List.getElem?_eq_getElem (by omega)
  have hxm : l[i]'(by omega) ∈ l := List.getElem_mem _
  have htk : l.take (i + 1) = l.take i ++ [l[i]'(by omega)] := List.take_succ_eq_append_getElem (by omega)
  generalize l[i]'(by omega) = x at hx hxm htk
  have hxL := hmemL x hxm
  have hn : L[x]? = some L[x] := List.getElem?_eq_getElem hxL
  generalize L[x] = nd at hn
  have hnok := hok x nd hn
  have hnA := nodeAt_eq hn
  obtain ⟨⟨x', qx⟩, hMi, hMx⟩ : ∃ mm : Mem, M[i]? = some mm ∧ mm.1 = x := by
    rw [← hMl, List.getElem?_map] at hx
    cases hMi : M[i]? with
    | none => rw [hMi] at hx; cases hx
    | some mm => rw [hMi] at hx; exact ⟨mm, rfl, by simpa using hx⟩
  have hMx' : x' = x := hMx
  subst hMx'
  have hmm := List.mem_of_getElem? hMi
  obtain ⟨ap, hpa, hcells, _⟩ := hcone4.cell hMi
  refine optP_intro hpa ⟨⟨by omega, by omega⟩, _, _, _, _, _, _, _, by rw [Int.toNat_natCast]; exact hcells, ?_⟩
  intro w5 hw5
  have hbm5 := hw5.blk 0 rfl
  have hkeys : ((condR L b al L [] (l.take i)).2).map Prod.fst = l.take i := by rw [condR_keys]; rfl
  have hbec : ∀ y ∈ nd.ins, y ∈ ((condR L b al L [] (l.take i)).2).map Prod.fst ∧ getN (condR L b al L [] (l.take i)).2 y < (condR L b al L [] (l.take i)).1.length := by
    intro y hy
    have := asc_before hasc hx (hcl _ hxm nd hn y hy) (hnok.lt y hy)
    exact ⟨by rw [hkeys]; exact this, hlt4 y this⟩
  have hsn := condR_snoc L b al (l.take i) L [] x'
  rw [← htk] at hsn
  rw [hnA] at hsn
  have hinsx : InsM w1.heap.size w4 qx nd.ins := by have := hcone4.ins _ hmm; rw [show nodeAt L (x', qx).1 = nd from hnA] at this; exact this
  have hxni : x' ∉ l.take i := by
    intro hmem
    obtain ⟨j, hj⟩ := List.getElem?_of_mem hmem
    have hjl := (List.getElem?_eq_some_iff.1 hj).1
    rw [List.length_take] at hjl
    rw [List.getElem?_take] at hj
    split at hj
    · have := nodup_inj hnd hj hx; omega
    · cases hj
  have hqfp : ∀ b', At qx b' → ¬ di.fp b' := by
    intro b' hb' hf
    have h1 := hinsx.ge b' hb'
    have h3 : b' < w2.heap.size := by
      have hi2 := hcone2.ins _ hmm
      exact Own.lt hi2.own b' hb'
    rcases hfp4 b' hf with h' | h'
    · have := h.m.lt b' h'; omega
    · omega
  have hL4 : (condR L b al L [] (l.take i)).1.length < 30000 := by omega
  have hwf4 := h4.wf
  have hclt := condN_lt hwf4 (bec := (condR L b al L [] (l.take i)).2) (x := x') (n := nd) (b := b) (al := al) (by omega) (fun y hy => (hbec y hy).2) (fun hk e => by have := hnok.not1 hk; rw [e] at this; cases this)
  obtain ⟨ex, hex, hexl⟩ := condN_ext (condR L b al L [] (l.take i)).1 (condR L b al L [] (l.take i)).2 x' nd b al
  generalize condR L b al L [] (l.take i) = st at *
  obtain ⟨Li, bec⟩ := st
  simp only at *
  have hcall := condition_ok (h4.same hw5.mod) hL4 (x := x') (n := nd) hnok (by omega) (q := qx) (hinsx.row.keep hw5.mod fun _ _ => NoB.not) hqfp (bec := bec) (hmap4.only hw5.mod) hbec b al
  have hag : (Value.int IntKind.i64 ((x', qx) : Mem).1 :: ndC (nodeAt L ((x', qx) : Mem).1) ((x', qx) : Mem).2) = Value.int IntKind.i64 (x' : Nat) :: ndC nd qx := by
    show Value.int IntKind.i64 (x' : Nat) :: ndC (nodeAt L x') qx = _
    rw [hnA]
  refine CallsF.mono (R := fun e w' => e = .returned (.int .i64 (condN Li bec x' nd b al).2) ∧ StPost w5 s di (condN Li bec x' nd b al).1 w') ?_ ?_
  · have : CallsF Tryz.prog 27 #[.pointer (some s), .agg (memC L (x', qx)).toArray, .map (some (w.heap.size + 0)), .int .i64 b, .int .i64 al] w5 fun e w' => e = .returned (.int .i64 (condN Li bec x' nd b al).2) ∧ StPost w5 s di (condN Li bec x' nd b al).1 w' := by
      have e : memC L (x', qx) = Value.int IntKind.i64 (x' : Nat) :: ndC nd qx := hag
      rw [e]; exact hcall
    exact this
  rintro e w6 ⟨rfl, d6, h6, hm6, hfp6⟩
  have hs5 := hw5.mod.size
  have hs6 := hm6.size
  have hdlt : ∀ b', di.fp b' → d.fp b' ∨ w2.heap.size ≤ b' := hfp4
  refine ⟨_, rfl, Br_false (by rw [decide_eq_false_iff_not]; omega) ?_⟩
  have hb5lt := hbm5.lt
  have hb6 := hbm5.keep hm6 fun hf => by
    rcases hdlt _ hf with h' | h'
    · have := h.m.lt _ h'; omega
    · have := h4.m.lt _ hf; omega
  refine ⟨(x' : Nat), hb6.cellAt 0 0, ?_⟩
  have hrlt : w.heap.size + 0 < w1.heap.size := by omega
  have hmap6 : MapM encI w6 (w.heap.size + 0) (encB bec) := (hmap4.only hw5.mod).keep hm6 fun hf => by
    rcases hdlt _ hf with h' | h'
    · have := h.m.lt _ h'; omega
    · omega
  obtain ⟨w7, hup, hmap7, hm7⟩ := update_ok (key_int map_index) hmap6 (x' : Int) (.int .i64 ((condN Li bec x' nd b al).2 : Nat))
  rw [putM_encB _ (by rw [hkeys]; exact hxni)] at hmap7
  refine ⟨w7, hup, ?_⟩
  have hm7' : Mod (· = w.heap.size + 0) w6 w7 := hm7
  have hs7 := hm7.size
  have hfp6' : ∀ b', d6.fp b' → d.fp b' ∨ w2.heap.size ≤ b' := by
    intro b' hb'
    rcases hfp6 b' hb' with h' | h'
    · exact hfp4 b' h'
    · exact .inr (by omega)
  refine ⟨l.length - (i + 1), by omega, i + 1, d6, rfl, by omega, ?_, ?_, hfp6', ?_, ?_, ?_, ?_, ?_, by omega, ?_⟩
  · rw [hsn, wrap_i64 (by omega) (by omega)]
    have hgd : l.getD i 0 = x' := by rw [List.getD_eq_getElem?_getD, hx]; rfl
    simp only [resAt, hgd]
    rw [getN_snoc, if_neg (by rw [hkeys]; exact hxni), if_pos rfl]
    rfl
  · rw [hsn]
    exact h6.keep hm7 fun b' hb' e => by
      have e' : b' = w.heap.size + 0 := e
      rcases hfp6' b' hb' with h' | h'
      · have := h.m.lt _ h'; omega
      · omega
  · rw [hsn]; exact hmap7
  · refine ((hcone4.keep hw5.mod fun _ _ _ => NoB.not).keepT hcone2.lt hm6 fun b' hb1 hb2 hf => ?_).keepT hcone2.lt hm7 fun b' hb1 _ e => ?_
    · rcases hdlt _ hf with h' | h'
      · have := h.m.lt _ h'; omega
      · omega
    · have e' : b' = w.heap.size + 0 := e
      omega
  · rw [hsn]
    intro y hy
    rw [htk] at hy
    show getN (bec ++ [(x', (condN Li bec x' nd b al).2)]) y < (condN Li bec x' nd b al).1.length
    rw [getN_snoc, hkeys]
    rcases List.mem_append.1 hy with hy | hy
    · rw [if_pos hy, hex, List.length_append]
      have := hlt4 y hy; omega
    · simp only [List.mem_singleton] at hy
      subst hy
      rw [if_neg hxni, if_pos rfl]; exact hclt
  · rw [hsn]; show L.length ≤ (condN Li bec x' nd b al).1.length; rw [hex, List.length_append]; omega
  · rw [hsn]; show (condN Li bec x' nd b al).1.length ≤ _; rw [hex, List.length_append]; omega
  · refine ((hm4.then hw5.mod.to).trans hm6 (fun _ h => h) fun b' hb' hf => ?_).new _ hm7 fun b' hb' e => by have e' : b' = w.heap.size + 0 := e; omega
    rcases hfp4 b' hf with h' | h'
    · exact h'
    · omega

end Go.Proofs.YtajfdcbknghipaaGreatDoor
end

section
/- Support and Size. Conditions on memory as stated. -/
namespace Go.Proofs.YtajfdcbknghipaaGreatDoor
open Go Go.Sh Go.Fm

variable {w : World} {s : Addr} {L : List Nd} {d : SD}

def blocksOf (L : List Nd) (l : List Nat) : List Int := l.filterMap (blockOf L)
theorem blocksOf_snoc (L : List Nd) (l : List Nat) (x : Nat) : blocksOf L (l ++ [x]) = blocksOf L l ++ (match blockOf L x with | some b => [b] | none => []) := by
  unfold blocksOf
  rw [List.filterMap_append]
  cases h : blockOf L x <;> simp [h]
theorem blocksOf_le (L : List Nd) (l : List Nat) : (blocksOf L l).length ≤ l.length := List.length_filterMap_le ..

theorem size_ok (h : StM w s L d) (hok : ∀ i n, L[i]? = some n → NdOK i n) (hL : L.length ≤ 5000) {a : Nat} (ha : a < L.length) :
    CallsF Tryz.prog 19 #[.pointer (some s), .int .i64 a] w (Ret (.int .i64 ((coneL L a).length : Nat)) NoB w) := by
  refine C_transform_Size _ _ _ _ ?_
  refine (tcone_ok h hok hL ha).mono ?_
  rintro e w2 ⟨p, c, M, rfl, hMl, hcone2, hm2⟩
  refine ⟨p, M.length, c, rfl, ?_, hm2⟩
  rw [← hMl, List.length_map]

theorem support_ok (h : StM w s L d) (hok : ∀ i n, L[i]? = some n → NdOK i n) (hL : L.length ≤ 5000) {a : Nat} (ha : a < L.length) :
    CallsF Tryz.prog 9 #[.pointer (some s), .int .i64 a] w fun e w' => ∃ (p : Option Addr) (c : Nat) (l' : List Int), e = .returned (.slice p l'.length c) ∧ l'.Pairwise (· < ·) ∧ (∀ x, x ∈ l' ↔ x ∈ blocksOf L (coneL L a)) ∧ Own w' 3 1 p l'.length c (ints l') ∧ (∀ b, At p b → w.heap.size ≤ b) ∧ Mod NoB w w' := by
  have hmemL : ∀ x ∈ coneL L a, x < L.length := fun x hx => by have := cone_le hok a ha hx; omega
  have hle5 : (coneL L a).length ≤ 5000 := Nat.le_trans (nodup_lenLe (asc_nodup (coneL_asc hok a)) hmemL) hL
  refine C_transform_Support _ _ _ _ ?_
  refine (tcone_ok h hok hL ha).mono ?_
  rintro e w2 ⟨p, c, M, rfl, hMl, hcone2, hm2⟩
  have hs2 := hm2.size
  have hMn : M.length = (coneL L a).length := by rw [← hMl, List.length_map]
  generalize coneL L a = l at *
  refine ⟨p, M.length, c, rfl, ?_⟩
  refine ⟨fun m vs w' => ∃ (i : Nat) (q : Option Addr) (cq : Nat), m = l.length - i ∧ i ≤ l.length ∧ vs = [.slice q (blocksOf L (l.take i)).length cq, .int .i64 i] ∧ Own w' 3 1 q (blocksOf L (l.take i)).length cq (ints (blocksOf L (l.take i))) ∧ (∀ b, At q b → w2.heap.size ≤ b) ∧ ConeM w.heap.size w' L p c M ∧ Mod NoB w2 w',
    ⟨_, 0, none, 0, rfl, Nat.zero_le _, rfl, Own.none _ _ _, fun b hb => (At.none hb).elim, hcone2, Mod.refl _ _⟩, ?_⟩
  rintro m q' nq cq' i' w4 ⟨i, q, cq, rfl, hil, hvs, hown4, hq4, hcone4, hm4⟩
  simp only [List.cons.injEq, Value.int.injEq, Value.slice.injEq, true_and, and_true] at hvs
  obtain ⟨⟨rfl, rfl, rfl⟩, rfl⟩ := hvs
  have hbl := blocksOf_le L (l.take i)
  rw [List.length_take] at hbl
  have hm04 := hm2.then hm4
  have hs4 := hm4.size
  refine Br_dec (fun hlt => ?_) fun hge => ?_
  rotate_left
  · have : i = l.length := by omega
    subst this
    rw [List.take_length] at hown4 ⊢
    rw [List.take_length] at hbl
    refine (sortI_ok (t := 3) hown4 (by omega)).mono ?_
    rintro e w5 ⟨rfl, l5, hperm, hsort, hown5, hm5⟩
    refine ⟨rfl, ?_⟩
    rw [← hperm.length_eq] at hown5 ⊢
    refine (compact_ok (t := 3) hown5 (by rw [hperm.length_eq]; omega)).mono ?_
    rintro e w6 ⟨rfl, hown6, hm6⟩
    obtain ⟨h1, h2⟩ := compact_asc l5 hsort
    refine ⟨_, _, _, rfl, q', cq', Lib.compact l5, rfl, h1, fun x => by rw [h2, hperm.mem_iff], hown6, fun b hb => by have := hq4 b hb; omega, ?_⟩
    exact (hm04.new _ hm5 fun b hb hp => by have := hq4 b hp; omega).new _ hm6 fun b hb hp => by have := hq4 b hp; omega
  have hx : l[i]? = some (l[i]'(by omega)) := List.getElem?_eq_getElem (by omega)
  have hxm : l[i]'(by omega) ∈ l := List.getElem_mem _
  have htk : l.take (i + 1) = l.take i ++ [l[i]'(by omega)] := List.take_succ_eq_append_getElem (by omega)
  generalize l[i]'(by omega) = x at hx hxm htk
  have hn : L[x]? = some (L[x]'(hmemL x hxm)) := List.getElem?_eq_getElem _
  generalize L[x]'(hmemL x hxm) = nd at hn
  have hnA := nodeAt_eq hn
  obtain ⟨⟨x', qx⟩, hMi, hMx⟩ : ∃ mm : Mem, M[i]? = some mm ∧ mm.1 = x := by
    rw [← hMl, List.getElem?_map] at hx
    cases hMi : M[i]? with
    | none => rw [hMi] at hx; cases hx
    | some mm => rw [hMi] at hx; exact ⟨mm, rfl, by simpa using hx⟩
  have hMx' : x' = x := hMx
  subst hMx'
  obtain ⟨ap, hpa, hcells, _⟩ := hcone4.cell hMi
  refine optP_intro hpa ⟨⟨by omega, by omega⟩, _, _, _, _, _, _, _, by rw [Int.toNat_natCast]; exact hcells, ?_⟩
  intro w5 hw5
  have hbm5 : Blk w5 (w4.heap.size + 0) (memC L (x', qx)) 60 := hw5.blk 0 rfl
  have hown5 := hown4.keep hw5.mod fun _ _ => NoB.not
  have hcone5 := hcone4.keep hw5.mod fun _ _ _ => NoB.not
  have hsn := blocksOf_snoc L (l.take i) x'
  rw [← htk] at hsn
  have hbo : blockOf L x' = if nd.kind = 2 then some nd.block else none := by unfold blockOf; rw [hn]
  rw [hbo] at hsn
  intro J hJ
  have hk : (nodeAt L ((x', qx) : Mem).1) = nd := hnA
  show Br ((nodeAt L ((x', qx) : Mem).1).kind == 2) _ _
  rw [hk]
  refine Br_eq (fun h2 => ?_) fun h2 => ?_
  · rw [if_pos h2] at hsn
    refine ⟨nd.block, ?_, ?_⟩
    · rw [own_add, hbm5.cellAt]
      show some (Value.int .i64 (nodeAt L x').block) = _
      rw [hnA]
    intro w6 hw6
    obtain ⟨w7, p7, c7, hrun, hown7, hm7, hat7⟩ := append_one (ty := 25) elem_int hown5 (vs := [.int .i64 nd.block]) rfl (by intro u hu; simp only [List.mem_singleton] at hu; subst hu; rfl) (by omega) (by omega) hw6
    have hs5 := hw5.mod.size
    refine ⟨w7, p7, _, c7, hrun, hJ _ _ _ _ ?_⟩
    have hl1 : (blocksOf L (l.take (i + 1))).length = (blocksOf L (l.take i)).length + 1 := by rw [hsn, List.length_append]; rfl
    rw [← hl1]
    refine ⟨l.length - (i + 1), by omega, i + 1, p7, c7, rfl, by omega, by rw [wrap_i64 (by omega) (by omega)]; rfl, ?_, ?_, ?_, ?_⟩
    · have e : ints (blocksOf L (l.take (i + 1))) = ints (blocksOf L (l.take i)) ++ [.int .i64 nd.block] := by rw [hsn, ints_append]; rfl
      rw [hl1, e]; exact hown7
    · intro b hb
      rcases hat7 b hb with h' | h'
      · exact hq4 b h'
      · omega
    · exact hcone5.keepT hcone2.lt hm7 fun b hb1 hb2 hp => by have := hq4 b hp; omega
    · exact (hm4.then hw5.mod).new _ hm7 fun b hb hp => by have := hq4 b hp; omega
  · rw [if_neg h2] at hsn
    have hsn' : blocksOf L (l.take (i + 1)) = blocksOf L (l.take i) := by rw [hsn]; simp
    refine hJ _ _ _ _ ⟨l.length - (i + 1), by omega, i + 1, q', cq', rfl, by omega, by rw [wrap_i64 (by omega) (by omega), hsn']; rfl, ?_, hq4, hcone5, hm4.then hw5.mod⟩
    rw [hsn']; exact hown5

end Go.Proofs.YtajfdcbknghipaaGreatDoor
end
