/- The law TransformCondition of the package credencelaw23 answers true at every input and leaves its arguments as they were (Rows.TransformConditionCardSaid); no condition beyond the card's own: the three listed tables stand as the program's text lays them. Part 15 of 25. -/
import Derived.Shelf.SlGeneric
import Derived.Shelf.SlSortCmp.WholeK
import Derived.Ground.SlsfProg
import Derived.Sort.OwnSortedInts
import Derived.Test.YtajfdcbknghipaaGreatDoorW14
import Derived.Test.YtajfdcbknghipaaGreatDoorW13
import Derived.Test.YtajfdcbknghipaaGreatDoorProg

section
/- Export: the nodes that a node uses, as a formula. Conditions on memory as stated. -/
namespace Go.Proofs.YtajfdcbknghipaaGreatDoor
open Go Go.Sh Go.Fm

variable {w : World} {s : Addr} {L : List Nd} {d : SD}

theorem map_index : Tryz.prog.underlying 54 = some (.map 3 3) := by kernel_rfl
theorem zero_int (w : World) : (zeroValue 3).run Tryz.prog w = .ok (.int .i64 0) w := zero_of (by kernel_rfl) w
theorem elem_nodes : ElemOK Tryz.prog 22 58 4 48 (.agg #[.int .i64 0, .int .i64 0, .int .i64 0, .slice none 0 0]) := elem_of (by kernel_rfl) (by kernel_rfl) rfl (by decide)
def Z4 : List Value := [.int .i64 0, .int .i64 0, .int .i64 0, .slice none 0 0]
def zerosN (n : Nat) : List Value := (List.replicate n ()).flatMap fun _ => Z4
theorem zerosN_succ (n : Nat) : zerosN (n + 1) = Z4 ++ zerosN n := by unfold zerosN; rw [List.replicate_succ, List.flatMap_cons]
theorem zerosN_len (n : Nat) : (zerosN n).length = n * 4 := by
  induction n with
  | zero => rfl
  | succ n ih => rw [zerosN_succ, List.length_append, ih]; simp [Z4]; omega
theorem fcells_len (F : List FNode) : (F.flatMap FNode.cells).length = F.length * 4 := by
  induction F with
  | nil => rfl
  | cons x F ih => rw [List.flatMap_cons, List.length_append, ih]; simp [FNode.cells]; omega

/-- The inputs of the nodes lie in blocks of their own, behind g. -/
def InsF (g : Nat) (w : World) (F : List FNode) : Prop := ∀ x ∈ F, Row w x.p (ints x.ins) ∧ ∀ b, At x.p b → g < b ∧ b < w.heap.size
theorem InsF.keep {g : Nat} {w w' : World} {F : List FNode} {fp : Nat → Prop} (h : InsF g w F) (hm : Mod fp w w') (hn : ∀ b, g < b → b < w.heap.size → ¬ fp b) : InsF g w' F := fun x hx =>
  ⟨(h x hx).1.keep hm fun a ha => hn _ ((h x hx).2 _ ⟨a, ha, rfl⟩).1 ((h x hx).2 _ ⟨a, ha, rfl⟩).2, fun b hb => ⟨((h x hx).2 b hb).1, Nat.lt_of_lt_of_le ((h x hx).2 b hb).2 hm.size⟩⟩
def idxV (l : List Nat) (y : Nat) : Value := .int .i64 (l.idxOf y : Nat)
def idxM (l : List Nat) (i : Nat) : List (Int × Value) := (l.take i).map fun (y : Nat) => ((y : Int), idxV l y)

theorem ints_take_drop (l m : List Nat) (k v : Nat) (hl : l.length = m.length) (hv : m[k]? = some v) :
    setAt (ints (natI (m.take k)) ++ ints (natI (l.drop k))) k [.int .i64 v] = ints (natI (m.take (k + 1))) ++ ints (natI (l.drop (k + 1))) := by
  have hk := (List.getElem?_eq_some_iff.1 hv).1
  have hk2 : k < l.length := by omega
  have hd : l.drop k = l[k] :: l.drop (k + 1) := List.drop_eq_getElem_cons hk2
  have ht : m.take (k + 1) = m.take k ++ [v] := by rw [List.take_add_one, hv]; rfl
  have e : ints (natI (l.drop k)) = [.int .i64 (l[k] : Nat)] ++ ints (natI (l.drop (k + 1))) := by rw [hd]; rfl
  rw [e, setAt_at (by rw [ints_len, natI_len, List.length_take]; omega) (by simp), ht, natI_append, ints_append, List.append_assoc]
  rfl

theorem export_ok (h : StM w s L d) (hok : ∀ i n, L[i]? = some n → NdOK i n) (hL : L.length ≤ 5000) {a : Nat} (ha : a < L.length) :
    CallsF Tryz.prog 30 #[.pointer (some s), .int .i64 a] w fun e w' => ∃ (p : Option Addr) (F : List FNode), e = .returned (.tuple #[.agg #[.slice p F.length F.length], .int .i64 0]) ∧ FormM w'.heap.size w' p F ∧ F.map FNode.nd = expN L a ∧ (∀ x ∈ F, ∀ v ∈ x.ins, 0 ≤ v) ∧ Mod NoB w w' := by
  refine C_formula_Store_Export _ _ _ _ ?_
  intro w1 hw1
  have hb1 := hw1.blk 0 rfl
  have hs1 := hw1.size
  simp only [List.length_cons, List.length_nil] at hs1
  refine (has_ok (h.same hw1.mod) a).mono ?_
  rintro e w2 ⟨rfl, hm2⟩
  refine ⟨_, rfl, Br_false (by rw [Bool.not_eq_false', decide_eq_true_iff]; omega) ?_⟩
  have hm02 := hw1.mod.then hm2
  have hs2 := hm2.size
  refine (cone_ok (h.same hm02) hok hL ha).mono ?_
  rintro e w3 ⟨p, c, rfl, hown3, hat3, hm3⟩
  have hasc := coneL_asc hok a
  have hnd := asc_nodup hasc
  have hmemL : ∀ x ∈ coneL L a, x < L.length := fun x hx => by have := cone_le hok a ha hx; omega
  have hcl : ∀ x ∈ coneL L a, ∀ n, L[x]? = some n → ∀ y ∈ n.ins, y ∈ coneL L a := fun x hx n hn y hy => cone_trans hok a ha hx hn hy
  have hexp : expN L a = (coneL L a).map fun x => reN (coneL L a) (nodeAt L x) := rfl
  have hle5 : (coneL L a).length ≤ 5000 := Nat.le_trans (nodup_lenLe hnd hmemL) hL
  rw [hexp]
  generalize coneL L a = l at hown3 hasc hnd hmemL hcl hle5 ⊢
  refine ⟨p, _, c, _, rfl, Br_false rfl ?_⟩
  have hm03 := hm02.then hm3
  have hs3 := hm3.size
  obtain ⟨w4, hmm, hmap4, hm4, hs4⟩ := makeMap_ok (w := w3) map_index encI .i64 (l.length : Nat)
  refine ⟨w4, _, hmm, ?_⟩
  obtain ⟨w5, hmk, hb5, hm5, hs5⟩ := makeSlice_gen (w := w4) elem_nodes .i64 .i64 (l := l.length) (n := l.length) (Nat.le_refl _) (by omega) (by omega)
  refine ⟨w5, _, _, _, hmk, ?_⟩
  have hb5' : Blk w5 w4.heap.size (zerosN l.length) 58 := hb5
  have hm05 := (hm03.then hm4).then hm5
  have hm35 := hm4.then hm5
  -- the nodes' block
  generalize hg : w4.heap.size = g at hb5' hs5 ⊢
  have hr : w3.heap.size < g := by omega
  have hplt : ∀ b, At p b → b < w3.heap.size := Own.lt hown3
  refine ⟨fun m vs w' => ∃ (i : Nat) (F : List FNode), m = l.length - i ∧ i ≤ l.length ∧ vs = [.int .i64 i] ∧ F.length = i ∧ F.map FNode.nd = (l.take i).map (fun x => reN l (nodeAt L x)) ∧ (∀ x ∈ F, ∀ v ∈ x.ins, 0 ≤ v) ∧
      Blk w' g (F.flatMap FNode.cells ++ zerosN (l.length - i)) 58 ∧ InsF g w' F ∧ MapM encI w' w3.heap.size (idxM l i) ∧ Mod (fun b => b = w3.heap.size ∨ g ≤ b) w5 w',
    ⟨_, 0, [], rfl, Nat.zero_le _, rfl, rfl, rfl, (fun x hx => nomatch hx), hb5', (fun x hx => nomatch hx), hmap4.only hm5, Mod.refl _ _⟩, ?_⟩
  rintro m i' w6 ⟨i, F, rfl, hil, hvs, hFl, hF, hnn, hb6, hins6, hmap6, hm6⟩
  simp only [List.cons.injEq, Value.int.injEq, true_and, and_true] at hvs
  subst hvs
  have hm06 : Mod NoB w w6 := hm05.new _ hm6 fun x hx h' => by rcases h' with h' | h' <;> omega
  have hs6 := hm6.size
  refine Br_dec (fun hlt => ?_) fun hge => ?_
  rotate_left
  · -- all nodes are laid
    have : i = l.length := by omega
    subst this
    rw [List.take_length] at hF
    rw [Nat.sub_self] at hb6
    have hb6' : Blk w6 g (F.flatMap FNode.cells) 58 := by
      have : zerosN 0 = [] := rfl
      rw [this, List.append_nil] at hb6; exact hb6
    have hbr : Blk w6 (w.heap.size + 0) [.slice none 0 0] 24 := ((hb1.keep hm2 NoB.not).keep (hm3.then hm35) NoB.not).keep hm6 fun h' => by rcases h' with h' | h' <;> omega
    refine ⟨hbr.can rfl (Nat.le_refl _), ?_⟩
    intro w7 hw7
    have hm7 : Mod (· = w.heap.size + 0) w6 w7 := hw7.mod
    have hb7 := hw7.whole hbr rfl
    have hs7 := hm7.size
    refine ⟨_, _, _, hb7.cellsAre, some ⟨g, 0, none⟩, F, by rw [hFl], ?_, hF, hnn, hm06.new _ hm7 fun x hx e => by have e' : x = w.heap.size + 0 := e; omega⟩
    have hb8 := hb6'.keep hm7 (show ¬ g = w.heap.size + 0 by omega)
    refine ⟨.inr ⟨_, rfl, hb8.lt, fun j v hj => by rw [own_add, Nat.zero_add, hb8.cell]; exact hj⟩, fun x hx => ?_⟩
    have h8 := hins6.keep hm7 fun b hb _ e => by have e' : b = w.heap.size + 0 := e; omega
    rcases (h8 x hx).1 with h' | ⟨ax, hax, hc⟩
    · exact .inl h'
    · exact .inr ⟨ax, hax, ((h8 x hx).2 _ ⟨ax, hax, rfl⟩).2, hc⟩
  have hx : l[i]? = some (l[i]'(by omega)) := List.getElem?_eq_getElem (by omega)
  have hxm : l[i]'(by omega) ∈ l := List.getElem_mem _
  have htk : l.take (i + 1) = l.take i ++ [l[i]'(by omega)] := List.take_succ_eq_append_getElem (by omega)
  generalize l[i]'(by omega) = x at hx hxm htk
  have hxL := hmemL x hxm
  have hn : L[x]? = some L[x] := List.getElem?_eq_getElem hxL
  generalize L[x] = nd at hn
  have hnok := hok x nd hn
  have hnlen := hnok.len
  have hown6 : OwnN w6 p c l := (hown3.keep hm35 fun _ _ => NoB.not).keep hm6 fun b hb h' => by have := hplt b hb; rcases h' with h' | h' <;> omega
  obtain ⟨ap, hpa, hcp⟩ := hown6.row.at (i := i) (v := .int .i64 x) (by rw [ints_get, natI_get, hx]; rfl)
  rw [hpa]
  refine ⟨⟨by omega, by omega⟩, x, by rw [Int.toNat_natCast, Nat.mul_one]; exact hcp, ?_⟩
  obtain ⟨w7, hup, hmap7, hm7⟩ := update_ok (key_int map_index) hmap6 (x : Int) (.int .i64 i)
  have hxi := idxOf_get hnd hx
  have hnew : putM (idxM l i) (x : Int) (.int .i64 i) = idxM l (i + 1) := by
    unfold idxM
    rw [putM_none]
    · rw [htk, List.map_append]
      show _ = _ ++ [((x : Int), idxV l x)]
      unfold idxV
      rw [hxi]
    · rw [getM_zip, if_neg]
      intro hmem
      obtain ⟨j, hj⟩ := List.getElem?_of_mem hmem
      have hjl := (List.getElem?_eq_some_iff.1 hj).1
      rw [List.length_take] at hjl
      rw [List.getElem?_take] at hj
      split at hj
      · have := nodup_inj hnd hj hx; omega
      · cases hj
  rw [hnew] at hmap7
  refine ⟨w7, hup, ?_⟩
  have hs7 := hm7.size
  have hm07 : Mod NoB w w7 := hm06.new _ hm7 fun b hb e => by have e' : b = w3.heap.size := e; omega
  refine (node_ok (h.same hm07) hok (by omega) hn).mono ?_
  rintro e w8 ⟨q, rfl, hins8, hm8⟩
  have hs8 := hm8.size
  refine ⟨_, _, _, _, _, _, _, rfl, ?_⟩
  have hb8 : Blk w8 g (F.flatMap FNode.cells ++ zerosN (l.length - i)) 58 := (hb6.keep hm7 (by omega)).keep hm8 NoB.not
  have hzs : l.length - i = (l.length - (i + 1)) + 1 := by omega
  have hFc := fcells_len F
  have hz4 := zerosN_len (l.length - i)
  refine ⟨⟨by omega, by omega⟩, ?_, ?_⟩
  · rw [own_add]
    refine canStore_blk hb8 _ 0 rfl ?_
    simp only [List.length_append, hFc, hz4, List.length_cons, List.length_nil, Int.toNat_natCast]
    omega
  intro w9 hw9
  rw [own_add, Int.toNat_natCast] at hw9
  have hb9 := hw9.blk hb8
  have hm9 : Mod (· = g) w8 w9 := hw9.mod
  have hs9 := hm9.size
  rw [hzs, zerosN_succ, setAt_at (by rw [hFc]; omega) (by simp [Z4])] at hb9
  have hcell9 : ∀ j v, (ndC nd q)[j]? = some v → w9.cell? ⟨g, i * 4 + j, none⟩ = some v := by
    intro j v hj
    have hj4 : j < 4 := by have := (List.getElem?_eq_some_iff.1 hj).1; simpa [ndC] using this
    rw [hb9.cell, List.getElem?_append_right (by rw [hFc]; omega), hFc, hFl, Nat.add_sub_cancel_left, List.getElem?_append_left (by simpa using hj4)]
    exact hj
  refine ⟨⟨by omega, by omega⟩, q, nd.ins.length, nd.ins.length, ?_, ?_⟩
  · rw [own_add, own_add, Int.toNat_natCast, Nat.zero_add]
    exact hcell9 3 _ rfl
  have hqge : ∀ b, At q b → w7.heap.size ≤ b := hins8.ge
  have hins9 : InsM w7.heap.size w9 q nd.ins := hins8.keep hm9 fun b hb e => by have e' : b = g := e; have := hqge b hb; omega
  have hqlt : ∀ b, At q b → b < w9.heap.size := Own.lt hins9.own
  -- the inputs are numbered anew
  refine ⟨fun m vs w' => ∃ k : Nat, m = nd.ins.length - k ∧ k ≤ nd.ins.length ∧ vs = [.int .i64 k] ∧ Row w' q (ints (natI ((nd.ins.map fun y => l.idxOf y).take k)) ++ ints (natI (nd.ins.drop k))) ∧
      (∀ gq, q = some ⟨gq, 0, none⟩ → Blk w' gq (ints (natI ((nd.ins.map fun y => l.idxOf y).take k)) ++ ints (natI (nd.ins.drop k))) 3) ∧ Mod (At q) w9 w',
    ⟨_, 0, rfl, Nat.zero_le _, rfl, hins9.row, ?_, Mod.refl _ _⟩, ?_⟩
  · intro gq hq
    by_cases hne : nd.ins = []
    · have := hins9.own
      rw [hne, hq] at this
      rcases Own.form this with ⟨h0, _⟩ | ⟨g', rest, hg', hbb, _, _, hll⟩
      · cases h0
      · have hgg := addr_inj hg'
        subst hgg
        have hr0 : rest = [] := by
          apply List.eq_nil_of_length_eq_zero
          simpa [natI, ints] using hll
        rw [hr0] at hbb
        rw [hne]; exact hbb
    · obtain ⟨g', hg', _, hbb⟩ := hins9.blk hne
      rw [hq] at hg'
      have hgg := addr_inj hg'
      subst hgg
      exact hbb
  rintro m k' w10 ⟨k, rfl, hk, hvs, hrow10, hblk10, hm10⟩
  simp only [List.cons.injEq, Value.int.injEq, true_and, and_true] at hvs
  subst hvs
  have hs10 := hm10.size
  have hcell10 : ∀ j v, (ndC nd q)[j]? = some v → w10.cell? ⟨g, i * 4 + j, none⟩ = some v := by
    intro j v hj
    have := hcell9 j v hj
    rw [cell?_congr (w := w9)]
    · exact this
    · exact hm10.keep _ hb9.lt fun hq => by have := hqge _ hq; simp only at this; omega
  have hm910 : Mod (fun b => b = w3.heap.size ∨ g ≤ b) w5 w10 := by
    refine (((hm6.then (hm7.mono fun b _ e => .inl e)).then hm8.to).then (hm9.mono fun b _ e => .inr (Nat.le_of_eq (Eq.symm e)))).then (hm10.mono fun b _ hq => .inr ?_)
    have := hqge b hq
    omega
  refine Br_dec (fun hlt2 => ?_) fun hge2 => ?_
  rotate_left
  · have hkl : k = nd.ins.length := by omega
    subst hkl
    have hall : (nd.ins.map fun y => l.idxOf y).take nd.ins.length = nd.ins.map fun y => l.idxOf y := by
      exact List.take_of_length_le (by rw [List.length_map]; exact Nat.le_refl _)
    rw [hall, List.drop_length] at hrow10
    have e0 : ints (natI ([] : List Nat)) = [] := rfl
    rw [e0, List.append_nil] at hrow10
    refine ⟨l.length - (i + 1), by omega, i + 1, F ++ [⟨nd.kind, nd.block, nd.alt, natI (nd.ins.map fun y => l.idxOf y), q, nd.ins.length⟩], rfl, by omega, by rw [wrap_i64 (by omega) (by omega)]; rfl, by rw [List.length_append, hFl]; rfl, ?_, ?_, ?_, ?_, ?_, hm910⟩
    · rw [List.map_append, hF, htk, List.map_append, List.map_cons, List.map_nil, List.map_cons, List.map_nil, nodeAt_eq hn]
      unfold FNode.nd reN
      have e : (natI (nd.ins.map fun y => l.idxOf y)).map Int.toNat = nd.ins.map fun y => l.idxOf y := by unfold natI; rw [List.map_map]; simp [Function.comp_def]
      rw [e]
    · intro y hy
      rcases List.mem_append.1 hy with hy | hy
      · exact hnn y hy
      · simp only [List.mem_singleton] at hy
        subst hy
        intro v hv
        obtain ⟨z, _, rfl⟩ := mem_natI.1 hv
        omega
    · have hb10 : Blk w10 g _ 58 := hb9.keep hm10 fun hq => by have := hqge _ hq; omega
      rw [List.flatMap_append, List.append_assoc]
      have e : [(⟨nd.kind, nd.block, nd.alt, natI (nd.ins.map fun y => l.idxOf y), q, nd.ins.length⟩ : FNode)].flatMap FNode.cells = ndC nd q := by
        rw [List.flatMap_cons, List.flatMap_nil, List.append_nil]
        unfold FNode.cells ndC
        rw [natI_len, List.length_map]
      rw [e]
      exact hb10
    · intro y hy
      rcases List.mem_append.1 hy with hy | hy
      · have h67 := hins6.keep hm7 fun b hb _ e => by have e' : b = w3.heap.size := e; omega
        have h9 := (h67.keep hm8 fun _ _ _ => NoB.not).keep hm9 fun b hb _ e => by have e' : b = g := e; omega
        refine ⟨(h9 y hy).1.keep hm10 fun a' ha' hq => ?_, fun b hb => ⟨((h9 y hy).2 b hb).1, Nat.lt_of_lt_of_le ((h9 y hy).2 b hb).2 hs10⟩⟩
        have h1 := hqge _ hq
        have h2 := ((h67 y hy).2 _ ⟨a', ha', rfl⟩).2
        omega
      · simp only [List.mem_singleton] at hy
        subst hy
        exact ⟨hrow10, fun b hb => ⟨by have := hqge b hb; omega, Nat.lt_of_lt_of_le (hqlt b hb) hs10⟩⟩
    · exact ((hmap7.only hm8).keep hm9 (by omega)).keep hm10 fun hq => by have := hqge _ hq; omega
  have hk' : k < nd.ins.length := by omega
  have hv : nd.ins[k]? = some nd.ins[k] := List.getElem?_eq_getElem hk'
  have hvm : nd.ins[k] ∈ nd.ins := List.getElem_mem hk'
  generalize nd.ins[k] = v at hv hvm
  have hvl := hcl x hxm nd hn v hvm
  have hltk : (ints (natI ((nd.ins.map fun y => l.idxOf y).take k))).length = k := by rw [ints_len, natI_len, List.length_take, List.length_map]; omega
  have hcv : (ints (natI ((nd.ins.map fun y => l.idxOf y).take k)) ++ ints (natI (nd.ins.drop k)))[k]? = some (.int .i64 v) := by
    rw [List.getElem?_append_right (by omega), hltk, Nat.sub_self, ints_get, natI_get, List.getElem?_drop, Nat.add_zero, hv]; rfl
  obtain ⟨aq, hqa, hcq⟩ := hrow10.at hcv
  have hne : nd.ins ≠ [] := fun e => by rw [e] at hv; cases hv
  obtain ⟨gq, hgq, hgge, _⟩ := hins9.blk hne
  have hbq := hblk10 gq hgq
  refine optP_intro hqa ⟨⟨by omega, by omega⟩, v, by rw [Int.toNat_natCast, Nat.mul_one]; exact hcq, ?_⟩
  refine ⟨⟨by omega, by omega⟩, q, nd.ins.length, nd.ins.length, ?_, ?_⟩
  · rw [own_add, own_add, Int.toNat_natCast, Nat.zero_add]
    exact hcell10 3 _ rfl
  have hmap10 : MapM encI w10 w3.heap.size (idxM l (i + 1)) := ((hmap7.only hm8).keep hm9 (by omega)).keep hm10 fun hq => by have := hqge _ hq; omega
  have hlk := lookup_ok (key_int map_index) (hmap10.only (drew_mod w10)) (v : Int) (zero_int w10.drew) false
  have hvi : v ∈ l.take (i + 1) := by
    obtain ⟨j, hj⟩ := List.getElem?_of_mem hvl
    have hvx := hnok.lt v hvm
    have hji : j ≤ i := by
      rcases Nat.lt_or_ge i j with hij | hij
      · have hjl := (List.getElem?_eq_some_iff.1 hj)
        have hil' := (List.getElem?_eq_some_iff.1 hx)
        have := List.pairwise_iff_getElem.1 hasc i j hil'.1 hjl.1 hij
        rw [hil'.2, hjl.2] at this
        omega
      · exact hij
    refine List.mem_of_getElem? (i := j) ?_
    rw [List.getElem?_take, if_pos (by omega)]
    exact hj
  have hgm : getM (idxM l (i + 1)) (v : Int) = some (idxV l v) := by
    unfold idxM
    rw [getM_zip, if_pos hvi]
  rw [hgm] at hlk
  refine ⟨(l.idxOf v : Nat), hlk, ?_⟩
  have hbqd := hbq.keep (drew_mod w10) NoB.not
  refine optP_intro hgq ⟨⟨by omega, by omega⟩, ?_, ?_⟩
  · rw [own_add]
    refine canStore_blk hbqd _ 0 rfl ?_
    simp only [List.length_append, hltk, ints_len, natI_len, List.length_drop, List.length_cons, List.length_nil, Int.toNat_natCast]
    omega
  intro w11 hw11
  rw [own_add, Int.toNat_natCast, Nat.zero_add, Nat.mul_one] at hw11
  have hb11 := hw11.blk hbqd
  rw [ints_take_drop nd.ins (nd.ins.map fun y => l.idxOf y) k (l.idxOf v) (by rw [List.length_map]) (by rw [List.getElem?_map, hv]; rfl)] at hb11
  have hm11 : Mod (· = gq) w10.drew w11 := hw11.mod
  refine ⟨nd.ins.length - (k + 1), by omega, k + 1, rfl, by omega, by rw [wrap_i64 (by omega) (by omega)]; rfl, ?_, ?_, ?_⟩
  · rw [hgq]; exact Row.of_blk hb11
  · intro gq' hq'
    rw [hgq] at hq'
    have hgg := addr_inj hq'
    subst hgg
    exact hb11
  · refine (hm10.then (drew_mod w10).to).then (hm11.mono fun b _ e => ?_)
    rw [hgq]
    exact ⟨_, rfl, Eq.symm e⟩

end Go.Proofs.YtajfdcbknghipaaGreatDoor
end

section
/- nodeValue and Holds: the value of a formula in a world. Conditions on memory as stated. -/
namespace Go.Proofs.YtajfdcbknghipaaGreatDoor
open Go Go.Sh Go.Fm

variable {w : World} {B : Nat}

def bools (l : List Bool) : List Value := l.map Value.bool
theorem bools_len (l : List Bool) : (bools l).length = l.length := by simp [bools]
theorem bools_get (l : List Bool) (i : Nat) : (bools l)[i]? = (l[i]?).map Value.bool := by unfold bools; rw [List.getElem?_map]
theorem ret_bool' {a b : Bool} (h : a = b) : Ending.returned (.bool a) = .returned (.bool b) := by rw [h]

theorem nvalF (x : FNode) (vals : List Bool) (v : List Int) : nval x.nd vals v = if x.kind = 1 then true else if x.kind = 2 then pickV v x.block x.alt else if x.kind = 3 then !(vals.getD (x.nd.ins.headD 0) false) else if x.kind = 4 then x.nd.ins.all (fun x => vals.getD x false) else if x.kind = 5 then x.nd.ins.any (fun x => vals.getD x false) else false := rfl
theorem nodeValue_ok {i : Nat} {x : FNode} (hx : vnode i x = true) (hl : x.ins.length ≤ 1000000) {c3 : Nat} {xn : Nat} (hxn : xn = x.ins.length) (hr : Row w x.p (ints x.ins)) {y : Option Addr} {yn yc : Nat} {vals : List Bool} (hy : Row w y (bools vals)) (hyl : vals.length = i) (hyn : i ≤ yn)
    {z : Option Addr} {zc : Nat} {v : List Int} (hz : Row w z (ints v)) :
    CallsF Tryz.prog 52 #[.agg #[.int .i64 x.kind, .int .i64 x.block, .int .i64 x.alt, .slice x.p xn c3], .slice y yn yc, .slice z v.length zc] w (Ret (.bool (nval x.nd vals v)) NoB w) := by
  subst hxn
  unfold vnode at hx
  rw [Bool.and_eq_true] at hx
  have hins := insOK_iff hx.2
  have hvf := hx.1
  have hget : ∀ {w' : World}, Mod NoB w w' → ∀ (k : Nat) (u : Int), x.ins[k]? = some u → ∃ (ap aq : Addr), x.p = some ap ∧ w'.cell? (ap.add (k * 1)) = some (.int .i64 u) ∧ (0 ≤ u ∧ u < (yn : Int)) ∧ y = some aq ∧ w'.cell? (aq.add (u.toNat * 1)) = some (.bool (vals.getD u.toNat false)) := by
    intro w' hm k u hku
    obtain ⟨ap, hpa, hcp⟩ := (hr.keep hm fun _ _ h => h).at (i := k) (v := .int .i64 u) (by rw [ints_get, hku]; rfl)
    have hvr := hins u (List.mem_of_getElem? hku)
    have hvl : u.toNat < vals.length := by omega
    have hnv : vals[u.toNat]? = some vals[u.toNat] := List.getElem?_eq_getElem hvl
    obtain ⟨aq, hqa, hcq⟩ := (hy.keep hm fun _ _ h => h).at (i := u.toNat) (v := .bool vals[u.toNat]) (by rw [bools_get, hnv]; rfl)
    refine ⟨ap, aq, hpa, by rw [Nat.mul_one]; exact hcp, by omega, hqa, ?_⟩
    rw [Nat.mul_one, List.getD_eq_getElem?_getD, hnv]
    exact hcq
  have hnins : x.nd.ins = x.ins.map Int.toNat := rfl
  refine C_formula_nodeValue _ _ _ _ _ _ _ _ _ _ _ _ _ _ ?_
  refine Br_eq (fun h1 w1 hw1 => ⟨ret_bool' ?_, hw1.mod⟩) fun h1 => ?_
  · rw [nvalF, if_pos h1]
  refine Br_eq (fun h2 w1 hw1 => ?_) fun h2 => ?_
  · have e : nval x.nd vals v = pickV v x.block x.alt := by rw [nvalF, if_neg h1, if_pos h2]
    rw [e]
    have hp : validP x.block x.alt = true := by
      unfold vform at hvf
      rw [if_neg (by omega), if_pos h2, Bool.and_eq_true] at hvf
      exact hvf.1
    unfold validP at hp
    have hp := of_decide_eq_true hp
    have hb := hw1.blk 0 rfl
    have hmd : Mod NoB w w1.drew := hw1.mod.then (drew_mod w1)
    have hbd := hb.keep (drew_mod w1) NoB.not
    intro J hJ
    refine ⟨x.block, by rw [hbd.cellAt]; rfl, Br_dec (fun hlt => ?_) fun hge => ?_⟩
    · have hn : x.block.toNat < v.length := by omega
      have hv : v[x.block.toNat]? = some v[x.block.toNat] := List.getElem?_eq_getElem hn
      obtain ⟨az, hza, hcz⟩ := (hz.keep hmd fun _ _ h => h).at (i := x.block.toNat) (v := .int .i64 v[x.block.toNat]) (by rw [ints_get, hv]; rfl)
      refine ⟨x.block, by rw [hbd.cellAt]; rfl, optP_intro hza ⟨⟨by omega, by omega⟩, v[x.block.toNat], by rw [Nat.mul_one]; exact hcz, x.alt, by rw [hbd.cellAt]; rfl, ?_⟩⟩
      refine hJ _ _ ⟨ret_bool' ?_, hmd⟩
      unfold pickV
      rw [hv, Bool.eq_iff_iff]
      simp
    · refine hJ _ _ ⟨ret_bool' ?_, hmd⟩
      unfold pickV
      rw [eq_comm, decide_eq_false_iff_not, List.getElem?_eq_none (by omega)]
      intro h'; cases h'
  refine Br_eq (fun h3 => ?_) fun h3 => ?_
  · have e : nval x.nd vals v = !(vals.getD (x.nd.ins.headD 0) false) := by rw [nvalF, if_neg h1, if_neg h2, if_pos h3]
    rw [e]
    unfold vform at hvf
    rw [if_neg (by omega), if_neg h2, if_pos h3] at hvf
    have hl1 := (of_decide_eq_true hvf).2.2
    obtain ⟨u, hu⟩ := List.length_eq_one_iff.1 hl1
    obtain ⟨ap, aq, hpa, hcp, hur, hqa, hcq⟩ := hget (Mod.refl _ _) 0 u (by rw [hu]; rfl)
    refine optP_intro hpa ⟨⟨by omega, by omega⟩, u, hcp, optP_intro hqa ⟨⟨by omega, by omega⟩, _, hcq, ?_⟩⟩
    intro w1 hw1
    refine ⟨ret_bool' ?_, hw1.mod⟩
    rw [hnins, hu]; rfl
  refine Br_eq (fun h4 w1 hw1 => ?_) fun h4 => ?_
  · have e : nval x.nd vals v = x.ins.all fun u => vals.getD u.toNat false := by
      rw [nvalF, if_neg h1, if_neg h2, if_neg h3, if_pos h4, hnins, List.all_map]; rfl
    rw [e]
    refine ⟨fun m vs w' => ∃ k : Nat, m = x.ins.length - k ∧ k ≤ x.ins.length ∧ vs = [.bool false, .int .i64 k] ∧ (∀ u ∈ x.ins.take k, vals.getD u.toNat false = true) ∧ Mod NoB w w', ⟨_, 0, rfl, Nat.zero_le _, rfl, fun u hu => by simp at hu, hw1.mod⟩, ?_⟩
    rintro m b' k' w2 ⟨k, rfl, hk, hvs, hall, hm2⟩
    simp only [List.cons.injEq, Value.int.injEq, Value.bool.injEq, true_and, and_true] at hvs
    obtain ⟨rfl, rfl⟩ := hvs
    refine Br_dec (fun hlt => ?_) fun hge => ?_
    · have hk' : k < x.ins.length := by omega
      have hu : x.ins[k]? = some x.ins[k] := List.getElem?_eq_getElem hk'
      have htk : x.ins.take (k + 1) = x.ins.take k ++ [x.ins[k]] := List.take_succ_eq_append_getElem hk'
      generalize x.ins[k] = u at hu htk
      obtain ⟨ap, aq, hpa, hcp, hur, hqa, hcq⟩ := hget hm2 k u hu
      refine optP_intro hpa ⟨⟨by omega, by omega⟩, u, by rw [Int.toNat_natCast]; exact hcp, optP_intro hqa ⟨⟨by omega, by omega⟩, _, hcq, Br_not (Br_intro (fun hb => ?_) fun hb => ?_)⟩⟩
      · refine ⟨x.ins.length - (k + 1), by omega, k + 1, rfl, hk', by rw [wrap_i64 (by omega) (by omega)]; rfl, fun u' hu' => ?_, hm2⟩
        rw [htk] at hu'
        rcases List.mem_append.1 hu' with h' | h'
        · exact hall u' h'
        · simp only [List.mem_singleton] at h'
          subst h'; exact hb
      · refine ⟨ret_bool' ?_, hm2⟩
        rw [eq_comm, List.all_eq_false]
        exact ⟨u, List.mem_of_getElem? hu, by rw [hb]; simp⟩
    · refine ⟨ret_bool' ?_, hm2⟩
      rw [eq_comm, List.all_eq_true]
      intro u hu
      exact hall u (by rw [List.take_of_length_le (by omega)]; exact hu)
  intro w1 hw1
  intro J hJ
  have hb := hw1.blk 0 rfl
  refine Br_eq (fun h5 => ?_) fun h5 => ?_
  · have e : nval x.nd vals v = x.ins.any fun u => vals.getD u.toNat false := by
      rw [nvalF, if_neg h1, if_neg h2, if_neg h3, if_neg h4, if_pos h5, hnins, List.any_map]; rfl
    rw [e] at hJ ⊢
    refine ⟨x.p, x.ins.length, c3, by rw [hb.cellAt]; rfl, ?_⟩
    refine ⟨fun m vs w' => ∃ k : Nat, m = x.ins.length - k ∧ k ≤ x.ins.length ∧ vs = [.bool false, .int .i64 k] ∧ (∀ u ∈ x.ins.take k, vals.getD u.toNat false = false) ∧ Mod NoB w w', ⟨_, 0, rfl, Nat.zero_le _, rfl, fun u hu => by simp at hu, hw1.mod⟩, ?_⟩
    rintro m b' k' w2 ⟨k, rfl, hk, hvs, hall, hm2⟩
    simp only [List.cons.injEq, Value.int.injEq, Value.bool.injEq, true_and, and_true] at hvs
    obtain ⟨rfl, rfl⟩ := hvs
    refine Br_dec (fun hlt => ?_) fun hge => ?_
    · have hk' : k < x.ins.length := by omega
      have hu : x.ins[k]? = some x.ins[k] := List.getElem?_eq_getElem hk'
      have htk : x.ins.take (k + 1) = x.ins.take k ++ [x.ins[k]] := List.take_succ_eq_append_getElem hk'
      generalize x.ins[k] = u at hu htk
      obtain ⟨ap, aq, hpa, hcp, hur, hqa, hcq⟩ := hget hm2 k u hu
      refine optP_intro hpa ⟨⟨by omega, by omega⟩, u, by rw [Int.toNat_natCast]; exact hcp, optP_intro hqa ⟨⟨by omega, by omega⟩, _, hcq, Br_intro (fun hb => ?_) fun hb => ?_⟩⟩
      · refine ⟨ret_bool' ?_, hm2⟩
        rw [eq_comm, List.any_eq_true]
        exact ⟨u, List.mem_of_getElem? hu, hb⟩
      · refine ⟨x.ins.length - (k + 1), by omega, k + 1, rfl, hk', by rw [wrap_i64 (by omega) (by omega)]; rfl, fun u' hu' => ?_, hm2⟩
        rw [htk] at hu'
        rcases List.mem_append.1 hu' with h' | h'
        · exact hall u' h'
        · simp only [List.mem_singleton] at h'
          subst h'; exact hb
    · refine hJ _ _ ⟨ret_bool' ?_, hm2⟩
      rw [eq_comm, List.any_eq_false]
      intro u hu
      rw [hall u (by rw [List.take_of_length_le (by omega)]; exact hu)]
      simp
  · refine hJ _ _ ⟨ret_bool' ?_, hw1.mod⟩
    rw [nvalF, if_neg h1, if_neg h2, if_neg h3, if_neg h4, if_neg h5]

theorem elem_bool : ElemOK Tryz.prog 112 4 1 1 (.bool false) := elem_of (by kernel_rfl) (by kernel_rfl) rfl (by decide)
/-- The value of a formula's root. -/
def rootV (f : List FNode) (v : List Int) : Bool := (evalL (f.map FNode.nd) v).getLastD false

theorem holds_ok {p : Option Addr} {c : Nat} {f : List FNode} (h : FormM B w p f) (hs : f.length ≤ 200) (hi : ∀ x ∈ f, x.ins.length ≤ 200) {z : Option Addr} {zc : Nat} {v : List Int} (hz : Row w z (ints v)) :
    CallsF Tryz.prog 31 #[.agg #[.slice p f.length c], .slice z v.length zc] w (Ret (.bool (vf f && rootV f v)) NoB w) := by
  refine C_formula_Holds _ _ _ _ _ _ _ _ ?_
  intro w1 hw1
  have hb1 := hw1.blk 0 rfl
  intro J hJ
  have main : ∀ (w2 : World) (b : Bool), b = (decide (f.length = 0) || !vf f) → Mod NoB w1 w2 → J [.bool b] w2 := by
    intro w2 b hb hm2
    have hb2 := hb1.keep hm2 NoB.not
    have hm02 := hw1.mod.then hm2
    refine hJ _ _ (Br_intro (fun ht => ⟨ret_bool' ?_, hm02⟩) fun hf => ?_)
    · rw [hb, Bool.or_eq_true] at ht
      rcases ht with h0 | h0
      · have : f = [] := List.eq_nil_of_length_eq_zero (of_decide_eq_true h0)
        subst this
        rfl
      · rw [Bool.not_eq_true'] at h0
        rw [h0]; rfl
    rw [hb, Bool.or_eq_false_iff, Bool.not_eq_false', decide_eq_false_iff_not] at hf
    obtain ⟨hne, hv⟩ := hf
    have hvn := vf_iff.1 hv
    refine ⟨p, f.length, c, by rw [hb2.cellAt]; rfl, ?_⟩
    obtain ⟨w3, hmk, ho3, hm3, hs3⟩ := makeSlice_own (w := w2) elem_bool rfl .i64 .i64 (l := f.length) (n := f.length) (Nat.le_refl _) (by omega) (by omega)
    refine ⟨w3, _, _, _, hmk, p, f.length, c, by rw [(hb2.keep hm3 NoB.not).cellAt]; rfl, ?_⟩
    have hm03 := hm02.then hm3
    have hb3 : Blk w3 w2.heap.size (List.replicate f.length (.bool false)) 4 := ho3.full
    have hs02 := hm02.size
    refine ⟨fun m vs w' => ∃ i : Nat, m = f.length - i ∧ i ≤ f.length ∧ vs = [.int .i64 i] ∧ Blk w' w2.heap.size (bools (evalL ((f.take i).map FNode.nd) v) ++ List.replicate (f.length - i) (.bool false)) 4 ∧ Mod NoB w w', ⟨_, 0, rfl, Nat.zero_le _, rfl, hb3, hm03⟩, ?_⟩
    rintro m i' w4 ⟨i, rfl, hil, hvs, hb4, hm4⟩
    simp only [List.cons.injEq, Value.int.injEq, true_and, and_true] at hvs
    subst hvs
    have hel : (evalL ((f.take i).map FNode.nd) v).length = i := by rw [evalL_length, List.length_map, List.length_take]; omega
    refine Br_dec (fun hlt => ?_) fun hge => ?_
    rotate_left
    · have : i = f.length := by omega
      subst this
      rw [List.take_length] at hb4 hel
      rw [Nat.sub_self, List.replicate_zero, List.append_nil] at hb4
      have hw : IntKind.i64.wrap ((f.length : Int) - 1) = ((f.length - 1 : Nat) : Int) := by rw [wrap_i64 (by omega) (by omega)]; omega
      rw [hw]
      have hlast : (evalL (f.map FNode.nd) v)[f.length - 1]? = some (rootV f v) := by
        unfold rootV
        have hne2 : evalL (f.map FNode.nd) v ≠ [] := fun e => by rw [e] at hel; simp at hel; omega
        rw [List.getLastD_eq_getLast?, List.getLast?_eq_getElem?, hel]
        rw [List.getElem?_eq_getElem (by omega)]; rfl
      refine ⟨⟨by omega, by omega⟩, rootV f v, ?_, ?_⟩
      · rw [Int.toNat_natCast, hb4.cellAt, Nat.zero_add, Nat.mul_one, bools_get, hlast]; rfl
      · rw [hv, Bool.true_and]; exact ⟨rfl, hm4⟩
    have hi' : i < f.length := by omega
    have hx : f[i]? = some f[i] := List.getElem?_eq_getElem hi'
    have hxm : f[i] ∈ f := List.getElem_mem hi'
    have htk : f.take (i + 1) = f.take i ++ [f[i]] := List.take_succ_eq_append_getElem hi'
    generalize f[i] = x at hx hxm htk
    have hform4 := h.same hm4
    obtain ⟨a, hpa, hc⟩ := hform4.node hx
    refine optP_intro hpa ⟨⟨by omega, by omega⟩, _, _, _, _, _, _, by rw [Int.toNat_natCast]; exact hc, ?_⟩
    intro w5 hw5
    have hm5 := hm4.then hw5.mod
    have hb5 := hb4.keep hw5.mod NoB.not
    refine (nodeValue_ok (i := i) (hvn i x hx) (by have := hi x hxm; omega) rfl ((hform4.ins x hxm).row.keep hw5.mod fun _ _ h => h) (y := some ⟨w2.heap.size, 0, none⟩) (vals := evalL ((f.take i).map FNode.nd) v) (Row.of_blk hb5).front hel (by omega) (hz.keep hm5 fun _ _ h => h)).mono ?_
    rintro e w6 ⟨rfl, hm6⟩
    have hb6 := hb5.keep hm6 NoB.not
    have hbl : (bools (evalL ((f.take i).map FNode.nd) v)).length = i := by rw [bools_len, hel]
    refine ⟨_, rfl, ⟨by omega, by omega⟩, ?_, ?_⟩
    · rw [own_add]
      refine canStore_blk hb6 _ 0 rfl ?_
      simp only [List.length_append, hbl, List.length_replicate, List.length_cons, List.length_nil, Int.toNat_natCast]
      omega
    intro w7 hw7
    rw [own_add, Int.toNat_natCast, Nat.zero_add, Nat.mul_one] at hw7
    have hb7 := hw7.blk hb6
    have hm7 : Mod (· = w2.heap.size) w6 w7 := hw7.mod
    refine ⟨f.length - (i + 1), by omega, i + 1, rfl, hi', by rw [wrap_i64 (by omega) (by omega)]; rfl, ?_, (hm5.then hm6).new _ hm7 fun b hb e => by have e' : b = w2.heap.size := e; omega⟩
    have hrep : List.replicate (f.length - i) (Value.bool false) = [.bool false] ++ List.replicate (f.length - (i + 1)) (.bool false) := by
      have : f.length - i = (f.length - (i + 1)) + 1 := by omega
      rw [this, List.replicate_succ]; rfl
    rw [hrep, setAt_at hbl.symm (by simp)] at hb7
    have hev : bools (evalL ((f.take (i + 1)).map FNode.nd) v) = bools (evalL ((f.take i).map FNode.nd) v) ++ [.bool (nval x.nd (evalL ((f.take i).map FNode.nd) v) v)] := by
      rw [htk, List.map_append, List.map_cons, List.map_nil, evalL_snoc]
      unfold bools
      rw [List.map_append]; rfl
    rw [hev, List.append_assoc]
    exact hb7
  refine ⟨p, f.length, c, by rw [hb1.cellAt]; rfl, Br_eq (fun h0 => main w1 _ ?_ (Mod.refl _ _)) fun h0 => ⟨_, _, _, hb1.cellsAre, ?_⟩⟩
  · have : decide (f.length = 0) = true := decide_eq_true (by omega)
    rw [this]; rfl
  · refine (valid_ok (h.same hw1.mod) hs hi).mono ?_
    rintro e w2 ⟨rfl, hm2⟩
    refine ⟨_, rfl, main w2 _ ?_ hm2⟩
    have : decide (f.length = 0) = false := decide_eq_false (by omega)
    rw [this]; rfl

end Go.Proofs.YtajfdcbknghipaaGreatDoor
end

section
/-
  DERIVED: THE SHELF's CONTRACTS AT THIS DUMP, IN PLAIN WORDS (tools/lay-plain.mjs out of 'TryzSf.lean', which tools/lay-shelf.mjs wrote): THE SAME DECLARATIONS UNDER THE SAME NAMES: 'import', 'namespace', 'open', 'def', 'theorem' AND NOTHING ELSE: no command of the shelf's: FOR A HAND-IN. Each laying: the table of numbers ('.._ren') and one theorem, a field a fact of the dump's own or the kernel's comparison; each contract: ONE APPLICATION.
-/
namespace Go.Proofs
open Go.Shelf
def Tryz.sortMember_ren : Go.Shelf.Ren := ⟨fun | 6 => 47 | 15 => 50 | 14 => 64 | 28 => 74 | 29 => 75 | 20 => 86 | 21 => 87 | 22 => 88 | 23 => 89 | 24 => 90 | 25 => 91 | 26 => 92 | 27 => 93 | 46 => 105 | 47 => 95 | 48 => 96 | 49 => 106 | 50 => 107 | 57 => 121 | n => n, fun | 22 => 55 | 24 => 60 | 25 => 107 | 3 => 3 | 39 => 97 | 0 => 0 | 53 => 94 | 55 => 49 | 4 => 4 | 46 => 124 | 45 => 123 | 50 => 91 | 5 => 5 | 9 => 9 | 66 => 143 | 70 => 147 | 76 => 152 | 77 => 153 | n => n, fun | n => n⟩
theorem Tryz.sortMember : Go.Proofs.SlLaysF0.n6 Tryz.prog Tryz.sortMember_ren := {
  mixed := by kernel_rfl
  f6 := ⟨Tryz.f47.name, by decide, Tryz.func47.trans (congrArg some (by kernel_rfl))⟩
  f14 := ⟨Tryz.f64.name, by decide, Tryz.func64.trans (congrArg some (by kernel_rfl))⟩
  f15 := Tryz.func50.trans (congrArg some (by kernel_rfl))
  f20 := ⟨Tryz.f86.name, by decide, Tryz.func86.trans (congrArg some (by kernel_rfl))⟩
  f21 := ⟨Tryz.f87.name, by decide, Tryz.func87.trans (congrArg some (by kernel_rfl))⟩
  f22 := ⟨Tryz.f88.name, by decide, Tryz.func88.trans (congrArg some (by kernel_rfl))⟩
  f23 := ⟨Tryz.f89.name, by decide, Tryz.func89.trans (congrArg some (by kernel_rfl))⟩
  f24 := ⟨Tryz.f90.name, by decide, Tryz.func90.trans (congrArg some (by kernel_rfl))⟩
  f25 := ⟨Tryz.f91.name, by decide, Tryz.func91.trans (congrArg some (by kernel_rfl))⟩
  f26 := ⟨Tryz.f92.name, by decide, Tryz.func92.trans (congrArg some (by kernel_rfl))⟩
  f27 := ⟨Tryz.f93.name, by decide, Tryz.func93.trans (congrArg some (by kernel_rfl))⟩
  f28 := Tryz.func74.trans (congrArg some (by kernel_rfl))
  f29 := Tryz.func75.trans (congrArg some (by kernel_rfl))
  f46 := ⟨Tryz.f105.name, by decide, Tryz.func105.trans (congrArg some (by kernel_rfl))⟩
  f47 := Tryz.func95.trans (congrArg some (by kernel_rfl))
  f48 := Tryz.func96.trans (congrArg some (by kernel_rfl))
  f49 := ⟨Tryz.f106.name, by decide, Tryz.func106.trans (congrArg some (by kernel_rfl))⟩
  f50 := ⟨Tryz.f107.name, by decide, Tryz.func107.trans (congrArg some (by kernel_rfl))⟩
  f57 := ⟨Tryz.f121.name, by decide, Tryz.func121.trans (congrArg some (by kernel_rfl))⟩
  t0 := Tryz.underlying0
  a0 := Tryz.isAgg0
  z0 := Tryz.sizeOf0
  v0 := Tryz.zeroValue0
  t3 := Tryz.underlying3
  a3 := Tryz.isAgg3
  z3 := Tryz.sizeOf3
  v3 := Tryz.zeroValue3
  t4 := Tryz.underlying4
  a4 := Tryz.isAgg4
  z4 := Tryz.sizeOf4
  v4 := Tryz.zeroValue4
  t5 := Tryz.underlying5
  a5 := Tryz.isAgg5
  z5 := Tryz.sizeOf5
  v5 := Tryz.zeroValue5
  t9 := Tryz.underlying9
  a9 := Tryz.isAgg9
  z9 := Tryz.sizeOf9
  v9 := Tryz.zeroValue9
  t22 := Tryz.underlying55
  a22 := Tryz.isAgg55
  z22 := Tryz.sizeOf55
  v22 := Tryz.zeroValue55
  t25 := Tryz.underlying107
  a25 := Tryz.isAgg107
  z25 := Tryz.sizeOf107
  v25 := Tryz.zeroValue107
  t39 := Tryz.underlying97
  a39 := Tryz.isAgg97
  z39 := Tryz.sizeOf97
  v39 := Tryz.zeroValue97
  t45 := Tryz.underlying123
  a45 := Tryz.isAgg123
  z45 := Tryz.sizeOf123
  v45 := Tryz.zeroValue123
  t46 := Tryz.underlying124
  a46 := Tryz.isAgg124
  z46 := Tryz.sizeOf124
  v46 := Tryz.zeroValue124
  t50 := Tryz.underlying91
  a50 := Tryz.isAgg91
  z50 := Tryz.sizeOf91
  v50 := Tryz.zeroValue91
  t53 := Tryz.underlying94
  a53 := Tryz.isAgg94
  z53 := Tryz.sizeOf94
  v53 := Tryz.zeroValue94
  t55 := Tryz.underlying49
  a55 := Tryz.isAgg49
  z55 := Tryz.sizeOf49
  v55 := Tryz.zeroValue49
  t66 := Tryz.underlying143
  a66 := Tryz.isAgg143
  z66 := Tryz.sizeOf143
  v66 := Tryz.zeroValue143
  t70 := Tryz.underlying147
  a70 := Tryz.isAgg147
  z70 := Tryz.sizeOf147
  v70 := Tryz.zeroValue147
  t76 := Tryz.underlying152
  a76 := Tryz.isAgg152
  z76 := Tryz.sizeOf152
  v76 := Tryz.zeroValue152
  t77 := Tryz.underlying153
  a77 := Tryz.isAgg153
  z77 := Tryz.sizeOf153
  v77 := Tryz.zeroValue153 }
end Go.Proofs
end

section
/- slices.SortFunc over elements of several cells, as it changes a slice of the call's own. No condition. -/
namespace Go.Sh
open Go Go.Sort Go.Proofs

variable {α : Type} [Inhabited α]

omit [Inhabited α] in
theorem flatMap_get (enc : α → List Value) {k : Nat} (hk : ∀ x, (enc x).length = k) : ∀ (l : List α) (i j : Nat), j < k → (l.flatMap enc)[i * k + j]? = (l[i]?).bind fun x => (enc x)[j]?
  | [], i, j, _ => by simp
  | x :: l, 0, j, hj => by
    rw [List.flatMap_cons, Nat.zero_mul, Nat.zero_add, List.getElem?_append_left (by rw [hk]; exact hj)]; rfl
  | x :: l, i + 1, j, hj => by
    rw [List.flatMap_cons, List.getElem?_append_right (by rw [hk, Nat.succ_mul]; omega), hk]
    have := flatMap_get enc hk l i j hj
    rw [show (i + 1) * k + j - k = i * k + j by rw [Nat.succ_mul]; omega, this]; rfl
omit [Inhabited α] in
theorem flatMap_len (enc : α → List Value) {k : Nat} (hk : ∀ x, (enc x).length = k) (l : List α) : (l.flatMap enc).length = l.length * k := by
  induction l with
  | nil => simp
  | cons x l ih => rw [List.flatMap_cons, List.length_append, ih, hk, List.length_cons, Nat.succ_mul]; omega
theorem flatK_list (enc : α → List Value) {k : Nat} (hk : ∀ x, (enc x).length = k) (h0 : 0 < k) (l : List α) : flatK enc k l.toArray = (l.flatMap enc).toArray := by
  apply Array.ext
  · rw [size_flatK]; simp [flatMap_len enc hk]
  · intro t h1 h2
    rw [size_flatK] at h1
    have h1' : t < l.length * k := by simpa using h1
    have hi : t / k < l.length := Nat.div_lt_of_lt_mul (by rw [Nat.mul_comm]; exact h1')
    have hj : t % k < k := Nat.mod_lt _ h0
    have e := get_flatK enc k l.toArray t h1
    rw [getElem!_pos _ t (by rw [size_flatK]; exact h1)] at e
    rw [e]
    have h3 := flatMap_get enc hk l (t / k) (t % k) hj
    have hd : t / k * k + t % k = t := by rw [Nat.mul_comm]; exact Nat.div_add_mod t k
    rw [hd, List.getElem?_eq_getElem hi] at h3
    simp only [Option.bind_some] at h3
    have h4 : (l.flatMap enc)[t]? = some ((l.flatMap enc).toArray[t]) := by
      rw [List.getElem?_eq_getElem (by simpa using h2)]; rfl
    rw [h4] at h3
    have h5 : l.toArray[t / k]! = l[t / k] := by simp [hi]
    rw [h5]
    have hl : t % k < (enc l[t / k]).length := by rw [hk]; exact hj
    rw [getElem!_pos (enc l[t / k]) (t % k) hl]
    rw [List.getElem?_eq_getElem hl] at h3
    exact (Option.some.inj h3).symm

theorem Own.holdsK {w : World} {e : TypeId} {g n c k : Nat} {enc : α → List Value} (hk : ∀ x, (enc x).length = k) (h0 : 0 < k) {l : List α} (h : Own w e k (some ⟨g, 0, Option.none⟩) n c (l.flatMap enc)) :
    HoldsK enc k w g 0 l.toArray ∧ g < w.heap.size ∧ n = l.length := by
  rcases h.form with ⟨h1, _⟩ | ⟨g', rest, h1, hb, h2, h3, h4⟩
  · cases h1
  · have hg := addr_inj h1
    subst hg
    refine ⟨?_, hb.lt, ?_⟩
    · unfold HoldsK
      rw [flatK_list enc hk h0]
      intro j hj
      have hj' : j < (l.flatMap enc).length := by simpa using hj
      refine ⟨?_, hb.free _ rfl⟩
      rw [Nat.zero_add, hb.cell, List.getElem?_append_left hj', List.getElem?_eq_getElem hj']
      simp [List.getElem?_eq_getElem hj']
    · have := h.len
      rw [flatMap_len enc hk] at this
      exact (Nat.eq_of_mul_eq_mul_right h0 this).symm
theorem Own.sortedK {w w' : World} {e : TypeId} {g n c k : Nat} {enc : α → List Value} (hk : ∀ x, (enc x).length = k) (h0 : 0 < k) {l : List α} (h : Own w e k (some ⟨g, 0, Option.none⟩) n c (l.flatMap enc)) {d' : Array α} (hd : d'.size = l.length) {q : Nat} {os : Array Obj}
    (hw : w' = sortWorldK enc k w g 0 q d' os) : Own w' e k (some ⟨g, 0, Option.none⟩) n c (d'.toList.flatMap enc) ∧ Mod (At (some ⟨g, 0, Option.none⟩)) w w' := by
  obtain ⟨_, hlt, hn⟩ := h.holdsK hk h0
  rcases h.form with ⟨h1, _⟩ | ⟨g', rest, h1, hb, h2, h3, h4⟩
  · cases h1
  · have hg := addr_inj h1
    subst hg
    have hf : flatK enc k d' = (d'.toList.flatMap enc).toArray := by
      have := flatK_list enc hk h0 d'.toList
      simpa using this
    have hl : (d'.toList.flatMap enc).length = (l.flatMap enc).length := by rw [flatMap_len enc hk, flatMap_len enc hk]; simp [hd]
    have hheap : w'.heap[g]? = some (.cells (putCells id 0 (d'.toList.flatMap enc).toArray (l.flatMap enc ++ rest).toArray) e (0, 0)) := by
      subst hw
      unfold sortWorldK putRowK
      rw [hf]
      rw [heap_grow_old _ _ (by simpa [putRow, mapBlock, Sort.ahead] using hlt)]
      unfold Blk at hb
      simp [putRow, mapBlock, Sort.ahead, Array.getElem?_modify, hb, onCells]
    have hb' : Blk w' g (d'.toList.flatMap enc ++ rest) e := by
      unfold Blk
      rw [hheap]
      congr 2
      apply Array.ext_getElem?
      intro j
      simp only [putCells, Array.getElem?_mapIdx, List.getElem?_toArray, Nat.zero_le, true_and, Nat.zero_add, List.size_toArray, Nat.sub_zero]
      by_cases hj : j < (d'.toList.flatMap enc).length
      · rw [List.getElem?_append_left hj, List.getElem?_append_left (by omega), List.getElem?_eq_getElem hj, List.getElem?_eq_getElem (by omega)]
        rw [Option.map_some, if_pos hj]
        simp [List.getElem?_eq_getElem hj]
      · rw [List.getElem?_append_right (by omega), List.getElem?_append_right (by omega), hl]
        cases rest[j - (l.flatMap enc).length]? with
        | none => rfl
        | some x =>
          simp only [Option.map_some, Option.some.injEq]
          rw [if_neg (by omega)]
    refine ⟨Own.of_blk hb' h2 h3 (by rw [List.length_append, hl, ← List.length_append]; exact h4) (by rw [hl]; exact h.len), ?_⟩
    subst hw
    refine grown_mod (p := some ⟨g, 0, Option.none⟩) (n := 0) (c := 0) ⟨rfl, rfl, rfl, by simp [sortWorldK, putRowK, putRow, mapBlock, Sort.ahead], fun b hb2 hne => ?_⟩
    unfold sortWorldK putRowK
    rw [heap_grow_old _ _ (by simpa [putRow, mapBlock, Sort.ahead] using hb2)]
    have : g ≠ b := fun e => hne (by rw [e]; rfl)
    simp [putRow, mapBlock, Sort.ahead, Array.getElem?_modify, this]

end Go.Sh
end
