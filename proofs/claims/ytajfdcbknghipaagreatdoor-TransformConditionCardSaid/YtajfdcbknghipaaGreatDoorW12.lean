/- The law TransformCondition of the package credencelaw23 answers true at every input and leaves its arguments as they were (Rows.TransformConditionCardSaid); no condition beyond the card's own: the three listed tables stand as the program's text lays them. Part 12 of 25. -/
import Derived.Test.YtajfdcbknghipaaGreatDoorW10
import Derived.Test.YtajfdcbknghipaaGreatDoorW11

section
/- flatten: the inputs of an And or an Or, ascending, without the neutral node. Conditions on memory as stated. -/
namespace Go.Proofs.YtajfdcbknghipaaGreatDoor
open Go Go.Sh Go.Fm

variable {w : World} {s : Addr} {L : List Nd} {d : SD}

theorem natI_append (a b : List Nat) : natI (a ++ b) = natI a ++ natI b := by simp [natI]
theorem ints_append (a b : List Int) : ints (a ++ b) = ints a ++ ints b := by simp [ints]
theorem mem_natI {l : List Nat} {x : Int} : x ∈ natI l ↔ ∃ y ∈ l, (y : Int) = x := by simp [natI]
theorem natI_toNat {l : List Int} (h : ∀ x ∈ l, 0 ≤ x) : natI (l.map Int.toNat) = l := by
  unfold natI
  rw [List.map_map]
  conv => rhs; rw [← List.map_id l]
  exact List.map_congr_left fun x hx => by have := h x hx; simp; omega
theorem natI_len (l : List Nat) : (natI l).length = l.length := by simp [natI]
theorem ints_len (l : List Int) : (ints l).length = l.length := by simp [ints]
theorem natI_asc {l : List Nat} : (natI l).Pairwise (· < ·) ↔ l.Pairwise (· < ·) := by
  unfold natI; rw [List.pairwise_map]
  constructor <;> exact fun h => h.imp fun h => by omega
theorem natI_inj {a b : List Nat} (h : natI a = natI b) : a = b := by
  have := congrArg (List.map Int.toNat) h
  simpa [natI, List.map_map, Function.comp_def] using this

/-- A slice of node numbers of the caller's own. -/
def OwnN (w : World) (p : Option Addr) (c : Nat) (l : List Nat) : Prop := Own w 3 1 p l.length c (ints (natI l))
theorem OwnN.keep {fp : Nat → Prop} {w' : World} {p : Option Addr} {c : Nat} {l : List Nat} (h : OwnN w p c l) (hm : Mod fp w w') (hn : ∀ b, At p b → ¬ fp b) : OwnN w' p c l := Own.keep h hm hn
theorem OwnN.push {p : Option Addr} {c : Nat} {l : List Nat} {x : Nat} (h : OwnN w p c l) (hl : l.length ≤ 1000000000000) {w1 : World} (hw1 : Ext w [OB.cells [.int .i64 x] 3] w1) :
    ∃ w2 p' c', (Builtin.append_ #[25, 25] 25 #[.slice p l.length c, .slice (some ⟨w.heap.size + 0, 0, none⟩) 1 1]).run Tryz.prog w1 = .ok (.slice p' (l.length + 1) c') w2 ∧
      OwnN w2 p' c' (l ++ [x]) ∧ Mod (At p) w w2 ∧ (∀ b, At p' b → At p b ∨ w.heap.size ≤ b) := by
  obtain ⟨w2, p', c', h1, h2, h3, h4⟩ := append_one (ty := 25) elem_int h (vs := [.int .i64 x]) rfl (by intro u hu; simp only [List.mem_singleton] at hu; subst hu; rfl) (by omega) (by omega) hw1
  refine ⟨w2, p', c', h1, ?_, h3, h4⟩
  unfold OwnN
  rw [natI_append, ints_append, List.length_append]
  exact h2

/-- What an input adds to the list. -/
def add1 (L : List Nd) (kind : Int) (a : Nat) : List Nat := match L[a]? with
  | some n => if n.kind = kind then n.ins else if a = neutralOf kind then [] else [a]
  | none => []
def isK (L : List Nd) (kind : Int) (a : Nat) : Bool := match L[a]? with
  | some n => decide (n.kind = kind)
  | none => false
theorem mem_add1 (hwf : WF L) {kind : Int} {a x : Nat} (ha : a < L.length) : x ∈ add1 L kind a ↔ x ∈ expand L kind a ∧ x ≠ neutralOf kind := by
  unfold add1 expand
  rw [List.getElem?_eq_getElem ha]
  simp only
  split
  · refine ⟨fun h => ⟨h, ?_⟩, fun h => h.1⟩
    have := (hwf.ok a _ (List.getElem?_eq_getElem ha)).ge x h
    unfold neutralOf; split <;> omega
  · split
    · rename_i h; subst h; simp
    · rename_i h; simp; rintro rfl; exact h
theorem body_plain {kind : Int} : ∀ (ds : List Nat), ds.Pairwise (· < ·) → ds.any (isK L kind) = false → (ds.flatMap (add1 L kind)).Pairwise (· < ·) ∧ ∀ x ∈ ds.flatMap (add1 L kind), x ∈ ds
  | [], _, _ => by simp
  | a :: ds, h, hk => by
    rw [List.pairwise_cons] at h
    simp only [List.any_cons, Bool.or_eq_false_iff] at hk
    obtain ⟨h1, h2⟩ := body_plain ds h.2 hk.2
    have ha : ∀ x ∈ add1 L kind a, x = a := by
      intro x hx
      unfold add1 at hx
      unfold isK at hk
      cases hL : L[a]? with
      | none => rw [hL] at hx; cases hx
      | some n =>
        rw [hL] at hx hk
        simp only [decide_eq_false_iff_not] at hk
        simp only [if_neg hk.1] at hx
        split at hx
        · cases hx
        · simpa using hx
    have hasc : (add1 L kind a).Pairwise (· < ·) := by
      unfold add1
      unfold isK at hk
      cases hL : L[a]? with
      | none => simp
      | some n =>
        rw [hL] at hk
        simp only [decide_eq_false_iff_not] at hk
        simp only [if_neg hk.1]
        split <;> simp
    refine ⟨?_, ?_⟩
    · rw [List.flatMap_cons, List.pairwise_append]
      refine ⟨hasc, h1, fun x hx y hy => ?_⟩
      rw [ha x hx]
      exact h.1 y (h2 y hy)
    · intro x hx
      rw [List.flatMap_cons, List.mem_append] at hx
      rcases hx with hx | hx
      · rw [ha x hx]; exact List.mem_cons_self
      · exact List.mem_cons_of_mem _ (h2 x hx)
theorem flatMap_len (f : Nat → List Nat) (m : Nat) : ∀ ds : List Nat, (∀ a ∈ ds, (f a).length ≤ m) → (ds.flatMap f).length ≤ ds.length * m
  | [], _ => by simp
  | a :: ds, h => by
    rw [List.flatMap_cons, List.length_append, List.length_cons, Nat.succ_mul]
    have := flatMap_len f m ds fun b hb => h b (List.mem_cons_of_mem _ hb)
    have := h a List.mem_cons_self
    omega

theorem flatten_ok (h : StM w s L d) (hwf : WF L) (hL : L.length ≤ 30000) {kind : Int} (hk : kind = 4 ∨ kind = 5) {p : Option Addr} {c : Nat} {l : List Nat} (hr : Row w p (ints (natI l))) (hv : ∀ a ∈ l, a < L.length) (hl : l.length ≤ 1000000) :
    CallsF Tryz.prog 57 #[.pointer (some s), .int .i64 kind, .int .i64 (neutralOf kind), .slice p l.length c] w fun e w' =>
      ∃ p' c', e = .returned (.slice p' (flat L kind l).length c') ∧ OwnN w' p' c' (flat L kind l) ∧ Mod NoB w w' ∧ ∀ b, At p' b → w.heap.size ≤ b := by
  have hins := insLen_small hwf.ok hL
  refine C_formula_Store_flatten _ _ _ _ _ _ _ _ ?_
  have hc0 := clone_ok (c := c) hr (by rw [natI_len]; omega)
  rw [natI_len] at hc0
  refine hc0.mono ?_
  rintro e w1 ⟨p1, c1, rfl, ho1, hm1, hf1⟩
  refine ⟨p1, _, c1, rfl, (sortI_ok ho1 (by omega)).mono ?_⟩
  rintro e w2 ⟨rfl, l2, hperm, hsrt, ho2, hm2⟩
  have hl2 : l2.length = l.length := by rw [hperm.length_eq, natI_len]
  refine ⟨rfl, (compact_ok ho2 (by omega)).mono ?_⟩
  rintro e w3 ⟨rfl, ho3, hm3⟩
  obtain ⟨hasc, hmem⟩ := compact_asc l2 hsrt
  have hle := Lib.compact_length_le l2
  generalize Lib.compact l2 = ds0 at hasc hmem ho3 hle ⊢
  -- the distinct inputs, as numbers
  have hnn : ∀ x ∈ ds0, 0 ≤ x := by
    intro x hx
    obtain ⟨y, _, rfl⟩ := mem_natI.1 (hperm.mem_iff.1 ((hmem x).1 hx))
    omega
  have hds := natI_toNat hnn
  generalize ds0.map Int.toNat = ds at hds
  subst hds
  rw [natI_len] at ho3 hle ⊢
  have hasc' := natI_asc.1 hasc
  have hmem' : ∀ x : Nat, x ∈ ds ↔ x ∈ l := by
    intro x
    have h1 := hmem (x : Int)
    rw [hperm.mem_iff] at h1
    constructor
    · intro hx
      obtain ⟨y, hy, he⟩ := mem_natI.1 (h1.1 (mem_natI.2 ⟨x, hx, rfl⟩))
      have : y = x := by omega
      subst this; exact hy
    · intro hx
      obtain ⟨y, hy, he⟩ := mem_natI.1 (h1.2 (mem_natI.2 ⟨x, hx, rfl⟩))
      have : y = x := by omega
      subst this; exact hy
  have hdlt : ∀ a ∈ ds, a < L.length := fun a ha => hv a ((hmem' a).1 ha)
  have hdlen : ds.length ≤ 30000 := Nat.le_trans (asc_len hasc' hdlt) hL
  have hmfresh : ∀ {w' : World}, Mod (At p1) w1 w' → Mod NoB w w' := fun hm => hm1.new _ hm fun x hx hp => by have := hf1 x hp; omega
  have hm03 : Mod NoB w w3 := hmfresh (hm2.then hm3)
  obtain ⟨w4, hmk, ho4, hm4, hs4⟩ := makeSlice_own (w := w3) elem_int rfl .i64 .i64 (l := 0) (n := ds.length) (Nat.zero_le _) (by omega) (by omega)
  refine ⟨p1, _, c1, rfl, w4, _, _, _, hmk, ?_⟩
  have hm04 : Mod NoB w w4 := hm03.then hm4
  have ho3' : ∀ w', Mod NoB w3 w' → OwnN w' p1 c1 ds := fun w' hm => Own.keep ho3 hm fun _ _ => NoB.not
  have haddlen : ∀ a ∈ ds, (add1 L kind a).length ≤ 30000 := by
    intro a ha
    unfold add1
    rw [List.getElem?_eq_getElem (hdlt a ha)]
    simp only
    have := (hwf.ok a _ (List.getElem?_eq_getElem (hdlt a ha))).len
    split
    · have := hdlt a ha; omega
    · split <;> simp
  have hplt : ∀ b, At p1 b → b < w3.heap.size := ho3.lt
  refine ⟨fun m vs w' => ∃ (i : Nat) (p2 : Option Addr) (c2 : Nat), m = ds.length - i ∧ i ≤ ds.length ∧ vs = [.bool ((ds.take i).any (isK L kind)), .slice p2 ((ds.take i).flatMap (add1 L kind)).length c2, .int .i64 i] ∧
    OwnN w' p2 c2 ((ds.take i).flatMap (add1 L kind)) ∧ OwnN w' p1 c1 ds ∧ Mod NoB w w' ∧ (∀ b, At p2 b → w3.heap.size ≤ b) ∧ w3.heap.size ≤ w'.heap.size, ⟨_, 0, _, _, rfl, Nat.zero_le _, rfl, ho4, ho3' w4 hm4, hm04, ?_, by omega⟩, ?_⟩
  · rintro b ⟨a, ha, rfl⟩; injection ha with ha; subst ha; exact Nat.le_refl _
  rintro m b0 p2 n3' c2 i' w5 ⟨i, p2', c2', rfl, hi, hvs, hol, hod, hm5, hf2, hsz5⟩
  simp only [List.cons.injEq, Value.int.injEq, Value.bool.injEq, Value.slice.injEq, true_and, and_true] at hvs
  obtain ⟨rfl, ⟨rfl, rfl, rfl⟩, rfl⟩ := hvs
  have hst5 := h.same hm5
  have hbodylen : ∀ k, ((ds.take k).flatMap (add1 L kind)).length ≤ 900000000 := by
    intro k
    have := flatMap_len (add1 L kind) 30000 (ds.take k) fun a ha => haddlen a (List.mem_of_mem_take ha)
    have h3 : (ds.take k).length ≤ 30000 := by rw [List.length_take]; omega
    omega
  refine Br_dec (fun hlt => ?_) fun hge => ?_
  · have hi' : i < ds.length := by omega
    have hx : ds[i]? = some ds[i] := List.getElem?_eq_getElem hi'
    have hxL := hdlt _ (List.getElem_mem hi')
    have htake : ds.take (i + 1) = ds.take i ++ [ds[i]] := List.take_succ_eq_append_getElem hi'
    have hbodyS : (ds.take (i + 1)).flatMap (add1 L kind) = (ds.take i).flatMap (add1 L kind) ++ add1 L kind ds[i] := by rw [htake, List.flatMap_append]; simp
    have hanyS : (ds.take (i + 1)).any (isK L kind) = ((ds.take i).any (isK L kind) || isK L kind ds[i]) := by rw [htake, List.any_append]; simp
    generalize ds[i] = a at hx hxL hbodyS hanyS htake
    obtain ⟨ap, hpa, hcp⟩ := (Own.row hod).at (i := i) (v := .int .i64 a) (by rw [ints_get, natI_get, hx]; rfl)
    subst hpa
    refine ⟨⟨by omega, by omega⟩, _, by rw [Int.toNat_natCast, Nat.mul_one]; exact hcp, _, _, _, hst5.c0, ?_⟩
    have hn : L[a]? = some L[a] := List.getElem?_eq_getElem hxL
    generalize hnd : L[a] = nd at hn
    have hok := hwf.ok a nd hn
    obtain ⟨ad, hpe, hce⟩ := hst5.entry_cell hn
    rw [hpe]
    refine ⟨⟨by omega, by omega⟩, nd.kind, by rw [Int.toNat_natCast]; exact hce 3 _ rfl, ?_⟩
    rw [wrap_i64 (n := nd.kind) (by have := hok.k0; omega) (by have := hok.k1; omega)]
    have hisK : isK L kind a = decide (nd.kind = kind) := by unfold isK; rw [hn]
    intro J hJ
    have hnext : ∀ (p6 : Option Addr) (c6 : Nat) (w6 : World) (bb : Bool), bb = (ds.take (i + 1)).any (isK L kind) → OwnN w6 p6 c6 ((ds.take (i + 1)).flatMap (add1 L kind)) → OwnN w6 (some ap) c1 ds → Mod NoB w w6 → (∀ b, At p6 b → w3.heap.size ≤ b) → w3.heap.size ≤ w6.heap.size →
        J [.bool bb, .slice p6 ((ds.take (i + 1)).flatMap (add1 L kind)).length c6] w6 := by
      intro p6 c6 w6 bb hbb h6 hd6 hm6 hf6 hs6
      refine hJ _ _ _ _ _ ⟨ds.length - (i + 1), by omega, i + 1, p6, c6, rfl, hi', ?_, h6, hd6, hm6, hf6, hs6⟩
      rw [hbb, wrap_i64 (by omega) (by omega)]; rfl
    refine Br_eq (fun hkk => ?_) fun hkk => ?_
    · -- an input of the same kind: its inputs
      have hadd : add1 L kind a = nd.ins := by unfold add1; rw [hn]; simp [hkk]
      refine (inputsOf_ok hst5 (by omega) hn).mono ?_
      rintro e w6 ⟨pq, cq, rfl, hrow, hin, hm6⟩
      refine ⟨pq, _, cq, rfl, ?_⟩
      have hfpn : ∀ (q : Option Addr), (∀ b, At q b → w3.heap.size ≤ b) → ∀ b, At q b → ¬ d.fp b := fun q hq b hb hd => by
        have := hq b hb
        have := h.lt b hd
        have := hm03.size
        omega
      refine ⟨fun m vs w' => ∃ (k : Nat) (p3 : Option Addr) (c3 : Nat), m = nd.ins.length - k ∧ k ≤ nd.ins.length ∧ vs = [.slice p3 ((ds.take i).flatMap (add1 L kind) ++ nd.ins.take k).length c3, .int .i64 k] ∧
        OwnN w' p3 c3 ((ds.take i).flatMap (add1 L kind) ++ nd.ins.take k) ∧ OwnN w' (some ap) c1 ds ∧ Mod NoB w w' ∧ Row w' pq (i32s nd.ins) ∧ (∀ b, At p3 b → w3.heap.size ≤ b) ∧ w3.heap.size ≤ w'.heap.size,
        ⟨_, 0, p2, c2, rfl, Nat.zero_le _, ?_, ?_, hod.keep hm6 fun _ _ => NoB.not, hm5.then hm6, hrow, hf2, Nat.le_trans hsz5 hm6.size⟩, ?_⟩
      · simp
      · rw [List.take_zero, List.append_nil]; exact hol.keep hm6 fun _ _ => NoB.not
      rintro m p3 n3' c3 k' w7 ⟨k, p3', c3', rfl, hk', hvs, ho7, hd7, hm7, hrow7, hf7, hs7⟩
      simp only [List.cons.injEq, Value.int.injEq, Value.slice.injEq, true_and, and_true] at hvs
      obtain ⟨⟨rfl, rfl, rfl⟩, rfl⟩ := hvs
      refine Br_dec (fun hltk => ?_) fun hgek => ?_
      · have hk'' : k < nd.ins.length := by omega
        have hy : nd.ins[k]? = some nd.ins[k] := List.getElem?_eq_getElem hk''
        have hyL := hok.lt _ (List.getElem_mem hk'')
        have htk : nd.ins.take (k + 1) = nd.ins.take k ++ [nd.ins[k]] := List.take_succ_eq_append_getElem hk''
        generalize nd.ins[k] = y at hy hyL htk
        obtain ⟨aq, hpq, hcq⟩ := hrow7.at (i := k) (v := .int .i32 y) (by rw [i32s_get, hy]; rfl)
        subst hpq
        refine ⟨⟨by omega, by omega⟩, _, by rw [Int.toNat_natCast, Nat.mul_one]; exact hcq, ?_⟩
        rw [wrap_i64 (by omega) (by omega)]
        intro w8 hw8
        have hlen7 : ((ds.take i).flatMap (add1 L kind) ++ nd.ins.take k).length ≤ 1000000000000 := by
          have := hbodylen i
          rw [List.length_append, List.length_take]
          have := hok.len
          omega
        obtain ⟨w9, p9, c9, hrun, ho9, hm9, hat⟩ := ho7.push hlen7 hw8
        refine ⟨w9, p9, _, c9, hrun, nd.ins.length - (k + 1), by omega, k + 1, p9, c9, rfl, hk'', ?_, ?_, ?_, ?_, ?_, ?_, ?_⟩
        · have hll : ((ds.take i).flatMap (add1 L kind) ++ nd.ins.take k ++ [y]).length = ((ds.take i).flatMap (add1 L kind) ++ nd.ins.take k).length + 1 := List.length_append
          have hnl := hok.len
          rw [htk, ← List.append_assoc, hll, wrap_i64 (by omega) (by omega)]; rfl
        · rw [htk, ← List.append_assoc]; exact ho9
        · exact hd7.keep hm9 fun b hb hb' => by have := hf7 b hb'; have := hplt b hb; omega
        · exact hm7.new _ hm9 fun b hb hb' => by have := hf7 b hb'; have := hm03.size; omega
        · exact hrow7.keep hm9 fun a' ha' hb' => hfpn p3 hf7 _ hb' (hin _ ⟨a', ha', rfl⟩)
        · intro b hb
          rcases hat b hb with h' | h'
          · exact hf7 b h'
          · omega
        · exact Nat.le_trans hs7 hm9.size
      · have : k = nd.ins.length := by omega
        subst this
        rw [List.take_length] at ho7
        have hb : (ds.take (i + 1)).flatMap (add1 L kind) = (ds.take i).flatMap (add1 L kind) ++ nd.ins := by rw [hbodyS, hadd]
        have := hnext p3 c3 w7 true (by rw [hanyS, hisK]; simp [hkk]) (by rw [hb]; exact ho7) hd7 hm7 hf7 hs7
        rw [hb] at this
        rw [List.take_length]
        exact this
    · have hkf : isK L kind a = false := by rw [hisK]; simp [hkk]
      have hany : (ds.take i).any (isK L kind) = (ds.take (i + 1)).any (isK L kind) := by rw [hanyS, hkf, Bool.or_false]
      intro J1 hJ1
      refine Br_ne (fun hne => ?_) fun heq => ?_
      · have hadd : add1 L kind a = [a] := by
          unfold add1; rw [hn]; simp only [if_neg hkk]; rw [if_neg (by omega)]
        intro w6 hw6
        obtain ⟨w7, p7, c7, hrun, ho7, hm7, hat⟩ := hol.push (by have := hbodylen i; omega) hw6
        have hb : (ds.take (i + 1)).flatMap (add1 L kind) = (ds.take i).flatMap (add1 L kind) ++ [a] := by rw [hbodyS, hadd]
        refine ⟨w7, p7, _, c7, hrun, hJ1 _ _ _ _ ?_⟩
        have := hnext p7 c7 w7 _ hany (by rw [hb]; exact ho7) (hod.keep hm7 fun b hb hb' => by have := hf2 b hb'; have := hplt b hb; omega) (hm5.new _ hm7 fun b hb hb' => by have := hf2 b hb'; have := hm03.size; omega) (fun b hb => by
          rcases hat b hb with h' | h'
          · exact hf2 b h'
          · omega) (Nat.le_trans hsz5 hm7.size)
        rw [hb, List.length_append] at this
        exact this
      · have hadd : add1 L kind a = [] := by
          unfold add1; rw [hn]; simp only [if_neg hkk]; rw [if_pos (by omega)]
        have hb : (ds.take (i + 1)).flatMap (add1 L kind) = (ds.take i).flatMap (add1 L kind) := by rw [hbodyS, hadd, List.append_nil]
        have := hnext p2 c2 w5 _ hany (by rw [hb]; exact hol) hod hm5 hf2 hsz5
        rw [hb] at this
        exact hJ1 _ _ _ _ this
  -- behind the loop
  have hie : i = ds.length := by omega
  subst hie
  rw [List.take_length] at hol ⊢
  have hmemB : ∀ x, x ∈ ds.flatMap (add1 L kind) ↔ x ∈ flat L kind l := by
    intro x
    rw [mem_flat, List.mem_flatMap]
    constructor
    · rintro ⟨a, ha, hx⟩
      have := (mem_add1 hwf (hdlt a ha)).1 hx
      exact ⟨⟨a, (hmem' a).1 ha, this.1⟩, this.2⟩
    · rintro ⟨⟨a, ha, hx⟩, hne⟩
      exact ⟨a, (hmem' a).2 ha, (mem_add1 hwf (hv a ha)).2 ⟨hx, hne⟩⟩
  have hbl := hbodylen ds.length
  rw [List.take_length] at hbl
  have hf2' : ∀ b, At p2 b → w.heap.size ≤ b := fun b hb => by have := hf2 b hb; have := hm03.size; omega
  intro J hJ
  refine Br_intro (fun _ => ?_) fun hnone => ?_
  · refine (sortI_ok hol (by omega)).mono ?_
    rintro e w6 ⟨rfl, l6, hperm6, hsrt6, ho6, hm6⟩
    refine ⟨rfl, (compact_ok ho6 (by omega)).mono ?_⟩
    rintro e w7 ⟨rfl, ho7, hm7⟩
    obtain ⟨hasc7, hmem7⟩ := compact_asc l6 hsrt6
    generalize Lib.compact l6 = l7 at hasc7 hmem7 ho7 ⊢
    have hnn7 : ∀ x ∈ l7, 0 ≤ x := by
      intro x hx
      obtain ⟨y, _, rfl⟩ := mem_natI.1 (hperm6.mem_iff.1 ((hmem7 x).1 hx))
      omega
    have hl7 := natI_toNat hnn7
    generalize l7.map Int.toNat = l8 at hl7
    subst hl7
    have heq : l8 = flat L kind l := by
      refine asc_uniqueN (natI_asc.1 hasc7) (flat_asc _ _ _) fun x => ?_
      rw [← hmemB]
      have h1 := hmem7 (x : Int)
      rw [hperm6.mem_iff] at h1
      constructor
      · intro hx
        obtain ⟨y, hy, he⟩ := mem_natI.1 (h1.1 (mem_natI.2 ⟨x, hx, rfl⟩))
        have : y = x := by omega
        subst this; exact hy
      · intro hx
        obtain ⟨y, hy, he⟩ := mem_natI.1 (h1.2 (mem_natI.2 ⟨x, hx, rfl⟩))
        have : y = x := by omega
        subst this; exact hy
    subst heq
    rw [natI_len] at ho7 ⊢
    refine ⟨p2, _, c2, rfl, hJ _ _ _ _ ⟨p2, c2, rfl, ho7, ?_, hf2'⟩⟩
    exact hm5.new _ (hm6.then hm7) fun b hb hb' => by have := hf2' b hb'; omega
  · obtain ⟨hp1, _⟩ := body_plain (L := L) (kind := kind) ds hasc' hnone
    have heq : ds.flatMap (add1 L kind) = flat L kind l := asc_uniqueN hp1 (flat_asc _ _ _) hmemB
    rw [heq] at hol ⊢
    exact hJ _ _ _ _ ⟨p2, c2, rfl, hol, hm5, hf2'⟩

end Go.Proofs.YtajfdcbknghipaaGreatDoor
end

section
/- complementary, exclusive, combine. Conditions on memory as stated. -/
namespace Go.Proofs.YtajfdcbknghipaaGreatDoor
open Go Go.Sh Go.Fm

variable {w : World} {s : Addr} {L : List Nd} {d : SD} {p : Option Addr} {c : Nat} {l : List Nat} {kind : Int}

theorem OwnN.at (h : OwnN w p c l) {i x : Nat} (hi : l[i]? = some x) : ∃ a, p = some a ∧ w.cell? (a.add (i * 1)) = some (.int .i64 x) := by
  obtain ⟨a, hp, hc⟩ := (Own.row h).at (i := i) (v := .int .i64 x) (by rw [ints_get, natI_get, hi]; rfl)
  exact ⟨a, hp, by rw [Nat.mul_one]; exact hc⟩
theorem contains_natI (l : List Nat) (x : Nat) : (natI l).contains (x : Int) = l.contains x := by
  rw [Bool.eq_iff_iff, List.contains_iff_mem, List.contains_iff_mem, mem_natI]
  constructor
  · rintro ⟨y, hy, he⟩
    have : y = x := by omega
    subst this; exact hy
  · intro h; exact ⟨x, h, rfl⟩

theorem complementary_ok (h : StM w s L d) (hwf : WF L) (hL : L.length ≤ 30000) (ho : OwnN w p c l) (hasc : l.Pairwise (· < ·)) (hv : ∀ a ∈ l, a < L.length) :
    CallsF Tryz.prog 58 #[.pointer (some s), .slice p l.length c] w (Ret (.bool (compl L l)) NoB w) := by
  have hins := insLen_small hwf.ok hL
  have hlen := Nat.le_trans (asc_len hasc hv) hL
  refine C_formula_Store_complementary _ _ _ _ _ _ ?_
  let tst : Nat → Bool := fun a => match L[a]? with
    | some n => n.kind == 3 && n.ins.any fun x => l.contains x
    | none => false
  have hcomp : compl L l = l.any tst := rfl
  refine ⟨fun m vs w' => ∃ i : Nat, m = l.length - i ∧ i ≤ l.length ∧ vs = [.bool false, .int .i64 i] ∧ (l.take i).any tst = false ∧ Mod NoB w w', ⟨_, 0, rfl, Nat.zero_le _, rfl, rfl, Mod.refl _ _⟩, ?_⟩
  rintro m b0 i' w1 ⟨i, rfl, hi, hvs, hany, hm1⟩
  simp only [List.cons.injEq, Value.int.injEq, Value.bool.injEq, true_and, and_true] at hvs
  obtain ⟨rfl, rfl⟩ := hvs
  refine Br_dec (fun hlt => ?_) fun hge => ?_
  rotate_left
  · have : i = l.length := by omega
    subst this
    rw [List.take_length] at hany
    exact ⟨ret_bool (by rw [hcomp, hany]), hm1⟩
  intro J hJ
  have hi' : i < l.length := by omega
  have hx : l[i]? = some l[i] := List.getElem?_eq_getElem hi'
  have hxL := hv _ (List.getElem_mem hi')
  have htake : l.take (i + 1) = l.take i ++ [l[i]] := List.take_succ_eq_append_getElem hi'
  have hmem : l[i] ∈ l := List.getElem_mem hi'
  generalize l[i] = a at hx hxL htake hmem
  obtain ⟨ap, hpa, hcp⟩ := (ho.keep hm1 fun _ _ => NoB.not).at hx
  subst hpa
  have hst1 := h.same hm1
  have hn : L[a]? = some L[a] := List.getElem?_eq_getElem hxL
  generalize L[a] = nd at hn
  have hok := hwf.ok a nd hn
  obtain ⟨ad, hpe, hce⟩ := hst1.entry_cell hn
  refine ⟨⟨by omega, by omega⟩, _, by rw [Int.toNat_natCast]; exact hcp, _, _, _, hst1.c0, ?_⟩
  rw [hpe]
  refine ⟨⟨by omega, by omega⟩, nd.kind, by rw [Int.toNat_natCast]; exact hce 3 _ rfl, ?_⟩
  have hnext : ∀ w2, Mod NoB w w2 → tst a = false → J [.bool false] w2 := by
    intro w2 hm2 ht
    refine hJ _ _ ⟨l.length - (i + 1), by omega, i + 1, rfl, hi', by rw [wrap_i64 (by omega) (by omega)]; rfl, ?_, hm2⟩
    rw [htake, List.any_append, hany]; simp [ht]
  have htst : tst a = (nd.kind == 3 && nd.ins.any fun x => l.contains x) := by show (match L[a]? with | some n => _ | none => _) = _; rw [hn]
  refine Br_ne (fun hne => hnext w1 hm1 (by rw [htst]; simp [hne])) fun h3 => ?_
  have h1l := hok.not1 h3
  obtain ⟨x, hxi⟩ : ∃ x, nd.ins = [x] := List.length_eq_one_iff.1 h1l
  refine (inputsOf_ok hst1 (by omega) hn).mono ?_
  rintro e w2 ⟨pq, cq, rfl, hrow, hin, hm2⟩
  refine ⟨pq, _, cq, rfl, ?_⟩
  rw [hxi] at hrow ⊢
  obtain ⟨aq, hpq, hcq⟩ := hrow.at (i := 0) (v := .int .i32 x) rfl
  subst hpq
  have hxlt := hok.lt x (by rw [hxi]; exact List.mem_cons_self)
  refine ⟨⟨by omega, by show (0 : Int) < ((1 : Nat) : Int); omega⟩, _, hcq, ?_⟩
  rw [wrap_i64 (by omega) (by omega)]
  have hm12 : Mod NoB w w2 := hm1.then hm2
  refine (bsearch_ok (x := (x : Int)) (ho.keep hm12 fun _ _ => NoB.not) ((natI_asc.2 hasc).imp fun h => by omega) (by omega)).mono ?_
  rintro e w3 ⟨k, rfl, hm3⟩
  refine ⟨_, _, rfl, ?_⟩
  rw [contains_natI]
  refine Br_intro (fun hc => ?_) fun hc => hnext w3 (hm12.then hm3) (by rw [htst, hxi]; simp only [List.any_cons, List.any_nil, Bool.or_false]; rw [hc, Bool.and_false])
  refine ⟨ret_bool ?_, hm12.then hm3⟩
  rw [hcomp, eq_comm, List.any_eq_true]
  refine ⟨a, hmem, ?_⟩
  rw [htst, hxi]
  simp [h3, List.contains_iff_mem.1 hc]

theorem elem_i16 : ElemOK Tryz.prog 133 68 1 2 (.int .i16 0) := elem_of (by kernel_rfl) (by kernel_rfl) rfl (by decide)

theorem exclusive_ok (h : StM w s L d) (hwf : WF L) (hL : L.length ≤ 30000) (hk : kind = 4 ∨ kind = 5) (ho : OwnN w p c l) (hlen : l.length ≤ 30000) (hv : ∀ a ∈ l, a < L.length) :
    CallsF Tryz.prog 59 #[.pointer (some s), .int .i64 kind, .slice p l.length c] w (Ret (.bool (excl L kind l)) NoB w) := by
  have hins := insLen_small hwf.ok hL
  refine C_formula_Store_exclusive _ _ _ _ _ _ _ ?_
  let bl : List Nat → List Value := fun l => (l.filterMap (pickOf L kind)).map (Value.int .i16)
  have hbll : ∀ k, (bl (l.take k)).length ≤ 30000 := by
    intro k
    have := List.length_filterMap_le (pickOf L kind) (l.take k)
    simp only [bl, List.length_map]
    rw [List.length_take] at this
    omega
  have hplt := Own.lt ho
  refine ⟨fun m vs w' => ∃ (i : Nat) (q : Option Addr) (cq : Nat), m = l.length - i ∧ i ≤ l.length ∧ vs = [.slice q (bl (l.take i)).length cq, .int .i64 i] ∧ Own w' 68 1 q (bl (l.take i)).length cq (bl (l.take i)) ∧ (∀ b, At q b → w.heap.size ≤ b) ∧ Mod NoB w w',
    ⟨_, 0, none, 0, rfl, Nat.zero_le _, rfl, Own.none _ _ _, fun b hb => (by obtain ⟨a, ha, _⟩ := hb; cases ha), Mod.refl _ _⟩, ?_⟩
  rintro m q n' cq i' w1 ⟨i, q', cq', rfl, hi, hvs, hoq, hfq, hm1⟩
  simp only [List.cons.injEq, Value.int.injEq, Value.slice.injEq, true_and, and_true] at hvs
  obtain ⟨⟨rfl, rfl, rfl⟩, rfl⟩ := hvs
  refine Br_dec (fun hlt => ?_) fun hge => ?_
  · intro J hJ
    have hi' : i < l.length := by omega
    have hx : l[i]? = some l[i] := List.getElem?_eq_getElem hi'
    have hxL := hv _ (List.getElem_mem hi')
    have htake : l.take (i + 1) = l.take i ++ [l[i]] := List.take_succ_eq_append_getElem hi'
    generalize l[i] = a at hx hxL htake
    have hblS : bl (l.take (i + 1)) = bl (l.take i) ++ (match pickOf L kind a with | some b => [Value.int .i16 b] | none => []) := by
      simp only [bl]
      rw [htake, List.filterMap_append, List.map_append]
      congr 1
      cases hp : pickOf L kind a <;> simp [hp]
    obtain ⟨ap, hpa, hcp⟩ := (ho.keep hm1 fun _ _ => NoB.not).at hx
    subst hpa
    have hst1 := h.same hm1
    refine ⟨⟨by omega, by omega⟩, _, by rw [Int.toNat_natCast]; exact hcp, ?_⟩
    have hnext : ∀ (q2 : Option Addr) (c2 : Nat) (w2 : World), Own w2 68 1 q2 (bl (l.take (i + 1))).length c2 (bl (l.take (i + 1))) → (∀ b, At q2 b → w.heap.size ≤ b) → Mod NoB w w2 → J [.slice q2 (bl (l.take (i + 1))).length c2] w2 := by
      intro q2 c2 w2 ho2 hf2 hm2
      exact hJ _ _ _ _ ⟨l.length - (i + 1), by omega, i + 1, q2, c2, rfl, hi', by rw [wrap_i64 (by omega) (by omega)]; rfl, ho2, hf2, hm2⟩
    have hsame : ∀ w2, Mod NoB w w2 → pickOf L kind a = none → J [.slice q (bl (l.take i)).length cq] w2 → True := fun _ _ _ _ => trivial
    have hnone : ∀ w2, Mod NoB w1 w2 → pickOf L kind a = none → J [.slice q (bl (l.take i)).length cq] w2 := by
      intro w2 hm2 hp
      have hb : bl (l.take (i + 1)) = bl (l.take i) := by rw [hblS, hp]; simp
      have := hnext q cq w2 (by rw [hb]; exact hoq.keep hm2 fun _ _ => NoB.not) hfq (hm1.then hm2)
      rw [hb] at this
      exact this
    intro J1 hJ1
    have hpick : ∀ (x : Nat) (w2 : World), x < L.length → Mod NoB w1 w2 → pickOf L kind a = blockOf L x → J1 [.int .i64 x] w2 := by
      intro x w2 hxl hm2 hpk
      refine hJ1 _ _ ?_
      have hst2 := hst1.same hm2
      have hn : L[x]? = some L[x] := List.getElem?_eq_getElem hxl
      generalize L[x] = nd at hn
      have hok := hwf.ok x nd hn
      obtain ⟨ad, hpe, hce⟩ := hst2.entry_cell hn
      refine ⟨_, _, _, hst2.c0, ?_⟩
      rw [hpe]
      refine ⟨⟨by omega, by omega⟩, nd.kind, by rw [Int.toNat_natCast]; exact hce 3 _ rfl, ?_⟩
      have hbo : blockOf L x = if nd.kind = 2 then some nd.block else none := by unfold blockOf; rw [hn]
      intro J2 hJ2
      refine Br_eq (fun h2 => ?_) fun h2 => hJ2 _ _ _ _ (hnone w2 hm2 (by rw [hpk, hbo, if_neg h2]))
      refine ⟨_, _, _, hst2.c0, ?_⟩
      rw [hpe]
      refine ⟨⟨by omega, by omega⟩, nd.block, by rw [Int.toNat_natCast]; exact hce 2 _ rfl, ?_⟩
      intro w3 hw3
      obtain ⟨w4, p4, c4, hrun, ho4, hm4, hat⟩ := append_one (ty := 133) elem_i16 (hoq.keep hm2 fun _ _ => NoB.not) (vs := [.int .i16 nd.block]) rfl (by intro u hu; simp only [List.mem_singleton] at hu; subst hu; rfl) (by have := hbll i; omega) (by have := hbll i; omega) hw3
      refine ⟨w4, p4, _, c4, hrun, hJ2 _ _ _ _ ?_⟩
      have hb : bl (l.take (i + 1)) = bl (l.take i) ++ [.int .i16 nd.block] := by rw [hblS, hpk, hbo, if_pos h2]
      have := hnext p4 c4 w4 (by rw [hb, List.length_append]; exact ho4) (fun b hb => by
        rcases hat b hb with h' | h'
        · exact hfq b h'
        · have := hm1.size; have := hm2.size; omega) ((hm1.then hm2).new _ hm4 fun b hb hb' => by have := hfq b hb'; omega)
      rw [hb, List.length_append] at this
      exact this
    refine Br_eq (fun h5 => ?_) fun h5 => ?_
    · have hn : L[a]? = some L[a] := List.getElem?_eq_getElem hxL
      generalize L[a] = nd at hn
      have hok := hwf.ok a nd hn
      obtain ⟨ad, hpe, hce⟩ := hst1.entry_cell hn
      refine ⟨_, _, _, hst1.c0, ?_⟩
      rw [hpe]
      refine ⟨⟨by omega, by omega⟩, nd.kind, by rw [Int.toNat_natCast]; exact hce 3 _ rfl, ?_⟩
      refine Br_ne (fun hne => hnone w1 (Mod.refl _ _) ?_) fun h3 => ?_
      · unfold pickOf; rw [if_pos h5, hn]; simp [hne]
      have h1l := hok.not1 h3
      obtain ⟨x, hxi⟩ : ∃ x, nd.ins = [x] := List.length_eq_one_iff.1 h1l
      refine (inputsOf_ok hst1 (by omega) hn).mono ?_
      rintro e w2 ⟨pq, cq2, rfl, hrow, hin, hm2⟩
      refine ⟨pq, _, cq2, rfl, ?_⟩
      rw [hxi] at hrow ⊢
      obtain ⟨aq, hpq, hcq⟩ := hrow.at (i := 0) (v := .int .i32 x) rfl
      subst hpq
      have hxlt := hok.lt x (by rw [hxi]; exact List.mem_cons_self)
      refine ⟨⟨by omega, by show (0 : Int) < ((1 : Nat) : Int); omega⟩, _, hcq, ?_⟩
      rw [wrap_i64 (by omega) (by omega)]
      exact hpick x w2 (by omega) hm2 (by unfold pickOf; rw [if_pos h5, hn]; simp [h3, hxi])
    · exact hpick a w1 hxL (Mod.refl _ _) (by unfold pickOf; rw [if_neg h5])
  -- the blocks, sorted
  have : i = l.length := by omega
  subst this
  rw [List.take_length] at hoq ⊢
  have hll : (bl l).length ≤ 30000 := by have := hbll l.length; rw [List.take_length] at this; exact this
  refine (sortint16_ok hoq (by omega)).mono ?_
  rintro e w2 ⟨rfl, l2, hperm, hsrt, ho2, hm2⟩
  have hm02 : Mod NoB w w2 := hm1.new _ hm2 fun b hb hb' => by have := hfq b hb'; omega
  have hl2 : (bl l).length = l2.length := by simp only [bl, List.length_map]; exact hperm.length_eq.symm
  rw [hl2] at ho2 hll ⊢
  have hend : ∀ bb : Bool, (bb = true ↔ ¬ l2.Nodup) → bb = excl L kind l := by
    intro bb hb
    unfold excl
    rw [Bool.eq_iff_iff, hb, Bool.not_eq_true', decide_eq_false_iff_not, hperm.nodup_iff]
  refine ⟨rfl, fun m vs w' => ∃ j : Nat, m = l2.length + 1 - j ∧ 1 ≤ j ∧ vs = [.bool false, .int .i64 j] ∧ (∀ k, 0 < k → k < j → ∀ x y, l2[k]? = some x → l2[k - 1]? = some y → x ≠ y) ∧ Mod NoB w2 w', ⟨_, 1, rfl, Nat.le_refl _, rfl, fun k h1 h2 => by omega, Mod.refl _ _⟩, ?_⟩
  rintro m b0 j' w3 ⟨j, rfl, hj1, hvs, hadj, hm3⟩
  simp only [List.cons.injEq, Value.int.injEq, Value.bool.injEq, true_and, and_true] at hvs
  obtain ⟨rfl, rfl⟩ := hvs
  have ho3 := ho2.keep (hm3.then (drew_mod w3)) fun _ _ => NoB.not
  have hm3d : Mod NoB w w3.drew := (hm02.then hm3).then (drew_mod w3)
  refine Br_dec (fun hlt => ?_) fun hge => ?_
  · have hj' : j < l2.length := by omega
    have hx : l2[j]? = some l2[j] := List.getElem?_eq_getElem hj'
    have hy : l2[j - 1]? = some l2[j - 1] := List.getElem?_eq_getElem (by omega)
    obtain ⟨a2, hp2, hc2⟩ := ho3.row.at (i := j) (v := .int .i16 l2[j]) (by rw [List.getElem?_map, hx]; rfl)
    obtain ⟨a3, hp3, hc3⟩ := ho3.row.at (i := j - 1) (v := .int .i16 l2[j - 1]) (by rw [List.getElem?_map, hy]; rfl)
    rw [hp2] at hp3
    injection hp3 with hp3
    subst hp3
    have ej : IntKind.i64.wrap ((j : Int) - 1) = ((j - 1 : Nat) : Int) := by rw [wrap_i64 (by omega) (by omega)]; omega
    rw [ej, hp2]
    refine ⟨⟨by omega, by omega⟩, _, by rw [Int.toNat_natCast, Nat.mul_one]; exact hc2, ⟨by omega, by omega⟩, _, by rw [Int.toNat_natCast, Nat.mul_one]; exact hc3, ?_⟩
    refine Br_eq (fun he => ⟨ret_bool (hend true ?_), hm3d⟩) fun hne => ?_
    · refine ⟨fun _ hnd => ?_, fun _ => rfl⟩
      rw [he] at hx
      have := nodup_inj hnd hx hy
      omega
    · refine ⟨l2.length + 1 - (j + 1), by omega, j + 1, rfl, by omega, by rw [wrap_i64 (by omega) (by omega)]; rfl, ?_, hm3.then (drew_mod w3)⟩
      intro k hk0 hkj x y hxk hyk
      by_cases hkj' : k = j
      · subst hkj'
        rw [hx] at hxk; rw [hy] at hyk
        injection hxk with hxk; injection hyk with hyk
        rw [← hxk, ← hyk]; exact hne
      · exact hadj k hk0 (by omega) x y hxk hyk
  · refine ⟨ret_bool (hend false ?_), hm02.then hm3⟩
    refine ⟨fun h => (by cases h), fun hno => absurd ?_ hno⟩
    -- strictly ascending
    unfold List.Nodup
    rw [List.pairwise_iff_getElem] at hsrt ⊢
    have hstep : ∀ k, ∀ i, (hk : i + 1 + k < l2.length) → l2[i] < l2[i + 1 + k] := by
      intro k
      induction k with
      | zero =>
        intro i hk
        have hk' : i + 1 < l2.length := hk
        have h1 := hsrt i (i + 1) (by omega) hk' (by omega)
        have h2 := hadj (i + 1) (by omega) (by omega) _ _ (List.getElem?_eq_getElem hk') (List.getElem?_eq_getElem (by omega))
        simp only [Nat.add_sub_cancel] at h2
        have h3 : l2[i] < l2[i + 1] := by omega
        exact h3
      | succ k ih =>
        intro i hk
        have h1 := ih i (by omega)
        have h2 := hsrt (i + 1 + k) (i + 1 + (k + 1)) (by omega) hk (by omega)
        omega
    intro i j hi hj hij
    have := hstep (j - i - 1) i (by omega)
    have e : i + 1 + (j - i - 1) = j := by omega
    simp only [e] at this
    omega

end Go.Proofs.YtajfdcbknghipaaGreatDoor
end

section
/- combine, And, Or, Pick, Not. Conditions on memory as stated. -/
namespace Go.Proofs.YtajfdcbknghipaaGreatDoor
open Go Go.Sh Go.Fm

variable {w : World} {s : Addr} {L : List Nd} {d : SD} {p : Option Addr} {c : Nat} {l : List Nat} {kind : Int}

theorem StPost.pre {w1 w' : World} {L' : List Nd} (hm : Mod NoB w w1) (h : StPost w1 s d L' w') : StPost w s d L' w' := by
  obtain ⟨d', h1, h2, h3⟩ := h
  refine ⟨d', h1, hm.to.then h2, fun b hb => ?_⟩
  rcases h3 b hb with h' | h'
  · exact .inl h'
  · have := hm.size; exact .inr (by omega)

theorem head_absorb (hk : kind = 4 ∨ kind = 5) {a : Nat} {r : List Nat} (h : flat L kind l = a :: r) : (flat L kind l).contains (absorbOf kind) = decide (a = absorbOf kind) := by
  have hasc := flat_asc L kind l
  have hne : ∀ x ∈ flat L kind l, x ≠ neutralOf kind := fun x hx => (mem_flat.1 hx).2
  rw [h] at hasc hne ⊢
  rw [List.pairwise_cons] at hasc
  rw [Bool.eq_iff_iff, List.contains_iff_mem, decide_eq_true_iff, List.mem_cons]
  constructor
  · rintro (h1 | h1)
    · exact h1.symm
    · have h2 := hasc.1 _ h1
      have h3 := hne a List.mem_cons_self
      unfold absorbOf at h2 ⊢
      unfold neutralOf at h3
      rcases hk with rfl | rfl
      · simp at h2
      · simp at h2 h3; omega
  · intro h1; exact .inl h1.symm

theorem combine_ok (h : StI w s L d) (hL : L.length < 30000) (hk : kind = 4 ∨ kind = 5) (hr : Row w p (ints (natI l))) (hv : ∀ a ∈ l, a < L.length) (hl : l.length ≤ 1000000) :
    CallsF Tryz.prog 34 #[.pointer (some s), .int .i64 kind, .slice p l.length c] w fun e w' => e = .returned (.int .i64 (comb L kind l).2) ∧ StPost w s d (comb L kind l).1 w' := by
  refine C_formula_Store_combine _ _ _ _ _ _ _ ?_
  refine ⟨fun m vs w' => ∃ i : Nat, m = l.length - i ∧ i ≤ l.length ∧ vs = [.int .i64 0, .int .i64 i] ∧ Mod NoB w w', ⟨_, 0, rfl, Nat.zero_le _, rfl, Mod.refl _ _⟩, ?_⟩
  rintro m r0 i' w1 ⟨i, rfl, hi, hvs, hm1⟩
  simp only [List.cons.injEq, Value.int.injEq, true_and, and_true] at hvs
  obtain ⟨rfl, rfl⟩ := hvs
  have h1 := h.same hm1
  refine Br_dec (fun hlt => ?_) fun hge => ?_
  · have hi' : i < l.length := by omega
    have hx : l[i]? = some l[i] := List.getElem?_eq_getElem hi'
    have hxL := hv _ (List.getElem_mem hi')
    generalize l[i] = a at hx hxL
    obtain ⟨ap, hpa, hcp⟩ := (hr.keep hm1 fun _ _ => NoB.not).at (i := i) (v := .int .i64 a) (by rw [ints_get, natI_get, hx]; rfl)
    subst hpa
    refine ⟨⟨by omega, by omega⟩, _, by rw [Int.toNat_natCast, Nat.mul_one]; exact hcp, ?_⟩
    refine (has_ok h1.m _).mono ?_
    rintro e w2 ⟨rfl, hm2⟩
    refine ⟨_, rfl, Br_not (Br_true (by rw [decide_eq_true_iff]; omega) ?_)⟩
    exact ⟨l.length - (i + 1), by omega, i + 1, rfl, hi', by rw [wrap_i64 (by omega) (by omega)]; rfl, hm1.then hm2⟩
  intro J hJ
  have main : ∀ w2, w2 = w1 → J [.int .i64 (neutralOf kind), .int .i64 (absorbOf kind)] w2 := by
    rintro w2 rfl
    refine hJ _ _ _ ?_
    refine (flatten_ok h1.m h1.wf (by omega) hk (hr.keep hm1 fun _ _ => NoB.not) hv hl).mono ?_
    rintro e w3 ⟨pf, cf, rfl, hof, hm3, hff⟩
    refine ⟨pf, _, cf, rfl, ?_⟩
    have hm03 : Mod NoB w w3 := hm1.then hm3
    have hasc := flat_asc L kind l
    have hflt := flat_lt h.wf.ok (kind := kind) hv
    have hflen := asc_len hasc hflt
    have hndok := fun ha => ndOK_comb h.wf hk hv (l := l) (kind := kind) ha
    have hhead := fun a r (e : flat L kind l = a :: r) => head_absorb hk e
    have hcomb : comb L kind l = if (flat L kind l).contains (absorbOf kind) || compl L (flat L kind l) || excl L kind (flat L kind l) then (L, absorbOf kind)
      else match flat L kind l with
        | [] => (L, neutralOf kind)
        | [a] => (L, a)
        | a :: b :: r => mk L ⟨kind, 0, 0, a :: b :: r⟩ := rfl
    rw [hcomb]
    generalize flat L kind l = f at hof hasc hflt hflen hndok hhead ⊢
    have hdis : ∀ b, At pf b → ¬ d.fp b := fun b hb hd => by have := hff b hb; have := h1.m.lt b hd; omega
    intro J2 hJ2
    have fin : ∀ (bb : Bool) (w4 : World), Mod NoB w3 w4 → bb = (f.contains (absorbOf kind) || compl L f || excl L kind f) → J2 [.bool bb] w4 := by
      intro bb w4 hm4 hbb
      refine hJ2 _ _ ?_
      rw [← hbb]
      have hm04 := hm03.then hm4
      have h4 := h.same hm04
      cases bb
      · rw [if_neg Bool.false_ne_true]
        refine Br_false rfl ?_
        refine Br_eq (fun h0 => ?_) fun h0 => Br_eq (fun h1' => ?_) fun h1' => ?_
        · have : f = [] := List.eq_nil_of_length_eq_zero (by omega)
          subst this
          exact ⟨rfl, h.post hm04⟩
        · obtain ⟨a, rfl⟩ : ∃ a, f = [a] := List.length_eq_one_iff.1 (by omega)
          obtain ⟨ap, hpa, hcp⟩ := (hof.keep hm4 fun _ _ => NoB.not).at (i := 0) (x := a) rfl
          rw [hpa]
          refine ⟨⟨by omega, by show (0 : Int) < ((1 : Nat) : Int); omega⟩, _, hcp, rfl, h.post hm04⟩
        · obtain ⟨a, b, r, rfl⟩ : ∃ a b r, f = a :: b :: r := by
            match f, h0, h1' with
            | [], h0, _ => exact absurd rfl h0
            | [a], _, h1 => exact absurd rfl h1
            | a :: b :: r, _, _ => exact ⟨a, b, r, rfl⟩
          have habs : (a :: b :: r).contains (absorbOf kind) = false := by
            cases hc : (a :: b :: r).contains (absorbOf kind) with
            | false => rfl
            | true => rw [hc] at hbb; simp at hbb
          refine (intern_ok h4 hL (hndok habs) (by show (2 : Int) ≤ kind; omega) (Own.row (hof.keep hm4 fun _ _ => NoB.not)) hdis).mono ?_
          rintro e w5 ⟨rfl, hpost⟩
          exact ⟨_, rfl, rfl, hpost.pre hm04⟩
      · rw [if_pos rfl]
        exact ⟨rfl, h.post hm04⟩
    have tail : ∀ w4, Mod NoB w3 w4 → f.contains (absorbOf kind) = false →
        CallsF Tryz.prog 58 #[.pointer (some s), .slice pf f.length cf] w4 fun e w => ∃ b : Bool, e = Ending.returned (.bool b) ∧ Br b (J2 [.bool true] w)
          (CallsF Tryz.prog 59 #[.pointer (some s), .int .i64 kind, .slice pf f.length cf] w fun e w => ∃ b : Bool, e = Ending.returned (.bool b) ∧ J2 [.bool b] w) := by
      intro w4 hm4 hc0
      have hm04 := hm03.then hm4
      refine (complementary_ok (h.same hm04).m h.wf (by omega) (hof.keep hm4 fun _ _ => NoB.not) hasc hflt).mono ?_
      rintro e w5 ⟨rfl, hm5⟩
      have hm35 := hm4.then hm5
      refine ⟨_, rfl, Br_intro (fun hcp => ?_) fun hcp => ?_⟩
      · exact fin true w5 hm35 (by rw [hc0, hcp]; rfl)
      · refine (exclusive_ok (h.same (hm03.then hm35)).m h.wf (by omega) hk (hof.keep hm35 fun _ _ => NoB.not) (by omega) hflt).mono ?_
        rintro e w6 ⟨rfl, hm6⟩
        exact ⟨_, rfl, fin _ w6 (hm35.then hm6) (by rw [hc0, hcp]; rfl)⟩
    refine Br_dec (fun hpos => ?_) fun hpos => ?_
    · obtain ⟨a, r, rfl⟩ : ∃ a r, f = a :: r := by
        cases f with
        | nil => simp at hpos
        | cons a r => exact ⟨a, r, rfl⟩
      obtain ⟨ap, hpa, hcp⟩ := hof.at (i := 0) (x := a) rfl
      rw [hpa]
      have hh := hhead a r rfl
      refine ⟨⟨by omega, by omega⟩, _, hcp, ?_⟩
      rw [← hpa]
      refine Br_eq (fun he => ?_) fun he => ?_
      · have : a = absorbOf kind := by omega
        exact fin true w3 (Mod.refl _ _) (by rw [hh, decide_eq_true this]; rfl)
      · exact tail w3 (Mod.refl _ _) (by rw [hh]; exact decide_eq_false (by omega))
    · have : f = [] := List.eq_nil_of_length_eq_zero (by omega)
      subst this
      exact tail w3 (Mod.refl _ _) rfl
  rcases hk with rfl | rfl
  · exact Br_false rfl (main _ rfl)
  · exact Br_true rfl (main _ rfl)

theorem and_ok (h : StI w s L d) (hL : L.length < 30000) (hr : Row w p (ints (natI l))) (hv : ∀ a ∈ l, a < L.length) (hl : l.length ≤ 1000000) :
    CallsF Tryz.prog 15 #[.pointer (some s), .slice p l.length c] w fun e w' => e = .returned (.int .i64 (comb L 4 l).2) ∧ StPost w s d (comb L 4 l).1 w' := by
  refine C_formula_Store_And _ _ _ _ _ _ ?_
  refine (combine_ok h hL (.inl rfl) hr hv hl).mono ?_
  rintro e w1 ⟨rfl, hp⟩
  exact ⟨_, rfl, rfl, hp⟩
theorem or_ok (h : StI w s L d) (hL : L.length < 30000) (hr : Row w p (ints (natI l))) (hv : ∀ a ∈ l, a < L.length) (hl : l.length ≤ 1000000) :
    CallsF Tryz.prog 18 #[.pointer (some s), .slice p l.length c] w fun e w' => e = .returned (.int .i64 (comb L 5 l).2) ∧ StPost w s d (comb L 5 l).1 w' := by
  refine C_formula_Store_Or _ _ _ _ _ _ ?_
  refine (combine_ok h hL (.inr rfl) hr hv hl).mono ?_
  rintro e w1 ⟨rfl, hp⟩
  exact ⟨_, rfl, rfl, hp⟩

end Go.Proofs.YtajfdcbknghipaaGreatDoor
end

section
/- Pick and Not. Conditions on memory as stated. -/
namespace Go.Proofs.YtajfdcbknghipaaGreatDoor
open Go Go.Sh Go.Fm

variable {w : World} {s : Addr} {L : List Nd} {d : SD}

theorem pick_ok (h : StI w s L d) (hL : L.length < 30000) {b a : Int} (hv : 0 ≤ b ∧ b < 4096 ∧ -1 ≤ a ∧ a < 16) :
    CallsF Tryz.prog 14 #[.pointer (some s), .int .i64 b, .int .i64 a] w fun e w' => e = .returned (.int .i64 (mk L ⟨2, b, a, []⟩).2) ∧ StPost w s d (mk L ⟨2, b, a, []⟩).1 w' := by
  refine C_formula_Store_Pick _ _ _ _ _ ?_
  refine (validPick_ok b a w).mono ?_
  rintro e w1 ⟨rfl, hm1⟩
  refine ⟨_, rfl, Br_not (Br_true (by unfold validP; rw [decide_eq_true_iff]; exact hv) ?_)⟩
  refine (intern_ok (n := ⟨2, b, a, []⟩) (p := none) (c := 0) (h.same hm1) hL (ndOK_pick hv) (by show (2 : Int) ≤ 2; omega) (.inl rfl) (fun b hb => by obtain ⟨x, hx, _⟩ := hb; cases hx)).mono ?_
  rintro e w2 ⟨rfl, hp⟩
  exact ⟨_, rfl, rfl, hp.pre hm1⟩

theorem not_ok (h : StI w s L d) (hL : L.length < 30000) {a : Nat} (ha : a < L.length) :
    CallsF Tryz.prog 16 #[.pointer (some s), .int .i64 a] w fun e w' => e = .returned (.int .i64 (nt L a).2) ∧ StPost w s d (nt L a).1 w' := by
  have hins := insLen_small h.wf.ok (Nat.le_of_lt hL)
  refine C_formula_Store_Not _ _ _ _ ?_
  refine (has_ok h.m _).mono ?_
  rintro e w1 ⟨rfl, hm1⟩
  refine ⟨_, rfl, Br_not (Br_true (by rw [decide_eq_true_iff]; omega) ?_)⟩
  have h1 := h.same hm1
  refine Br_dec (fun h2 => ?_) fun h2 => ?_
  · have e1 : IntKind.i64.wrap (1 - (a : Int)) = ((1 - a : Nat) : Int) := by rw [wrap_i64 (by omega) (by omega)]; omega
    have e2 : nt L a = (L, 1 - a) := by unfold nt; rw [if_pos (by omega)]
    rw [e1, e2]
    exact ⟨rfl, h.post hm1⟩
  have hn : L[a]? = some L[a] := List.getElem?_eq_getElem ha
  generalize L[a] = nd at hn
  have hok := h.wf.ok a nd hn
  obtain ⟨ad, hpe, hce⟩ := h1.m.entry_cell hn
  refine ⟨_, _, _, h1.m.c0, ?_⟩
  rw [hpe]
  refine ⟨⟨by omega, by omega⟩, nd.kind, by rw [Int.toNat_natCast]; exact hce 3 _ rfl, ?_⟩
  have e2 : nt L a = if nd.kind = 3 then (L, nd.ins.headD 0) else mk L ⟨3, 0, 0, [a]⟩ := by unfold nt; rw [if_neg (by omega), hn]
  rw [e2]
  refine Br_eq (fun h3 => ?_) fun h3 => ?_
  · rw [if_pos h3]
    obtain ⟨x, hxi⟩ : ∃ x, nd.ins = [x] := List.length_eq_one_iff.1 (hok.not1 h3)
    refine (inputsOf_ok h1.m (by omega) hn).mono ?_
    rintro e w2 ⟨pq, cq, rfl, hrow, hin, hm2⟩
    refine ⟨pq, _, cq, rfl, ?_⟩
    rw [hxi] at hrow ⊢
    obtain ⟨aq, hpq, hcq⟩ := hrow.at (i := 0) (v := .int .i32 x) rfl
    subst hpq
    have hxlt := hok.lt x (by rw [hxi]; exact List.mem_cons_self)
    refine ⟨⟨by omega, by show (0 : Int) < ((1 : Nat) : Int); omega⟩, _, hcq, ?_⟩
    rw [wrap_i64 (by omega) (by omega)]
    exact ⟨rfl, h.post (hm1.then hm2)⟩
  · rw [if_neg h3]
    intro w2 hw2
    have hrow : Row w2 (some ⟨w1.heap.size + 0, 0, none⟩) (ints (natI [a])) := Row.of_blk (hw2.blk 0 rfl)
    refine (intern_ok (n := ⟨3, 0, 0, [a]⟩) (c := 1) (h1.same hw2.mod) hL (ndOK_not (by omega) ha) (by show (2 : Int) ≤ 3; omega) hrow (fun b hb hd => by
      obtain ⟨x, hx, rfl⟩ := hb
      injection hx with hx
      subst hx
      have := h1.m.lt _ hd
      simp at this)).mono ?_
    rintro e w3 ⟨rfl, hp⟩
    exact ⟨_, rfl, rfl, hp.pre (hm1.then hw2.mod)⟩

end Go.Proofs.YtajfdcbknghipaaGreatDoor
end

section
/- NewStore; formulas in memory; validForm. Conditions on memory as stated. -/
namespace Go.Proofs.YtajfdcbknghipaaGreatDoor
open Go Go.Sh Go.Fm

variable {w : World} {s : Addr} {L : List Nd} {d : SD}

def L0 : List Nd := [⟨0, 0, 0, []⟩, ⟨1, 0, 0, []⟩]
theorem L0_ok : WF L0 := by
  refine ⟨rfl, rfl, ?_, by decide⟩
  intro i n hn
  have hi : i = 0 ∨ i = 1 := by
    have := (List.getElem?_eq_some_iff.1 hn).1
    simp [L0] at this; omega
  rcases hi with rfl | rfl
  · injection hn with hn; subst hn
    exact ⟨by decide, by decide, by decide, by decide, by decide, by decide, (fun x hx => nomatch hx), Nat.le_refl _, (fun h => by omega), (fun h => absurd h (by decide)), (fun x hx => nomatch hx), (fun _ => rfl), (fun _ => ⟨rfl, rfl⟩)⟩
  · injection hn with hn; subst hn
    exact ⟨by decide, by decide, by decide, by decide, by decide, by decide, (fun x hx => nomatch hx), by decide, (fun h => by omega), (fun h => absurd h (by decide)), (fun x hx => nomatch hx), (fun _ => rfl), (fun _ => ⟨rfl, rfl⟩)⟩

theorem newStore_ok (w : World) : CallsF Tryz.prog 13 #[] w fun e w' => ∃ s d, e = .returned (.pointer (some s)) ∧ StI w' s L0 d ∧ Mod NoB w w' ∧ ∀ b, d.fp b → w.heap.size ≤ b := by
  refine C_formula_NewStore _ _ ?_
  intro w1 hw1
  obtain ⟨w2, hmk, hb2, hm2, hs2⟩ := makeSlice_gen (w := w1) elem_i32 .i64 .i64 (l := 64) (n := 64) (Nat.le_refl _) (by omega) (by omega)
  refine ⟨w2, _, _, _, hmk, ?_⟩
  intro w3 hw3
  have hz : ((List.replicate 64 ()).flatMap fun _ => cellsL (.int .i32 0)) = (List.replicate 64 (0 : Int)).map fun x => .int .i32 x := by
    rw [List.map_replicate]; exact flatMap_one _ _
  rw [hz] at hb2
  have hs1 := hw1.size
  have hm13 : Mod NoB w1 w3 := hm2.then hw3.mod
  simp only [List.length_cons, List.length_nil] at hs1
  have hent : Own w3 70 5 (some ⟨w.heap.size + 0, 0, none⟩) 2 2 (ents 0 L0) := (Own.fresh hw1 0 5 2 rfl rfl (by decide)).keep hm13 fun _ _ => NoB.not
  refine ⟨⟨w2.heap.size + 0, 0, none⟩, ⟨w2.heap.size + 0, w1.heap.size, some ⟨w.heap.size + 0, 0, none⟩, none, 2, 0, List.replicate 64 0⟩, rfl, ⟨⟨rfl, ?_, hent, Own.none _ _ _, hb2.keep hw3.mod NoB.not, ?_, ?_, ?_, ?_, ?_, ?_⟩, L0_ok, Tab.zeros _ _ _ (by decide) (Nat.le_refl _), ⟨6, by simp⟩, .inl (by simp), by simp [L0]⟩, hw1.mod.then hm13, ?_⟩
  · exact hw3.blk 0 rfl
  · show w2.heap.size + 0 ≠ w1.heap.size; omega
  · rintro ⟨a, ha, hb⟩; injection ha with ha; subst ha; simp at hb; omega
  · rintro ⟨a, ha, hb⟩; injection ha with ha; subst ha; simp at hb; omega
  · rintro ⟨a, ha, hb⟩; cases ha
  · rintro ⟨a, ha, hb⟩; cases ha
  · rintro b _ ⟨a, ha, hb⟩; cases ha
  · rintro b (hb | hb | ⟨a, ha, hb⟩ | ⟨a, ha, hb⟩)
    · have : b = w2.heap.size + 0 := hb
      omega
    · have : b = w1.heap.size := hb
      omega
    · injection ha with ha; subst ha; subst hb; simp
    · cases ha

/-- A row whose block lies below B. -/
def RowL (B : Nat) (w : World) (p : Option Addr) (cs : List Value) : Prop := cs = [] ∨ ∃ a, p = some a ∧ a.block < B ∧ ∀ i v, cs[i]? = some v → w.cell? (a.add i) = some v
theorem RowL.row {B : Nat} {p : Option Addr} {cs : List Value} (h : RowL B w p cs) : Row w p cs := by
  rcases h with h | ⟨a, h1, _, h2⟩
  · exact .inl h
  · exact .inr ⟨a, h1, h2⟩
theorem RowL.keep {B : Nat} {p : Option Addr} {cs : List Value} {fp : Nat → Prop} {w' : World} (h : RowL B w p cs) (hm : Mod fp w w') (hf : ∀ b, fp b → B ≤ b) : RowL B w' p cs := by
  rcases h with h | ⟨a, rfl, hb, h2⟩
  · exact .inl h
  · rcases (Row.keep (p := some a) (.inr ⟨a, rfl, h2⟩) hm fun a' ha' hfa => by injection ha' with ha'; subst ha'; have := hf _ hfa; omega) with h | ⟨a', ha', h3⟩
    · exact .inl h
    · injection ha' with ha'; subst ha'; exact .inr ⟨a, rfl, hb, h3⟩

/-- A node of a formula, with where its inputs lie. -/
structure FNode where
  kind : Int
  block : Int
  alt : Int
  ins : List Int
  p : Option Addr
  c : Nat
def FNode.cells (x : FNode) : List Value := [.int .i64 x.kind, .int .i64 x.block, .int .i64 x.alt, .slice x.p x.ins.length x.c]
structure FormM (B : Nat) (w : World) (p : Option Addr) (f : List FNode) : Prop where
  nodes : RowL B w p (f.flatMap FNode.cells)
  ins : ∀ x ∈ f, RowL B w x.p (ints x.ins)
theorem FormM.keep {B : Nat} {p : Option Addr} {f : List FNode} {fp : Nat → Prop} {w' : World} (h : FormM B w p f) (hm : Mod fp w w') (hf : ∀ b, fp b → B ≤ b) : FormM B w' p f :=
  ⟨h.nodes.keep hm hf, fun x hx => (h.ins x hx).keep hm hf⟩
theorem FormM.same {B : Nat} {p : Option Addr} {f : List FNode} {w' : World} (h : FormM B w p f) (hm : Mod NoB w w') : FormM B w' p f := h.keep hm fun _ hb => hb.elim
theorem fcells_get : ∀ {f : List FNode} {i : Nat} {x : FNode}, f[i]? = some x → ∀ j, j < 4 → (f.flatMap FNode.cells)[i * 4 + j]? = x.cells[j]?
  | [], _, _, h, _, _ => by cases h
  | y :: f, 0, x, h, j, hj => by
    simp only [List.getElem?_cons_zero, Option.some.injEq] at h
    subst h
    rw [List.flatMap_cons, Nat.zero_mul, Nat.zero_add, List.getElem?_append_left (by simpa [FNode.cells] using hj)]
  | y :: f, i + 1, x, h, j, hj => by
    rw [List.flatMap_cons, List.getElem?_append_right (by simp [FNode.cells]; omega)]
    have := fcells_get (f := f) (i := i) (x := x) (by simpa using h) j hj
    rw [← this]; congr 1; simp [FNode.cells]; omega
theorem FormM.node {B : Nat} {p : Option Addr} {f : List FNode} (h : FormM B w p f) {i : Nat} {x : FNode} (hi : f[i]? = some x) : ∃ a, p = some a ∧ CellsAre w (a.add (i * 4)) 0 x.cells := by
  have h0 := fcells_get hi 0 (by omega)
  obtain ⟨a, ha, _⟩ := h.nodes.row.at (i := i * 4 + 0) (v := .int .i64 x.kind) (by rw [h0]; rfl)
  refine ⟨a, ha, ?_⟩
  have hr := h.nodes.row
  rw [ha] at hr
  refine hr.cells _ _ _ fun j v hj => ?_
  have hj4 : j < 4 := by have := (List.getElem?_eq_some_iff.1 hj).1; simpa [FNode.cells] using this
  rw [Nat.add_zero, fcells_get hi j hj4]
  exact hj

/-- The fields of a node are well formed. -/
def vform (k b a : Int) (n : Nat) : Bool :=
  if k = 0 ∨ k = 1 then decide (b = 0 ∧ a = 0 ∧ n = 0) else if k = 2 then validP b a && decide (n = 0) else if k = 3 then decide (b = 0 ∧ a = 0 ∧ n = 1) else if k = 4 ∨ k = 5 then decide (b = 0 ∧ a = 0) else false

theorem validForm_ok (k b a : Int) (p : Option Addr) (n c : Nat) (w : World) : CallsF Tryz.prog 62 #[.agg #[.int .i64 k, .int .i64 b, .int .i64 a, .slice p n c]] w (Ret (.bool (vform k b a n)) NoB w) := by
  refine C_formula_validForm _ _ _ _ _ _ _ _ ?_
  intro w1 hw1
  have hb := hw1.blk 0 rfl
  have hc : ∀ {w2 : World}, Mod NoB w1 w2 → ∀ j, w2.cell? ((⟨w.heap.size + 0, 0, none⟩ : Addr).add j) = ([Value.int .i64 k, .int .i64 b, .int .i64 a, .slice p n c] : List Value)[j]? := by
    intro w2 hm j; rw [own_add, (hb.keep hm NoB.not).cell, Nat.zero_add]
  have h1 := hw1.mod
  have r1 := Mod.refl NoB w1
  intro J hJ
  have main : ∀ bb : Bool, bb = decide (k = 0 ∨ k = 1) → J [.bool bb] w1 := by
    intro bb hbb
    refine hJ _ _ (Br_intro (fun ht => ?_) fun hf => ?_)
    · have hk : k = 0 ∨ k = 1 := by rw [hbb] at ht; exact of_decide_eq_true ht
      have hv : vform k b a n = decide (b = 0 ∧ a = 0 ∧ n = 0) := by unfold vform; rw [if_pos hk]
      intro J2 hJ2
      refine ⟨b, hc r1 1, Br_eq (fun hb0 => ⟨a, hc r1 2, Br_eq (fun ha0 => ⟨p, n, c, hc r1 3, hJ2 _ _ ⟨ret_bool ?_, h1⟩⟩) fun ha0 => hJ2 _ _ ⟨ret_bool ?_, h1⟩⟩) fun hb0 => hJ2 _ _ ⟨ret_bool ?_, h1⟩⟩
      · rw [hv, Bool.eq_iff_iff]; simp [hb0, ha0]
      · rw [hv]; simp [ha0]
      · rw [hv]; simp [hb0]
    have hk : ¬ (k = 0 ∨ k = 1) := by rw [hbb] at hf; exact of_decide_eq_false hf
    refine Br_eq (fun h2 => ?_) fun h2 => ?_
    · have hv : vform k b a n = (validP b a && decide (n = 0)) := by unfold vform; rw [if_neg hk, if_pos h2]
      intro J2 hJ2
      refine ⟨b, hc r1 1, a, hc r1 2, (validPick_ok b a w1).mono ?_⟩
      rintro e w2 ⟨rfl, hm2⟩
      refine ⟨_, rfl, Br_intro (fun hp => ⟨p, n, c, hc hm2 3, hJ2 _ _ ⟨ret_bool ?_, h1.then hm2⟩⟩) fun hp => hJ2 _ _ ⟨ret_bool ?_, h1.then hm2⟩⟩
      · rw [hv, hp, Bool.eq_iff_iff]; simp
      · rw [hv, hp]; rfl
    refine Br_eq (fun h3 => ?_) fun h3 => ?_
    · have hv : vform k b a n = decide (b = 0 ∧ a = 0 ∧ n = 1) := by unfold vform; rw [if_neg hk, if_neg h2, if_pos h3]
      intro J2 hJ2
      refine ⟨b, hc r1 1, Br_eq (fun hb0 => ⟨a, hc r1 2, Br_eq (fun ha0 => ⟨p, n, c, hc r1 3, hJ2 _ _ ⟨ret_bool ?_, h1⟩⟩) fun ha0 => hJ2 _ _ ⟨ret_bool ?_, h1⟩⟩) fun hb0 => hJ2 _ _ ⟨ret_bool ?_, h1⟩⟩
      · rw [hv, Bool.eq_iff_iff]; simp [hb0, ha0]; omega
      · rw [hv]; simp [ha0]
      · rw [hv]; simp [hb0]
    intro J3 hJ3
    have main2 : ∀ bb : Bool, bb = decide (k = 4 ∨ k = 5) → J3 [.bool bb] w1 := by
      intro bb hbb
      refine hJ3 _ _ (Br_intro (fun ht => ?_) fun hf => ?_)
      · have hk4 : k = 4 ∨ k = 5 := by rw [hbb] at ht; exact of_decide_eq_true ht
        have hv : vform k b a n = decide (b = 0 ∧ a = 0) := by unfold vform; rw [if_neg hk, if_neg h2, if_neg h3, if_pos hk4]
        intro J2 hJ2
        refine ⟨b, hc r1 1, Br_eq (fun hb0 => ⟨a, hc r1 2, hJ2 _ _ ⟨ret_bool ?_, h1⟩⟩) fun hb0 => hJ2 _ _ ⟨ret_bool ?_, h1⟩⟩
        · rw [hv, Bool.eq_iff_iff]; simp [hb0]
        · rw [hv]; simp [hb0]
      · have hk4 : ¬ (k = 4 ∨ k = 5) := by rw [hbb] at hf; exact of_decide_eq_false hf
        exact ⟨ret_bool (by unfold vform; rw [if_neg hk, if_neg h2, if_neg h3, if_neg hk4]), h1⟩
    refine Br_eq (fun h4 => main2 _ ?_) fun h4 => main2 _ ?_
    · rw [Bool.eq_iff_iff]; simp [h4]
    · rw [Bool.eq_iff_iff]; simp [h4]
  refine Br_eq (fun h0 => main _ ?_) fun h0 => main _ ?_
  · rw [Bool.eq_iff_iff]; simp [h0]
  · rw [Bool.eq_iff_iff]; simp [h0]

end Go.Proofs.YtajfdcbknghipaaGreatDoor
end
