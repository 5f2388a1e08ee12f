/- The law TransformCondition of the package credencelaw23 answers true at every input and leaves its arguments as they were (Rows.TransformConditionCardSaid); no condition beyond the card's own: the three listed tables stand as the program's text lays them. Part 8 of 25. -/
import Derived.Sort.OwnSortedInts
import Derived.Sort.LotA
import Derived.Sort.LotB
import Derived.Sort.LotC
import Derived.Sort.LotD3
import Derived.Test.YtajfdcbknghipaaGreatDoorW04
import Derived.Test.YtajfdcbknghipaaGreatDoorW07

section
/- Rows of numbers that are sorted in place: reads, exchanges, comparisons. No condition. -/
namespace Go.Sh
open Go Go.Sort

/-- The block b holds the numbers d, then the rest. -/
def RowA (k : IntKind) (w : World) (b : Nat) (d : Array Int) (rest : List Value) (t : TypeId) : Prop := Blk w b (d.toList.map (Value.int k) ++ rest) t

variable {k : IntKind} {w : World} {b : Nat} {d : Array Int} {rest : List Value} {t : TypeId}

theorem RowA.same (h : RowA k w b d rest t) {w' : World} (hm : Mod NoB w w') : RowA k w' b d rest t := Blk.keep h hm id
theorem RowA.rd (h : RowA k w b d rest t) {i : Nat} (hi : i < d.size) : w.cell? ((⟨b, 0, none⟩ : Addr).add (i * 1)) = some (.int k d[i]!) := by
  rw [own_add, Blk.cell h, Nat.zero_add, Nat.mul_one, List.getElem?_append_left (by simpa using hi), List.getElem?_map]
  simp [hi]
theorem RowA.set (h : RowA k w b d rest t) {w' : World} {i : Nat} {x : Int} (hi : i < d.size) (hs : SetC w ((⟨b, 0, none⟩ : Addr).add (i * 1)) [.int k x] w') : RowA k w' b (d.setIfInBounds i x) rest t ∧ Mod (· = b) w w' := by
  rw [own_add] at hs
  refine ⟨?_, hs.mod⟩
  have := hs.blk h
  unfold RowA
  have e : setAt (d.toList.map (Value.int k) ++ rest) (0 + i * 1) [.int k x] = (d.setIfInBounds i x).toList.map (Value.int k) ++ rest := by
    simp only [setAt, Nat.zero_add, Nat.mul_one]
    rw [List.set_append_left _ _ (by simpa using hi), Array.toList_setIfInBounds, List.map_set]
  rw [e] at this
  exact this
theorem RowA.can (h : RowA k w b d rest t) {i : Nat} {x : Int} (hi : i < d.size) : CanStore w ((⟨b, 0, none⟩ : Addr).add (i * 1)) 0 [.int k x] := by
  rw [own_add]
  refine canStore_blk h _ 0 rfl ?_
  simp only [List.length_append, List.length_map, Array.length_toList, List.length_cons, List.length_nil]
  omega

/-- An exchange, as the code makes it. -/
theorem swap_step (h : RowA k w b d rest t) {I J : Int} {i j n : Nat} (hI : I = i) (hJ : J = j) (hi : i < d.size) (hj : j < d.size) (hn : d.size ≤ n) {K : World → Prop}
    (hK : ∀ w2, RowA k w2 b (swp d i j) rest t → Mod (· = b) w w2 → K w2) :
    optP (some (⟨b, 0, none⟩ : Addr)) fun (a : Addr) => ((0 : Int) ≤ J ∧ J < (n : Int)) ∧ ∃ (x : Int), w.drew.cell? (a.add (J.toNat * 1)) = some (Value.int k x) ∧
      optP (some (⟨b, 0, none⟩ : Addr)) fun (a : Addr) => ((0 : Int) ≤ I ∧ I < (n : Int)) ∧ ∃ (y : Int), w.drew.cell? (a.add (I.toNat * 1)) = some (Value.int k y) ∧
      optP (some (⟨b, 0, none⟩ : Addr)) fun (a : Addr) => ((0 : Int) ≤ I ∧ I < (n : Int)) ∧ CanStore w.drew (a.add (I.toNat * 1)) 0 [Value.int k x] ∧ ∀ w1, SetC w.drew (a.add (I.toNat * 1)) [Value.int k x] w1 →
      optP (some (⟨b, 0, none⟩ : Addr)) fun (a : Addr) => ((0 : Int) ≤ J ∧ J < (n : Int)) ∧ CanStore w1 (a.add (J.toNat * 1)) 0 [Value.int k y] ∧ ∀ w2, SetC w1 (a.add (J.toNat * 1)) [Value.int k y] w2 → K w2 := by
  subst hI; subst hJ
  have hd := h.same (drew_mod w)
  refine ⟨⟨by omega, by omega⟩, _, by rw [Int.toNat_natCast]; exact hd.rd hj, ⟨by omega, by omega⟩, _, by rw [Int.toNat_natCast]; exact hd.rd hi, ⟨by omega, by omega⟩, by rw [Int.toNat_natCast]; exact hd.can hi, fun w1 hw1 => ?_⟩
  rw [Int.toNat_natCast] at hw1
  obtain ⟨h1, hm1⟩ := hd.set hi hw1
  refine ⟨⟨by omega, by omega⟩, by rw [Int.toNat_natCast]; exact h1.can (by simpa using hj), fun w2 hw2 => ?_⟩
  rw [Int.toNat_natCast] at hw2
  obtain ⟨h2, hm2⟩ := h1.set (by simpa using hj) hw2
  exact hK w2 h2 (((drew_mod w).to.then hm1).then hm2)

/-- A comparison, as the code makes it. -/
theorem less_step {P : Program} {lf : FuncId} (hless : ∀ x y w, CallsF P lf #[.int k x, .int k y] w (Ret (.bool (ltInt x y)) NoB w)) (h : RowA k w b d rest t) {I J : Int} {i j n : Nat} (hI : I = i) (hJ : J = j) (hi : i < d.size) (hj : j < d.size) (hn : d.size ≤ n)
    {K : Bool → World → Prop} (hK : ∀ w2, RowA k w2 b d rest t → Mod NoB w w2 → K (ltInt d[i]! d[j]!) w2) :
    optP (some (⟨b, 0, none⟩ : Addr)) fun (a : Addr) => ((0 : Int) ≤ I ∧ I < (n : Int)) ∧ ∃ (x : Int), w.drew.cell? (a.add (I.toNat * 1)) = some (Value.int k x) ∧
      optP (some (⟨b, 0, none⟩ : Addr)) fun (a : Addr) => ((0 : Int) ≤ J ∧ J < (n : Int)) ∧ ∃ (y : Int), w.drew.cell? (a.add (J.toNat * 1)) = some (Value.int k y) ∧
      CallsF P lf #[.int k x, .int k y] w.drew fun e w => ∃ (b : Bool), e = Ending.returned (Value.bool b) ∧ K b w := by
  subst hI; subst hJ
  have hd := h.same (drew_mod w)
  refine ⟨⟨by omega, by omega⟩, _, by rw [Int.toNat_natCast]; exact hd.rd hi, ⟨by omega, by omega⟩, _, by rw [Int.toNat_natCast]; exact hd.rd hj, (hless _ _ _).mono ?_⟩
  rintro e w' ⟨rfl, hm⟩
  exact ⟨_, rfl, hK w' (hd.same hm) ((drew_mod w).then hm)⟩

/-! The two scans of a partition, as the code makes them. -/
theorem scan_up (h : RowA k w b d rest t) {p : Int → Bool} {i j : Nat} {I0 J0 : Int} (hI : I0 = (i : Nat)) (hJ : J0 = (j : Nat)) (hij : i ≤ j + 1) (hbig : j < 1152921504606846976)
    {COND : Int → World → (List Value → World → Prop) → Prop} {EXIT : Int → World → Prop}
    (hcond : ∀ (x : Nat) (w' : World) (J : List Value → World → Prop), i ≤ x → x ≤ j → RowA k w' b d rest t → (∀ w'', RowA k w'' b d rest t → Mod NoB w' w'' → J [.bool (p d[x]!)] w'') → COND (x : Nat) w' J)
    (hexit : ∀ w', RowA k w' b d rest t → Mod NoB w w' → EXIT ((scanUp p d j i : Nat) : Int) w') :
    ∃ (I : Nat → List Value → World → Prop), (∃ (n : Nat), I n [Value.int .i64 I0] w) ∧ ∀ (n : Nat) (x : Int) (w1 : World), I n [Value.int .i64 x] w1 →
      ∀ (J : List Value → World → Prop), (∀ (b : Bool) (w2 : World), Br b (∃ (n' : Nat), n' < n ∧ I n' [Value.int .i64 (IntKind.i64.wrap (x + 1))] w2) (EXIT x w2) → J [Value.bool b] w2) →
        Br (decide (x ≤ J0)) (COND x w1 J) (J [Value.bool false] w1.drew) := by
  subst hI; subst hJ
  refine ⟨fun m vs w' => ∃ x : Nat, m = j + 1 - x ∧ i ≤ x ∧ x ≤ j + 1 ∧ vs = [.int .i64 x] ∧ scanUp p d j x = scanUp p d j i ∧ RowA k w' b d rest t ∧ Mod NoB w w', ⟨_, i, rfl, Nat.le_refl _, hij, rfl, rfl, h, Mod.refl _ _⟩, ?_⟩
  rintro n x w1 ⟨x', rfl, hix, hxj, hvs, heq, h1, hm1⟩ J hJ
  simp only [List.cons.injEq, Value.int.injEq, true_and, and_true] at hvs
  subst hvs
  refine Br_dec (fun hle => ?_) fun hgt => ?_
  · refine hcond x' w1 J hix (by omega) h1 fun w2 h2 hm2 => hJ _ _ (Br_intro (fun hp => ?_) fun hp => ?_)
    · refine ⟨j + 1 - (x' + 1), by omega, x' + 1, rfl, by omega, by omega, by rw [wrap_i64 (by omega) (by omega)]; rfl, ?_, h2, hm1.then hm2⟩
      rw [← heq, scanUp.eq_1 p d j x', if_pos (by rw [hp, Bool.and_true, decide_eq_true_iff]; omega)]
    · have hs : scanUp p d j x' = x' := by rw [scanUp, if_neg (by rw [hp, Bool.and_false]; exact Bool.false_ne_true)]
      rw [hs] at heq
      rw [heq]
      exact hexit _ h2 (hm1.then hm2)
  · refine hJ _ _ (Br_false rfl ?_)
    have hs : scanUp p d j x' = x' := by rw [scanUp, if_neg (by rw [decide_eq_false (by omega), Bool.false_and]; exact Bool.false_ne_true)]
    rw [hs] at heq
    rw [heq]
    exact hexit _ (h1.same (drew_mod _)) (hm1.then (drew_mod _))
theorem scan_down (h : RowA k w b d rest t) {p : Int → Bool} {i j : Nat} {I0 J0 : Int} (hI : I0 = (i : Nat)) (hJ : J0 = (j : Nat)) (hi : 0 < i) (hij : i ≤ j + 1) (hbig : j < 1152921504606846976)
    {COND : Int → World → (List Value → World → Prop) → Prop} {EXIT : Int → World → Prop}
    (hcond : ∀ (x : Nat) (w' : World) (J : List Value → World → Prop), i ≤ x → x ≤ j → RowA k w' b d rest t → (∀ w'', RowA k w'' b d rest t → Mod NoB w' w'' → J [.bool (p d[x]!)] w'') → COND (x : Nat) w' J)
    (hexit : ∀ w', RowA k w' b d rest t → Mod NoB w w' → EXIT ((scanDown p d i j : Nat) : Int) w') :
    ∃ (I : Nat → List Value → World → Prop), (∃ (n : Nat), I n [Value.int .i64 J0] w) ∧ ∀ (n : Nat) (x : Int) (w1 : World), I n [Value.int .i64 x] w1 →
      ∀ (J : List Value → World → Prop), (∀ (b : Bool) (w2 : World), Br b (∃ (n' : Nat), n' < n ∧ I n' [Value.int .i64 (IntKind.i64.wrap (x - 1))] w2) (EXIT x w2) → J [Value.bool b] w2) →
        Br (decide (I0 ≤ x)) (COND x w1 J) (J [Value.bool false] w1.drew) := by
  subst hI; subst hJ
  refine ⟨fun m vs w' => ∃ x : Nat, m = x ∧ i ≤ x + 1 ∧ x ≤ j ∧ vs = [.int .i64 x] ∧ scanDown p d i x = scanDown p d i j ∧ RowA k w' b d rest t ∧ Mod NoB w w', ⟨_, j, rfl, hij, Nat.le_refl _, rfl, rfl, h, Mod.refl _ _⟩, ?_⟩
  rintro n x w1 ⟨x', rfl, hix, hxj, hvs, heq, h1, hm1⟩ J hJ
  simp only [List.cons.injEq, Value.int.injEq, true_and, and_true] at hvs
  subst hvs
  refine Br_dec (fun hle => ?_) fun hgt => ?_
  · obtain ⟨y, rfl⟩ : ∃ y, n = y + 1 := ⟨n - 1, by omega⟩
    refine hcond (y + 1) w1 J (by omega) (by omega) h1 fun w2 h2 hm2 => hJ _ _ (Br_intro (fun hp => ?_) fun hp => ?_)
    · refine ⟨y, by omega, y, rfl, by omega, by omega, by rw [wrap_i64 (by omega) (by omega)]; congr 2; omega, ?_, h2, hm1.then hm2⟩
      rw [← heq, scanDown.eq_2, if_pos (by rw [hp, Bool.and_true, decide_eq_true_iff]; omega)]
    · have hs : scanDown p d i (y + 1) = y + 1 := by rw [scanDown, if_neg (by rw [hp, Bool.and_false]; exact Bool.false_ne_true)]
      rw [hs] at heq
      rw [heq]
      exact hexit _ h2 (hm1.then hm2)
  · refine hJ _ _ (Br_false rfl ?_)
    have hs : scanDown p d i n = n := by
      cases n with
      | zero => rfl
      | succ y => rw [scanDown, if_neg (by rw [decide_eq_false (by omega), Bool.false_and]; exact Bool.false_ne_true)]
    rw [hs] at heq
    rw [heq]
    exact hexit _ (h1.same (drew_mod _)) (hm1.then (drew_mod _))

theorem scan_sorted (h : RowA k w b d rest t) {i e' : Nat} {I0 : Int} (hI : I0 = (i : Nat)) (hij : i ≤ e') (hbig : e' < 1152921504606846976)
    {COND : Int → World → (List Value → World → Prop) → Prop} {EXIT : Int → World → Prop}
    (hcond : ∀ (x : Nat) (w' : World) (J : List Value → World → Prop), i ≤ x → x < e' → RowA k w' b d rest t → (∀ w'', RowA k w'' b d rest t → Mod NoB w' w'' → J [.bool (!ltInt d[x]! d[x - 1]!)] w'') → COND (x : Nat) w' J)
    (hexit : ∀ w', i ≤ scanSorted ltInt d e' i → scanSorted ltInt d e' i ≤ e' → RowA k w' b d rest t → Mod NoB w w' → EXIT ((scanSorted ltInt d e' i : Nat) : Int) w') :
    ∃ (I : Nat → List Value → World → Prop), (∃ (n : Nat), I n [Value.int .i64 I0] w) ∧ ∀ (n : Nat) (x : Int) (w1 : World), I n [Value.int .i64 x] w1 →
      ∀ (J : List Value → World → Prop), (∀ (b : Bool) (w2 : World), Br b (∃ (n' : Nat), n' < n ∧ I n' [Value.int .i64 (IntKind.i64.wrap (x + 1))] w2) (EXIT x w2) → J [Value.bool b] w2) →
        Br (decide (x < (e' : Int))) (COND x w1 J) (J [Value.bool false] w1.drew) := by
  subst hI
  refine ⟨fun m vs w' => ∃ x : Nat, m = e' - x ∧ i ≤ x ∧ x ≤ e' ∧ vs = [.int .i64 x] ∧ scanSorted ltInt d e' x = scanSorted ltInt d e' i ∧ RowA k w' b d rest t ∧ Mod NoB w w', ⟨_, i, rfl, Nat.le_refl _, hij, rfl, rfl, h, Mod.refl _ _⟩, ?_⟩
  rintro n x w1 ⟨x', rfl, hix, hxj, hvs, heq, h1, hm1⟩ J hJ
  simp only [List.cons.injEq, Value.int.injEq, true_and, and_true] at hvs
  subst hvs
  refine Br_dec (fun hle => ?_) fun hgt => ?_
  · refine hcond x' w1 J hix (by omega) h1 fun w2 h2 hm2 => hJ _ _ (Br_intro (fun hp => ?_) fun hp => ?_)
    · refine ⟨e' - (x' + 1), by omega, x' + 1, rfl, by omega, by omega, by rw [wrap_i64 (by omega) (by omega)]; rfl, ?_, h2, hm1.then hm2⟩
      rw [← heq, scanSorted.eq_1 ltInt d e' x', if_pos (by rw [hp, Bool.and_true, decide_eq_true_iff]; omega)]
    · have hs : scanSorted ltInt d e' x' = x' := by rw [scanSorted, if_neg (by rw [hp, Bool.and_false]; exact Bool.false_ne_true)]
      rw [hs] at heq
      rw [heq]
      exact hexit _ (by omega) (by omega) h2 (hm1.then hm2)
  · refine hJ _ _ (Br_false rfl ?_)
    have hs : scanSorted ltInt d e' x' = x' := by rw [scanSorted, if_neg (by rw [decide_eq_false (by omega), Bool.false_and]; exact Bool.false_ne_true)]
    rw [hs] at heq
    rw [heq]
    exact hexit _ (by omega) (by omega) (h1.same (drew_mod _)) (hm1.then (drew_mod _))

/-! A sorted slice. -/
theorem Own.holds {w : World} {e : TypeId} {g n c : Nat} {l : List Int} (h : Own w e 1 (some ⟨g, 0, Option.none⟩) n c (l.map (Value.int .i64))) : Holds (Value.int .i64) w g 0 l.toArray ∧ g < w.heap.size ∧ n = l.length := by
  rcases h.form with ⟨h1, _⟩ | ⟨g', rest, h1, hb, h2, h3, h4⟩
  · cases h1
  · injection h1 with h1
    injection h1 with h1
    subst h1
    refine ⟨holds_of_blockI (cur := (l.map (Value.int .i64) ++ rest).toArray) hb (by simp), hb.lt, ?_⟩
    have := h.len
    simp at this; exact this.symm
theorem Own.sorted {w w' : World} {e : TypeId} {g n c : Nat} {l ts : List Int} {q : Nat} {os : Array Obj} (h : Own w e 1 (some ⟨g, 0, Option.none⟩) n c (l.map (Value.int .i64))) (hl : ts.length = l.length)
    (hw : w' = grow (putRow (Value.int .i64) (Sort.ahead w q) g 0 ts.toArray) os) : Own w' e 1 (some ⟨g, 0, Option.none⟩) n c (ts.map (Value.int .i64)) ∧ Mod (At (some ⟨g, 0, Option.none⟩)) w w' := by
  subst hw
  obtain ⟨_, hlt, hn⟩ := h.holds
  rcases h.form with ⟨h1, _⟩ | ⟨g', rest, h1, hb, h2, h3, h4⟩
  · cases h1
  · injection h1 with h1
    injection h1 with h1
    subst h1
    subst hn
    refine ⟨ownsRow_sortedI (cur := (l.map (Value.int .i64) ++ rest).toArray) hl (Nat.zero_le _) hb h2 h3 (by simpa using h4), ?_⟩
    exact grown_mod (p := some ⟨g, 0, Option.none⟩) (n := 0) (c := 0) (grownBy_sortedI ts.toArray)
theorem Own.shrink {w : World} {e : TypeId} {p : Option Addr} {n c : Nat} {xs ys : List Value} (h : Own w e 1 p n c (xs ++ ys)) : Own w e 1 p xs.length c xs := by
  have hl := h.len
  simp only [List.length_append, Nat.mul_one] at hl
  rcases h.form with ⟨rfl, rfl, rfl, h0⟩ | ⟨g, rest, rfl, hb, h2, h3, h4⟩
  · have := List.append_eq_nil_iff.1 h0
    rw [this.1]; exact Own.none _ _ _
  · rw [List.append_assoc] at hb h4
    exact Own.of_blk hb (by omega) h3 h4 (by simp)

end Go.Sh
end

section
/- Sorting in place, part one: comparisons, insertion sort, heap sort, reversing. Conditions as stated. -/
namespace Go.Proofs.YtajfdcbknghipaaGreatDoor
open Go Go.Sh Go.Sort

def Doneint16 (b : Nat) (d : Array Int) (rest : List Value) (t : TypeId) (w : World) (e : Ending) (w' : World) : Prop := e = .returned (.tuple #[]) ∧ RowA .i16 w' b d rest t ∧ Mod (· = b) w w'

theorem isNaNint16_ok (x : Int) (w : World) : CallsF Tryz.prog 125 #[.int .i16 x] w (Ret (.bool false) NoB w) := by
  refine C_cmp_isNaN_int16 _ _ _ ?_
  exact ⟨by simp, Mod.refl _ _⟩
theorem lessint16_ok (x y : Int) (w : World) : CallsF Tryz.prog 115 #[.int .i16 x, .int .i16 y] w (Ret (.bool (ltInt x y)) NoB w) := by
  refine C_cmp_Less_int16 _ _ _ _ ?_
  intro J hJ
  refine (isNaNint16_ok _ _).mono ?_
  rintro e w1 ⟨rfl, hm⟩
  refine ⟨_, rfl, Br_false rfl (hJ _ _ ⟨rfl, hm⟩)⟩

variable {w : World} {b n c : Nat} {d : Array Int} {rest : List Value} {t : TypeId}

theorem insint16_ok (h : RowA .i16 w b d rest t) (hs : d.size = n) (hn : n < 1152921504606846976) {a e' : Nat} (hae : a ≤ e') (hen : e' ≤ n) :
    CallsF Tryz.prog 109 #[.slice (some ⟨b, 0, none⟩) n c, .int .i64 a, .int .i64 e'] w (Doneint16 b (insertionSort ltInt d a e') rest t w) := by
  refine C_slices_insertionSortOrdered_int16 _ _ _ _ _ _ _ ?_
  refine ⟨fun m vs w' => ∃ (i : Nat) (d' : Array Int), a + 1 ≤ i ∧ m = e' + 1 - i ∧ vs = [.int .i64 i] ∧ RowA .i16 w' b d' rest t ∧ d'.size = n ∧ insOuter ltInt a e' i d' = insertionSort ltInt d a e' ∧ Mod (· = b) w w',
    ⟨_, a + 1, d, Nat.le_refl _, rfl, by rw [wrap_i64 (by omega) (by omega)]; rfl, h, hs, rfl, Mod.refl _ _⟩, ?_⟩
  rintro m ii w1 ⟨i, d1, hai, rfl, hvs, h1, hs1, heq1, hm1⟩
  simp only [List.cons.injEq, Value.int.injEq, true_and, and_true] at hvs
  subst hvs
  refine Br_dec (fun hlt => ?_) fun hge => ?_
  rotate_left
  · rw [insOuter, if_neg (by omega)] at heq1
    exact ⟨rfl, heq1 ▸ h1, hm1⟩
  have hlt' : i < e' := by omega
  refine ⟨fun m vs w' => ∃ (j : Nat) (d' : Array Int), m = j ∧ j ≤ i ∧ vs = [.int .i64 j] ∧ RowA .i16 w' b d' rest t ∧ d'.size = n ∧ insInner ltInt a j d' = insInner ltInt a i d1 ∧ Mod (· = b) w1 w',
    ⟨_, i, d1, rfl, Nat.le_refl _, rfl, h1, hs1, rfl, Mod.refl _ _⟩, ?_⟩
  rintro m jj w2 ⟨j, d2, rfl, hji, hvs, h2, hs2, heq2, hm2⟩
  simp only [List.cons.injEq, Value.int.injEq, true_and, and_true] at hvs
  subst hvs
  have hstop : ∀ w3, RowA .i16 w3 b d2 rest t → Mod (· = b) w2 w3 → insInner ltInt a m d2 = d2 → ∃ n', n' < e' + 1 - i ∧ (∃ (i' : Nat) (d' : Array Int), a + 1 ≤ i' ∧ n' = e' + 1 - i' ∧ [Value.int .i64 (IntKind.i64.wrap ((i : Int) + 1))] = [.int .i64 i'] ∧ RowA .i16 w3 b d' rest t ∧ d'.size = n ∧ insOuter ltInt a e' i' d' = insertionSort ltInt d a e' ∧ Mod (· = b) w w3) := by
    intro w3 h3 hm3 hst
    refine ⟨e' + 1 - (i + 1), by omega, i + 1, d2, by omega, rfl, by rw [wrap_i64 (by omega) (by omega)]; rfl, h3, hs2, ?_, (hm1.then hm2).then hm3⟩
    rw [← heq1, insOuter.eq_1 ltInt a e' i d1, if_pos hlt', ← heq2, hst]
  intro J hJ
  refine Br_dec (fun hgt => ?_) fun hle => ?_
  · obtain ⟨j', rfl⟩ : ∃ j', m = j' + 1 := ⟨m - 1, by omega⟩
    refine less_step lessint16_ok h2 (i := j' + 1) (j := j') rfl (by rw [wrap_i64 (by omega) (by omega)]; omega) (by omega) (by omega) (Nat.le_of_eq hs2) fun w3 h3 hm3 => hJ _ _ ?_
    refine Br_intro (fun hl => ?_) fun hl => ?_
    · refine swap_step h3 (i := j' + 1) (j := j') rfl (by rw [wrap_i64 (by omega) (by omega)]; omega) (by omega) (by omega) (Nat.le_of_eq hs2) fun w4 h4 hm4 => ?_
      refine ⟨j', by omega, j', _, rfl, by omega, by rw [wrap_i64 (by omega) (by omega)]; congr 2; omega, h4, by rw [size_swp]; exact hs2, ?_, (hm2.then hm3.to).then hm4⟩
      rw [← heq2, insInner.eq_2 ltInt a d2 j', if_pos (by rw [hl, Bool.and_true, decide_eq_true_iff]; omega)]
    · exact hstop w3 h3 hm3.to (by rw [insInner.eq_2 ltInt a d2 j', hl, Bool.and_false]; rfl)
  · refine hJ _ _ (Br_false rfl (hstop _ (h2.same (drew_mod _)) (drew_mod _).to ?_))
    cases m with
    | zero => rfl
    | succ j' => rw [insInner.eq_2 ltInt a d2 j', decide_eq_false (by omega), Bool.false_and]; rfl

def childint16 (hi first root : Nat) (d : Array Int) : Nat := if (decide (2 * root + 1 + 1 < hi) && ltInt d[first + (2 * root + 1)]! d[first + (2 * root + 1) + 1]!) then 2 * root + 2 else 2 * root + 1
theorem siftint16_eq (hi first root : Nat) (d : Array Int) (h1 : ¬ 2 * root + 1 ≥ hi) : siftDown ltInt hi first root d =
    if !ltInt d[first + root]! d[first + childint16 hi first root d]! then d else siftDown ltInt hi first (childint16 hi first root d) (swp d (first + root) (first + childint16 hi first root d)) := by
  rw [siftDown, dif_neg h1]
  unfold childint16
  by_cases hc : (decide (2 * root + 1 + 1 < hi) && ltInt d[first + (2 * root + 1)]! d[first + (2 * root + 1) + 1]!) = true
  · rw [if_pos hc, if_pos hc]
    simp only [Bool.and_eq_true, decide_eq_true_eq] at hc
    rw [dif_pos (by omega)]
  · rw [if_neg hc, if_neg hc]

theorem siftint16_ok (h : RowA .i16 w b d rest t) (hs : d.size = n) (hn : n < 1152921504606846976) {root hi first : Nat} (hr : first + hi ≤ n) (hr2 : root ≤ n) :
    CallsF Tryz.prog 122 #[.slice (some ⟨b, 0, none⟩) n c, .int .i64 root, .int .i64 hi, .int .i64 first] w (Doneint16 b (siftDown ltInt hi first root d) rest t w) := by
  refine C_slices_siftDownOrdered_int16 _ _ _ _ _ _ _ _ ?_
  refine ⟨fun m vs w' => ∃ (r : Nat) (d' : Array Int), m = hi - r ∧ r ≤ n ∧ vs = [.int .i64 r] ∧ RowA .i16 w' b d' rest t ∧ d'.size = n ∧ siftDown ltInt hi first r d' = siftDown ltInt hi first root d ∧ Mod (· = b) w w',
    ⟨_, root, d, rfl, hr2, rfl, h, hs, rfl, Mod.refl _ _⟩, ?_⟩
  rintro m rr w1 ⟨r, d1, rfl, hrn, hvs, h1, hs1, heq1, hm1⟩
  simp only [List.cons.injEq, Value.int.injEq, true_and, and_true] at hvs
  subst hvs
  have e1 : IntKind.i64.wrap (IntKind.i64.wrap (2 * (r : Int)) + 1) = ((2 * r + 1 : Nat) : Int) := by rw [wrap_i64 (n := 2 * (r : Int)) (by omega) (by omega), wrap_i64 (by omega) (by omega)]; omega
  rw [e1]
  have e2 : IntKind.i64.wrap (((2 * r + 1 : Nat) : Int) + 1) = ((2 * r + 2 : Nat) : Int) := by rw [wrap_i64 (by omega) (by omega)]; omega
  rw [e2]
  refine Br_dec (fun hge => ?_) fun hlt => ?_
  · rw [siftDown, dif_pos (by omega)] at heq1
    exact ⟨rfl, heq1 ▸ h1, hm1⟩
  have hlt' : ¬ 2 * r + 1 ≥ hi := by omega
  rw [siftint16_eq hi first r d1 hlt'] at heq1
  intro J hJ
  have hgo : ∀ (w2 : World) (cb : Bool), RowA .i16 w2 b d1 rest t → Mod (· = b) w1 w2 → (if cb then 2 * r + 2 else 2 * r + 1) = childint16 hi first r d1 → (cb = true → 2 * r + 2 < hi) → J [.bool cb] w2 := by
    intro w2 cb h2 hm2 hc hcb
    refine hJ _ _ ?_
    intro J' hJ'
    generalize childint16 hi first r d1 = ch at hc heq1
    have hch : r < ch ∧ ch < hi := by
      cases cb
      · simp at hc; omega
      · simp at hc; have := hcb rfl; omega
    have hfin : J' [.int .i64 ch] w2 := by
      refine hJ' _ _ ?_
      have ea : IntKind.i64.wrap ((first : Int) + (r : Int)) = ((first + r : Nat) : Int) := by rw [wrap_i64 (by omega) (by omega)]; omega
      have eb : IntKind.i64.wrap ((first : Int) + (ch : Int)) = ((first + ch : Nat) : Int) := by rw [wrap_i64 (by omega) (by omega)]; omega
      rw [ea, eb]
      refine less_step lessint16_ok h2 rfl rfl (by omega) (by omega) (Nat.le_of_eq hs1) fun w3 h3 hm3 => ?_
      refine Br_not (Br_intro (fun hl => ?_) fun hl => ?_)
      · rw [hl] at heq1
        refine swap_step h3 rfl rfl (by omega) (by omega) (Nat.le_of_eq hs1) fun w4 h4 hm4 => ?_
        exact ⟨hi - ch, by omega, ch, _, rfl, by omega, rfl, h4, by rw [size_swp]; exact hs1, heq1, ((hm1.then hm2).then hm3.to).then hm4⟩
      · rw [hl] at heq1
        have heq1' : d1 = siftDown ltInt hi first root d := heq1
        exact ⟨rfl, heq1' ▸ h3, (hm1.then hm2).then hm3.to⟩
    cases cb
    · simp at hc; subst hc; exact hfin
    · simp at hc; subst hc; exact hfin
  refine Br_dec (fun h2 => ?_) fun h2 => ?_
  · have ea : IntKind.i64.wrap ((first : Int) + ((2 * r + 1 : Nat) : Int)) = ((first + (2 * r + 1) : Nat) : Int) := by rw [wrap_i64 (by omega) (by omega)]; omega
    have eb : IntKind.i64.wrap (((first + (2 * r + 1) : Nat) : Int) + 1) = ((first + (2 * r + 1) + 1 : Nat) : Int) := by rw [wrap_i64 (by omega) (by omega)]; omega
    rw [ea, eb]
    refine less_step lessint16_ok h1 rfl rfl (by omega) (by omega) (Nat.le_of_eq hs1) fun w3 h3 hm3 => ?_
    refine hgo w3 _ h3 hm3.to ?_ (fun _ => by omega)
    unfold childint16
    rw [decide_eq_true (show 2 * r + 1 + 1 < hi by omega), Bool.true_and]
  · refine hgo _ false (h1.same (drew_mod _)) (drew_mod _).to ?_ (fun h => by cases h)
    unfold childint16
    rw [decide_eq_false (show ¬ 2 * r + 1 + 1 < hi by omega), Bool.false_and]

theorem siftint16_size (hi first : Nat) : ∀ (m root : Nat) (d : Array Int), hi - root ≤ m → (siftDown ltInt hi first root d).size = d.size := by
  intro m
  induction m with
  | zero => intro root d hm; rw [siftDown, dif_pos (by omega)]
  | succ m ih =>
    intro root d hm
    by_cases h1 : 2 * root + 1 ≥ hi
    · rw [siftDown, dif_pos h1]
    · rw [siftint16_eq _ _ _ _ h1]
      have hc : root < childint16 hi first root d := by unfold childint16; split <;> omega
      split
      · rfl
      · rw [ih _ _ (by omega), size_swp]

theorem heapint16_ok (h : RowA .i16 w b d rest t) (hs : d.size = n) (hn : n < 1152921504606846976) {a e' : Nat} (hae : a ≤ e') (hen : e' ≤ n) :
    CallsF Tryz.prog 110 #[.slice (some ⟨b, 0, none⟩) n c, .int .i64 a, .int .i64 e'] w (Doneint16 b (heapSort ltInt d a e') rest t w) := by
  refine C_slices_heapSortOrdered_int16 _ _ _ _ _ _ _ ?_
  have e0 : IntKind.i64.wrap ((e' : Int) - (a : Int)) = ((e' - a : Nat) : Int) := by rw [wrap_i64 (by omega) (by omega)]; omega
  have e1 : IntKind.i64.wrap ((IntKind.i64.wrap (((e' - a : Nat) : Int) - 1)).tdiv 2) = ((((e' - a - 1) / 2 + 1 : Nat) : Int) - 1) := by
    rw [wrap_i64 (n := ((e' - a : Nat) : Int) - 1) (by omega) (by omega)]
    by_cases hz : e' - a = 0
    · rw [hz]; rfl
    · have hc : ((e' - a : Nat) : Int) - 1 = ((e' - a - 1 : Nat) : Int) := by omega
      rw [hc, Int.tdiv_eq_ediv_of_nonneg (by omega), wrap_i64 (by omega) (by omega)]
      omega
  unfold S_slices_heapSortOrdered_int16
  rw [e0, e1]
  refine ⟨by omega, fun m vs w' => ∃ (k : Nat) (d' : Array Int), m = k ∧ k ≤ (e' - a - 1) / 2 + 1 ∧ vs = [.int .i64 ((k : Int) - 1)] ∧ RowA .i16 w' b d' rest t ∧ d'.size = n ∧ heapBuild ltInt (e' - a) a k d' = heapBuild ltInt (e' - a) a ((e' - a - 1) / 2 + 1) d ∧ Mod (· = b) w w',
    ⟨_, _, d, rfl, Nat.le_refl _, rfl, h, hs, rfl, Mod.refl _ _⟩, ?_⟩
  rintro m kk w1 ⟨k, d1, rfl, hk, hvs, h1, hs1, heq1, hm1⟩
  simp only [List.cons.injEq, Value.int.injEq, true_and, and_true] at hvs
  subst hvs
  refine Br_dec (fun hge => ?_) fun hlt => ?_
  · obtain ⟨j, rfl⟩ : ∃ j, m = j + 1 := ⟨m - 1, by omega⟩
    have ek : (((j + 1 : Nat) : Int) - 1) = (j : Int) := by omega
    rw [ek]
    refine (siftint16_ok h1 hs1 hn (root := j) (hi := e' - a) (first := a) (by omega) (by omega)).mono ?_
    rintro e w2 ⟨rfl, h2, hm2⟩
    refine ⟨rfl, j, by omega, j, _, rfl, by omega, by rw [wrap_i64 (by omega) (by omega)], h2, by rw [siftint16_size _ _ _ _ _ (Nat.le_refl _)]; exact hs1, ?_, hm1.then hm2⟩
    rw [← heq1]; rfl
  · have : m = 0 := by omega
    subst this
    have heq1' : d1 = heapBuild ltInt (e' - a) a ((e' - a - 1) / 2 + 1) d := heq1
    have e2 : IntKind.i64.wrap (((e' - a : Nat) : Int) - 1) = ((e' - a : Nat) : Int) - 1 := wrap_i64 (by omega) (by omega)
    rw [e2]
    refine ⟨fun m vs w' => ∃ (k : Nat) (d' : Array Int), m = k ∧ k ≤ e' - a ∧ vs = [.int .i64 ((k : Int) - 1)] ∧ RowA .i16 w' b d' rest t ∧ d'.size = n ∧ heapPop ltInt a k d' = heapPop ltInt a (e' - a) d1 ∧ Mod (· = b) w w',
      ⟨_, _, d1, rfl, Nat.le_refl _, rfl, h1, hs1, rfl, hm1⟩, ?_⟩
    rintro m kk w2 ⟨k, d2, rfl, hk, hvs, h2, hs2, heq2, hm2⟩
    simp only [List.cons.injEq, Value.int.injEq, true_and, and_true] at hvs
    subst hvs
    refine Br_dec (fun hge => ?_) fun hlt => ?_
    · obtain ⟨j, rfl⟩ : ∃ j, m = j + 1 := ⟨m - 1, by omega⟩
      have ek : (((j + 1 : Nat) : Int) - 1) = (j : Int) := by omega
      rw [ek]
      have ea : IntKind.i64.wrap ((a : Int) + (j : Int)) = ((a + j : Nat) : Int) := by rw [wrap_i64 (by omega) (by omega)]; omega
      rw [ea]
      refine swap_step h2 (i := a) (j := a + j) rfl rfl (by omega) (by omega) (Nat.le_of_eq hs2) fun w3 h3 hm3 => ?_
      refine (siftint16_ok h3 (by rw [size_swp]; exact hs2) hn (root := 0) (hi := j) (first := a) (by omega) (by omega)).mono ?_
      rintro e w4 ⟨rfl, h4, hm4⟩
      refine ⟨rfl, j, by omega, j, _, rfl, by omega, by rw [wrap_i64 (by omega) (by omega)], h4, by rw [siftint16_size _ _ _ _ _ (Nat.le_refl _), size_swp]; exact hs2, ?_, (hm2.then hm3).then hm4⟩
      rw [← heq2]; rfl
    · have : m = 0 := by omega
      subst this
      have heq2' : d2 = heapPop ltInt a (e' - a) d1 := heq2
      refine ⟨rfl, ?_, hm2⟩
      have hh : heapSort ltInt d a e' = d2 := by rw [heq2', heq1']; rfl
      rw [hh]; exact h2

theorem revint16_ok (h : RowA .i16 w b d rest t) (hs : d.size = n) (hn : n < 1152921504606846976) {a e' : Nat} (hae : a < e') (hen : e' ≤ n) :
    CallsF Tryz.prog 113 #[.slice (some ⟨b, 0, none⟩) n c, .int .i64 a, .int .i64 e'] w (Doneint16 b (reverseRange d a e') rest t w) := by
  refine C_slices_reverseRangeOrdered_int16 _ _ _ _ _ _ _ ?_
  refine ⟨fun m vs w' => ∃ (i j : Nat) (d' : Array Int), m = j + 1 - i ∧ i ≤ n ∧ j < n ∧ (i < j ∨ True) ∧ vs = [.int .i64 i, .int .i64 j] ∧ RowA .i16 w' b d' rest t ∧ d'.size = n ∧ reverseLoop i j d' = reverseRange d a e' ∧ Mod (· = b) w w',
    ⟨_, a, e' - 1, d, rfl, by omega, by omega, .inr trivial, by rw [wrap_i64 (by omega) (by omega)]; congr 3; omega, h, hs, rfl, Mod.refl _ _⟩, ?_⟩
  rintro m ii jj w1 ⟨i, j, d1, rfl, hi, hj, _, hvs, h1, hs1, heq1, hm1⟩
  simp only [List.cons.injEq, Value.int.injEq, true_and, and_true] at hvs
  obtain ⟨rfl, rfl⟩ := hvs
  refine Br_dec (fun hlt => ?_) fun hge => ?_
  · refine swap_step h1 (i := i) (j := j) rfl rfl (by omega) (by omega) (Nat.le_of_eq hs1) fun w2 h2 hm2 => ?_
    refine ⟨(j - 1) + 1 - (i + 1), by omega, i + 1, j - 1, _, rfl, by omega, by omega, .inr trivial, by rw [wrap_i64 (by omega) (by omega), wrap_i64 (by omega) (by omega)]; congr 3; omega, h2, by rw [size_swp]; exact hs1, ?_, hm1.then hm2⟩
    rw [← heq1, reverseLoop.eq_1 i j d1, if_pos (by omega)]
  · rw [reverseLoop, if_neg (by omega)] at heq1
    exact ⟨rfl, heq1 ▸ h1, hm1⟩

end Go.Proofs.YtajfdcbknghipaaGreatDoor
end

section
/- Sorting in place, part two: the partitions, the partial insertion sort. Conditions as stated. -/
namespace Go.Proofs.YtajfdcbknghipaaGreatDoor
open Go Go.Sh Go.Sort

variable {w : World} {b n c : Nat} {d : Array Int} {rest : List Value} {t : TypeId}

theorem scanUp_le {p : Int → Bool} {d : Array Int} {j i : Nat} (h : i ≤ j + 1) : scanUp p d j i ≤ j + 1 := (scanUp_spec p d j _ i rfl).2.1 h
theorem scanDown_ge {p : Int → Bool} {d : Array Int} {j i : Nat} (h : i ≤ j + 1) : i ≤ scanDown p d i j + 1 := (scanDown_spec p d i j).2.1 h

theorem pairint16_eq {i j : Nat} (hj : 0 < j) : [Value.int .i64 ((i : Int) + 1), .int .i64 ((j : Int) - 1)] = [.int .i64 ((i + 1 : Nat) : Int), .int .i64 ((j - 1 : Nat) : Int)] := by
  have h1 : ((j : Int) - 1) = ((j - 1 : Nat) : Int) := by omega
  rw [h1]; rfl
theorem scans_neint16 {p q : Int → Bool} {d : Array Int} {i j : Nat} (hq : ∀ x, q x = !p x) (hi : 0 < i) (h : ¬ scanUp p d j i > scanDown q d (scanUp p d j i) j) : scanUp p d j i < scanDown q d (scanUp p d j i) j := by
  have h1 := (scanUp_spec p d j _ i rfl).2.2.2
  have h0 := scanUp_ge p d j i
  obtain ⟨h2, _, _, h3⟩ := scanDown_spec q d (scanUp p d j i) j
  rcases Nat.lt_or_ge (scanUp p d j i) (scanDown q d (scanUp p d j i) j) with hl | hg
  · exact hl
  · have he : scanDown q d (scanUp p d j i) j = scanUp p d j i := by omega
    have h4 := h3 (by omega) (by omega)
    rw [he] at h4 h2
    have h5 := h1 h2
    rw [hq, h5] at h4
    cases h4
theorem peqint16_ok (h : RowA .i16 w b d rest t) (hs : d.size = n) (hn : n < 1152921504606846976) {a e' pv : Nat} (ha : a ≤ pv) (hp : pv < e') (hen : e' ≤ n) :
    CallsF Tryz.prog 116 #[.slice (some ⟨b, 0, none⟩) n c, .int .i64 a, .int .i64 e', .int .i64 pv] w fun e w' =>
      e = .returned (.int .i64 (partitionEqual ltInt d a e' pv).1) ∧ RowA .i16 w' b (partitionEqual ltInt d a e' pv).2 rest t ∧ Mod (· = b) w w' := by
  refine C_slices_partitionEqualOrdered_int16 _ _ _ _ _ _ _ _ ?_
  refine swap_step h (i := a) (j := pv) rfl rfl (by omega) (by omega) (Nat.le_of_eq hs) fun w0 h0 hm0 => ?_
  have hs0 : (swp d a pv).size = n := by rw [size_swp]; exact hs
  have heq : partitionEqual ltInt d a e' pv = partEqLoop ltInt a (a + 1) (e' - 1) (swp d a pv) := rfl
  rw [heq]
  refine ⟨fun m vs w' => ∃ (i j : Nat) (d' : Array Int), m = j + 1 - i ∧ a < i ∧ i ≤ j + 1 ∧ j < e' ∧ vs = [.int .i64 i, .int .i64 j] ∧ RowA .i16 w' b d' rest t ∧ d'.size = n ∧ partEqLoop ltInt a i j d' = partEqLoop ltInt a (a + 1) (e' - 1) (swp d a pv) ∧ Mod (· = b) w w',
    ⟨_, a + 1, e' - 1, _, rfl, by omega, by omega, by omega, by rw [wrap_i64 (by omega) (by omega), wrap_i64 (by omega) (by omega)]; congr 3; omega, h0, hs0, rfl, hm0⟩, ?_⟩
  rintro m ii jj w1 ⟨i, j, d1, rfl, hai, hij, hje, hvs, h1, hs1, heq1, hm1⟩
  simp only [List.cons.injEq, Value.int.injEq, true_and, and_true] at hvs
  obtain ⟨rfl, rfl⟩ := hvs
  refine scan_up (p := fun x => !ltInt d1[a]! x) h1 rfl rfl hij (by omega) (fun x w' J hx1 hx2 hw' hK => ?_) fun w2 h2 hm2 => ?_
  · exact less_step lessint16_ok hw' (i := a) (j := x) rfl rfl (by omega) (by omega) (Nat.le_of_eq hs1) fun w'' h'' hm'' => hK w'' h'' hm''
  have hu1 := scanUp_ge (fun x => !ltInt d1[a]! x) d1 j i
  have hu2 := scanUp_le (p := fun x => !ltInt d1[a]! x) (d := d1) hij
  rw [partEqLoop_eq] at heq1
  have hne := scans_neint16 (p := fun x => !ltInt d1[a]! x) (q := fun x => ltInt d1[a]! x) (d := d1) (i := i) (j := j) (fun x => by simp) (by omega)
  generalize scanUp (fun x => !ltInt d1[a]! x) d1 j i = i2 at hu1 hu2 heq1 hne ⊢
  refine scan_down (p := fun x => ltInt d1[a]! x) h2 rfl rfl (by omega) hu2 (by omega) (fun x w' J hx1 hx2 hw' hK => ?_) fun w3 h3 hm3 => ?_
  · exact less_step lessint16_ok hw' (i := a) (j := x) rfl rfl (by omega) (by omega) (Nat.le_of_eq hs1) fun w'' h'' hm'' => hK w'' h'' hm''
  have hd1 := scanDown_le (fun x => ltInt d1[a]! x) d1 i2 j
  have hd2 := scanDown_ge (p := fun x => ltInt d1[a]! x) (d := d1) hu2
  generalize scanDown (fun x => ltInt d1[a]! x) d1 i2 j = j2 at hd1 hd2 heq1 hne ⊢
  have hm3' : Mod (· = b) w w3 := (hm1.then hm2.to).then hm3.to
  refine Br_dec (fun hgt => ?_) fun hle => ?_
  · rw [if_pos (by omega)] at heq1
    rw [← heq1]
    exact ⟨rfl, h3, hm3'⟩
  · rw [if_neg (by omega)] at heq1
    have hlt := hne (by omega)
    refine swap_step h3 (i := i2) (j := j2) rfl rfl (by omega) (by omega) (Nat.le_of_eq hs1) fun w4 h4 hm4 => ?_
    exact ⟨j2 - 1 + 1 - (i2 + 1), by omega, i2 + 1, j2 - 1, _, rfl, by omega, by omega, by omega, by rw [wrap_i64 (by omega) (by omega), wrap_i64 (by omega) (by omega)]; exact pairint16_eq (by omega), h4, by rw [size_swp]; exact hs1, heq1, hm3'.then hm4⟩

theorem partint16_ok (h : RowA .i16 w b d rest t) (hs : d.size = n) (hn : n < 1152921504606846976) {a e' pv : Nat} (ha : a ≤ pv) (hp : pv < e') (hen : e' ≤ n) :
    CallsF Tryz.prog 117 #[.slice (some ⟨b, 0, none⟩) n c, .int .i64 a, .int .i64 e', .int .i64 pv] w fun e w' =>
      ∃ ap : Bool, e = .returned (.tuple #[.int .i64 (partition ltInt d a e' pv).1, .bool ap]) ∧ RowA .i16 w' b (partition ltInt d a e' pv).2.2 rest t ∧ Mod (· = b) w w' := by
  refine C_slices_partitionOrdered_int16 _ _ _ _ _ _ _ _ ?_
  refine swap_step h (i := a) (j := pv) rfl rfl (by omega) (by omega) (Nat.le_of_eq hs) fun w0 h0 hm0 => ?_
  have hs0 : (swp d a pv).size = n := by rw [size_swp]; exact hs
  rw [partition_fst, partition_arr]
  generalize swp d a pv = d0 at h0 hs0 ⊢
  have e1 : IntKind.i64.wrap ((a : Int) + 1) = ((a + 1 : Nat) : Int) := by rw [wrap_i64 (by omega) (by omega)]; omega
  have e2 : IntKind.i64.wrap ((e' : Int) - 1) = ((e' - 1 : Nat) : Int) := by rw [wrap_i64 (by omega) (by omega)]; omega
  refine scan_up (p := fun x => ltInt x d0[a]!) h0 e1 e2 (by omega) (by omega) (fun x w' J hx1 hx2 hw' hK => ?_) fun w2 h2 hm2 => ?_
  · exact less_step lessint16_ok hw' (i := x) (j := a) rfl rfl (by omega) (by omega) (Nat.le_of_eq hs0) fun w'' h'' hm'' => hK w'' h'' hm''
  have hu1 := scanUp_ge (fun x => ltInt x d0[a]!) d0 (e' - 1) (a + 1)
  have hu2 := scanUp_le (p := fun x => ltInt x d0[a]!) (d := d0) (j := e' - 1) (i := a + 1) (by omega)
  rw [partLoop_eq]
  have hne := scans_neint16 (p := fun x => ltInt x d0[a]!) (q := fun x => !ltInt x d0[a]!) (d := d0) (i := a + 1) (j := e' - 1) (fun x => rfl) (by omega)
  generalize scanUp (fun x => ltInt x d0[a]!) d0 (e' - 1) (a + 1) = i2 at hu1 hu2 hne ⊢
  refine scan_down (p := fun x => !ltInt x d0[a]!) h2 rfl e2 (by omega) hu2 (by omega) (fun x w' J hx1 hx2 hw' hK => ?_) fun w3 h3 hm3 => ?_
  · exact less_step lessint16_ok hw' (i := x) (j := a) rfl rfl (by omega) (by omega) (Nat.le_of_eq hs0) fun w'' h'' hm'' => hK w'' h'' hm''
  have hd1 := scanDown_le (fun x => !ltInt x d0[a]!) d0 i2 (e' - 1)
  have hd2 := scanDown_ge (p := fun x => !ltInt x d0[a]!) (d := d0) (j := e' - 1) hu2
  generalize scanDown (fun x => !ltInt x d0[a]!) d0 i2 (e' - 1) = j2 at hd1 hd2 hne ⊢
  have hm3' : Mod (· = b) w w3 := (hm0.then hm2.to).then hm3.to
  refine Br_dec (fun hgt => ?_) fun hle => ?_
  · rw [if_pos (by omega)]
    refine swap_step h3 (i := j2) (j := a) rfl rfl (by omega) (by omega) (Nat.le_of_eq hs0) fun w4 h4 hm4 => ?_
    exact ⟨_, rfl, h4, hm3'.then hm4⟩
  rw [if_neg (by omega)]
  have hlt := hne (by omega)
  refine swap_step h3 (i := i2) (j := j2) rfl rfl (by omega) (by omega) (Nat.le_of_eq hs0) fun w4 h4 hm4 => ?_
  refine ⟨fun m vs w' => ∃ (i j : Nat) (d' : Array Int), m = j + 1 - i ∧ a < i ∧ i ≤ j + 1 ∧ j < e' ∧ vs = [.int .i64 i, .int .i64 j] ∧ RowA .i16 w' b d' rest t ∧ d'.size = n ∧ partLoop ltInt a i j d' = partLoop ltInt a (i2 + 1) (j2 - 1) (swp d0 i2 j2) ∧ Mod (· = b) w w',
    ⟨_, i2 + 1, j2 - 1, _, rfl, by omega, by omega, by omega, by rw [wrap_i64 (by omega) (by omega), wrap_i64 (by omega) (by omega)]; exact pairint16_eq (by omega), h4, by rw [size_swp]; exact hs0, rfl, hm3'.then hm4⟩, ?_⟩
  rintro m ii jj w5 ⟨i, j, d1, rfl, hai, hij, hje, hvs, h1, hs1, heq1, hm1⟩
  simp only [List.cons.injEq, Value.int.injEq, true_and, and_true] at hvs
  obtain ⟨rfl, rfl⟩ := hvs
  refine scan_up (p := fun x => ltInt x d1[a]!) h1 rfl rfl hij (by omega) (fun x w' J hx1 hx2 hw' hK => ?_) fun w6 h6 hm6 => ?_
  · exact less_step lessint16_ok hw' (i := x) (j := a) rfl rfl (by omega) (by omega) (Nat.le_of_eq hs1) fun w'' h'' hm'' => hK w'' h'' hm''
  have hv1 := scanUp_ge (fun x => ltInt x d1[a]!) d1 j i
  have hv2 := scanUp_le (p := fun x => ltInt x d1[a]!) (d := d1) hij
  rw [partLoop_eq] at heq1
  have hnf := scans_neint16 (p := fun x => ltInt x d1[a]!) (q := fun x => !ltInt x d1[a]!) (d := d1) (i := i) (j := j) (fun x => rfl) (by omega)
  generalize scanUp (fun x => ltInt x d1[a]!) d1 j i = i3 at hv1 hv2 heq1 hnf ⊢
  refine scan_down (p := fun x => !ltInt x d1[a]!) h6 rfl rfl (by omega) hv2 (by omega) (fun x w' J hx1 hx2 hw' hK => ?_) fun w7 h7 hm7 => ?_
  · exact less_step lessint16_ok hw' (i := x) (j := a) rfl rfl (by omega) (by omega) (Nat.le_of_eq hs1) fun w'' h'' hm'' => hK w'' h'' hm''
  have hc1 := scanDown_le (fun x => !ltInt x d1[a]!) d1 i3 j
  have hc2 := scanDown_ge (p := fun x => !ltInt x d1[a]!) (d := d1) hv2
  generalize scanDown (fun x => !ltInt x d1[a]!) d1 i3 j = j3 at hc1 hc2 heq1 hnf ⊢
  have hm7' : Mod (· = b) w w7 := (hm1.then hm6.to).then hm7.to
  refine Br_dec (fun hgt => ?_) fun hle => ?_
  · rw [if_pos (by omega)] at heq1
    rw [← heq1]
    refine swap_step h7 (i := j3) (j := a) rfl rfl (by omega) (by omega) (Nat.le_of_eq hs1) fun w8 h8 hm8 => ?_
    exact ⟨_, rfl, h8, hm7'.then hm8⟩
  · rw [if_neg (by omega)] at heq1
    have hlt := hnf (by omega)
    refine swap_step h7 (i := i3) (j := j3) rfl rfl (by omega) (by omega) (Nat.le_of_eq hs1) fun w8 h8 hm8 => ?_
    exact ⟨j3 - 1 + 1 - (i3 + 1), by omega, i3 + 1, j3 - 1, _, rfl, by omega, by omega, by omega, by rw [wrap_i64 (by omega) (by omega), wrap_i64 (by omega) (by omega)]; exact pairint16_eq (by omega), h8, by rw [size_swp]; exact hs1, heq1, hm7'.then hm8⟩

end Go.Proofs.YtajfdcbknghipaaGreatDoor
end

section
/- Sorting in place, part three: the partial insertion sort. Conditions as stated. -/
namespace Go.Proofs.YtajfdcbknghipaaGreatDoor
open Go Go.Sh Go.Sort

variable {w : World} {b n c : Nat} {d : Array Int} {rest : List Value} {t : TypeId}

theorem shiftDownint16_size : ∀ (j : Nat) (d : Array Int), (shiftDown ltInt j d).size = d.size
  | 0, _ => rfl
  | j + 1, d => by
    rw [shiftDown]
    split
    · rfl
    · rw [shiftDownint16_size j, size_swp]
theorem shiftUpint16_size (e' : Nat) : ∀ (m j : Nat) (d : Array Int), e' - j ≤ m → (shiftUp ltInt e' j d).size = d.size
  | 0, j, d, hm => by rw [shiftUp, if_neg (by omega)]
  | m + 1, j, d, hm => by
    rw [shiftUp]
    split
    · split
      · rfl
      · rw [shiftUpint16_size e' m _ _ (by omega), size_swp]
    · rfl
theorem fixDownint16_size (a i : Nat) (d : Array Int) : (fixDown ltInt a i d).size = d.size := by
  unfold fixDown; split
  · exact shiftDownint16_size _ _
  · rfl
theorem fixUpint16_size (a i : Nat) (d : Array Int) : (fixUp ltInt a i d).size = d.size := by
  unfold fixUp; split
  · exact shiftUpint16_size _ _ _ _ (Nat.le_refl _)
  · rfl

theorem pinsint16_ok (h : RowA .i16 w b d rest t) (hs : d.size = n) (hn : n < 1152921504606846976) {a e' : Nat} (hae : a < e') (hen : e' ≤ n) :
    CallsF Tryz.prog 114 #[.slice (some ⟨b, 0, none⟩) n c, .int .i64 a, .int .i64 e'] w fun e w' =>
      e = .returned (.bool (partialInsertionSort ltInt d a e').2) ∧ RowA .i16 w' b (partialInsertionSort ltInt d a e').1 rest t ∧ Mod (· = b) w w' := by
  refine C_slices_partialInsertionSortOrdered_int16 _ _ _ _ _ _ _ ?_
  refine ⟨fun m vs w' => ∃ (i : Nat) (d' : Array Int) (bb : Bool), m ≤ 5 ∧ a < i ∧ i ≤ e' ∧ vs = [.int .i64 i, .bool bb, .int .i64 ((5 - m : Nat) : Int)] ∧ RowA .i16 w' b d' rest t ∧ d'.size = n ∧ partialIns ltInt a e' m i d' = partialInsertionSort ltInt d a e' ∧ Mod (· = b) w w',
    ⟨5, a + 1, d, false, Nat.le_refl _, by omega, by omega, by rw [wrap_i64 (by omega) (by omega)]; rfl, h, hs, rfl, Mod.refl _ _⟩, ?_⟩
  rintro m ii bb jj w1 ⟨i, d1, bb', hm5, hai, hie, hvs, h1, hs1, heq1, hm1⟩
  simp only [List.cons.injEq, Value.int.injEq, Value.bool.injEq, true_and, and_true] at hvs
  obtain ⟨rfl, rfl, rfl⟩ := hvs
  refine Br_dec (fun hlt => ?_) fun hge => ?_
  rotate_left
  · have : m = 0 := by omega
    subst this
    have heq1' : (d1, false) = partialInsertionSort ltInt d a e' := heq1
    rw [← heq1']
    exact ⟨rfl, h1, hm1⟩
  obtain ⟨s, rfl⟩ : ∃ s, m = s + 1 := ⟨m - 1, by omega⟩
  rw [partialIns_succ] at heq1
  refine scan_sorted h1 rfl hie (by omega) (fun x w' J hx1 hx2 hw' hK => ?_) fun w3 hx1 hx2 h3 hm3 => ?_
  · have ex : IntKind.i64.wrap ((x : Int) - 1) = ((x - 1 : Nat) : Int) := by rw [wrap_i64 (by omega) (by omega)]; omega
    exact less_step lessint16_ok hw' (i := x) (j := x - 1) rfl ex (by omega) (by omega) (Nat.le_of_eq hs1) fun w'' h'' hm'' => hK w'' h'' hm''
  generalize scanSorted ltInt d1 e' i = x at hx1 hx2 heq1 ⊢
  have hxe : x ≤ e' := hx2
  have hm13 : Mod (· = b) w w3 := hm1.then hm3.to
  refine Br_eq (fun hxe' => ?_) fun hxe' => ?_
  · rw [if_pos (by omega)] at heq1
    rw [← heq1]
    exact ⟨rfl, h3, hm13⟩
  rw [if_neg (by omega)] at heq1
  have e50 : IntKind.i64.wrap ((e' : Int) - (a : Int)) = ((e' - a : Nat) : Int) := by rw [wrap_i64 (by omega) (by omega)]; omega
  rw [e50]
  refine Br_dec (fun h50 => ?_) fun h50 => ?_
  · rw [if_pos (by omega)] at heq1
    rw [← heq1]
    exact ⟨rfl, h3, hm13⟩
  rw [if_neg (by omega)] at heq1
  have ex : IntKind.i64.wrap ((x : Int) - 1) = ((x - 1 : Nat) : Int) := by rw [wrap_i64 (by omega) (by omega)]; omega
  refine swap_step h3 (i := x) (j := x - 1) rfl ex (by omega) (by omega) (Nat.le_of_eq hs1) fun w4 h4 hm4 => ?_
  have hs4 : (swp d1 x (x - 1)).size = n := by rw [size_swp]; exact hs1
  generalize swp d1 x (x - 1) = d4 at h4 hs4 heq1
  have hm14 : Mod (· = b) w w4 := hm13.then hm4
  intro J hJ
  have key : ∀ w5, RowA .i16 w5 b (fixDown ltInt a x d4) rest t → Mod (· = b) w w5 → J [] w5 := by
    intro w5 h5 hm5
    refine hJ _ ?_
    have hs5 : (fixDown ltInt a x d4).size = n := by rw [fixDownint16_size]; exact hs4
    generalize fixDown ltInt a x d4 = d5 at h5 hs5 heq1
    intro J hJ
    have key2 : ∀ w6, RowA .i16 w6 b (fixUp ltInt e' x d5) rest t → Mod (· = b) w w6 → J [] w6 := by
      intro w6 h6 hm6
      refine hJ _ ⟨s, by omega, x, _, bb, by omega, by omega, hxe, ?_, h6, by rw [fixUpint16_size]; exact hs5, heq1, hm6⟩
      rw [wrap_i64 (by omega) (by omega)]
      have : (((5 - (s + 1) : Nat) : Int) + 1) = ((5 - s : Nat) : Int) := by omega
      rw [this]
    have ez : IntKind.i64.wrap ((e' : Int) - (x : Int)) = ((e' - x : Nat) : Int) := by rw [wrap_i64 (by omega) (by omega)]; omega
    rw [ez]
    refine Br_dec (fun hz => ?_) fun hz => ?_
    rotate_left
    · refine key2 _ ?_ hm5
      unfold fixUp; rw [if_neg (by omega)]; exact h5
    intro J1 hJ1
    have hfix : fixUp ltInt e' x d5 = shiftUp ltInt e' (x + 1) d5 := by unfold fixUp; rw [if_pos (by omega)]
    rw [hfix] at key2
    refine ⟨fun k vs w' => ∃ (y : Nat) (d' : Array Int), k = e' - y ∧ x < y ∧ y ≤ e' ∧ vs = [.int .i64 y] ∧ RowA .i16 w' b d' rest t ∧ d'.size = n ∧ shiftUp ltInt e' y d' = shiftUp ltInt e' (x + 1) d5 ∧ Mod (· = b) w w',
      ⟨_, x + 1, d5, rfl, by omega, by omega, by rw [wrap_i64 (by omega) (by omega)]; rfl, h5, hs5, rfl, hm5⟩, ?_⟩
    rintro k yy w6 ⟨y, d6, rfl, hxy, hye, hvs, h6, hs6, heq6, hm6⟩
    simp only [List.cons.injEq, Value.int.injEq, true_and, and_true] at hvs
    subst hvs
    refine Br_dec (fun hye2 => ?_) fun hye2 => ?_
    · have ey : IntKind.i64.wrap ((y : Int) - 1) = ((y - 1 : Nat) : Int) := by rw [wrap_i64 (by omega) (by omega)]; omega
      refine less_step lessint16_ok h6 (i := y) (j := y - 1) rfl ey (by omega) (by omega) (Nat.le_of_eq hs6) fun w7 h7 hm7 => ?_
      rw [shiftUp.eq_1 ltInt e' y d6, if_pos (by omega)] at heq6
      refine Br_not (Br_intro (fun hl => ?_) fun hl => ?_)
      · rw [hl] at heq6
        refine swap_step h7 (i := y) (j := y - 1) rfl ey (by omega) (by omega) (Nat.le_of_eq hs6) fun w8 h8 hm8 => ?_
        exact ⟨e' - (y + 1), by omega, y + 1, _, rfl, by omega, by omega, by rw [wrap_i64 (by omega) (by omega)]; rfl, h8, by rw [size_swp]; exact hs6, heq6, (hm6.then hm7.to).then hm8⟩
      · rw [hl] at heq6
        have heq6' : d6 = shiftUp ltInt e' (x + 1) d5 := heq6
        exact hJ1 _ (key2 _ (heq6' ▸ h7) (hm6.then hm7.to))
    · rw [shiftUp.eq_1 ltInt e' y d6, if_neg (by omega)] at heq6
      exact hJ1 _ (key2 _ (heq6 ▸ h6) hm6)
  have ea : IntKind.i64.wrap ((x : Int) - (a : Int)) = ((x - a : Nat) : Int) := by rw [wrap_i64 (by omega) (by omega)]; omega
  rw [ea]
  refine Br_dec (fun hz => ?_) fun hz => ?_
  rotate_left
  · refine key _ ?_ hm14
    unfold fixDown; rw [if_neg (by omega)]; exact h4
  intro J1 hJ1
  have hfix : fixDown ltInt a x d4 = shiftDown ltInt (x - 1) d4 := by unfold fixDown; rw [if_pos (by omega)]
  rw [hfix] at key
  refine ⟨fun k vs w' => ∃ (d' : Array Int), k ≤ x - 1 ∧ vs = [.int .i64 k] ∧ RowA .i16 w' b d' rest t ∧ d'.size = n ∧ shiftDown ltInt k d' = shiftDown ltInt (x - 1) d4 ∧ Mod (· = b) w w',
    ⟨x - 1, d4, Nat.le_refl _, by rw [ex], h4, hs4, rfl, hm14⟩, ?_⟩
  rintro y yy w6 ⟨d6, hyx, hvs, h6, hs6, heq6, hm6⟩
  simp only [List.cons.injEq, Value.int.injEq, true_and, and_true] at hvs
  subst hvs
  refine Br_dec (fun hye2 => ?_) fun hye2 => ?_
  · obtain ⟨z, rfl⟩ : ∃ z, y = z + 1 := ⟨y - 1, by omega⟩
    have ey : IntKind.i64.wrap (((z + 1 : Nat) : Int) - 1) = (z : Int) := by rw [wrap_i64 (by omega) (by omega)]; omega
    refine less_step lessint16_ok h6 (i := z + 1) (j := z) rfl ey (by omega) (by omega) (Nat.le_of_eq hs6) fun w7 h7 hm7 => ?_
    rw [shiftDown] at heq6
    refine Br_not (Br_intro (fun hl => ?_) fun hl => ?_)
    · rw [hl] at heq6
      refine swap_step h7 (i := z + 1) (j := z) rfl ey (by omega) (by omega) (Nat.le_of_eq hs6) fun w8 h8 hm8 => ?_
      exact ⟨z, by omega, _, by omega, by rw [ey], h8, by rw [size_swp]; exact hs6, heq6, (hm6.then hm7.to).then hm8⟩
    · rw [hl] at heq6
      have heq6' : d6 = shiftDown ltInt (x - 1) d4 := heq6
      exact hJ1 _ (key _ (heq6' ▸ h7) (hm6.then hm7.to))
  · have : y = 0 := by omega
    subst this
    have heq6' : d6 = shiftDown ltInt (x - 1) d4 := heq6
    exact hJ1 _ (key _ (heq6' ▸ h6) hm6)

end Go.Proofs.YtajfdcbknghipaaGreatDoor
end
