/- The law TransformCondition of the package credencelaw23 answers true at every input and leaves its arguments as they were (Rows.TransformConditionCardSaid); no condition beyond the card's own: the three listed tables stand as the program's text lays them. Part 10 of 25. -/
import Derived.KernelRfl
import Derived.Lib.SlicesCompact
import Derived.Test.YtajfdcbknghipaaGreatDoorW09
import Derived.Test.YtajfdcbknghipaaGreatDoorW04
import Derived.Test.YtajfdcbknghipaaGreatDoorProg
import Derived.Test.YtajfdcbknghipaaGreatDoorW06

section
/- Sorting in place, part five: the pivot, the recursion, the sort. Conditions as stated. -/
namespace Go.Proofs.YtajfdcbknghipaaGreatDoor
open Go Go.Sh Go.Sort

variable {w : World} {b n c : Nat} {d : Array Int} {rest : List Value} {t : TypeId}

theorem order2int16_ok (h : RowA .i16 w b d rest t) (hs : d.size = n) (hn : n < 1152921504606846976) {x y nb : Nat} (hx : x < n) (hy : y < n) {s : Int} {t0 : TypeId} (hb : Blk w nb [.int .i64 s] t0) (hne : b ≠ nb) :
    CallsF Tryz.prog 130 #[.slice (some ⟨b, 0, none⟩) n c, .int .i64 x, .int .i64 y, .pointer (some ⟨nb, 0, none⟩)] w fun e w' =>
      ∃ (x' y' : Nat) (s' : Int), e = .returned (.tuple #[.int .i64 x', .int .i64 y']) ∧ ((x' = x ∧ y' = y) ∨ (x' = y ∧ y' = x)) ∧ RowA .i16 w' b d rest t ∧ Blk w' nb [.int .i64 s'] t0 ∧ Mod (· = nb) w w' := by
  refine C_slices_order2Ordered_int16 _ _ _ _ _ _ _ _ ?_
  refine less_step lessint16_ok h (i := y) (j := x) rfl rfl (by omega) (by omega) (Nat.le_of_eq hs) fun w2 h2 hm2 => ?_
  have hb2 := hb.keep hm2 NoB_notint16
  refine Br_intro (fun hl => ?_) fun hl => ?_
  · refine ⟨_, by rw [hb2.cell]; rfl, canStore_blk hb2 _ 0 rfl (by simp), fun w3 hw3 => ?_⟩
    have hb3 := hw3.blk hb2
    exact ⟨y, x, _, rfl, .inr ⟨rfl, rfl⟩, Blk.keep h2 hw3.mod hne, hb3, hm2.to.then hw3.mod⟩
  · exact ⟨x, y, s, rfl, .inl ⟨rfl, rfl⟩, h2, hb2, hm2.to⟩

theorem medianint16_ok (h : RowA .i16 w b d rest t) (hs : d.size = n) (hn : n < 1152921504606846976) {x y z nb : Nat} (hx : x < n) (hy : y < n) (hz : z < n) {s : Int} {t0 : TypeId} (hb : Blk w nb [.int .i64 s] t0) (hne : b ≠ nb) :
    CallsF Tryz.prog 124 #[.slice (some ⟨b, 0, none⟩) n c, .int .i64 x, .int .i64 y, .int .i64 z, .pointer (some ⟨nb, 0, none⟩)] w fun e w' =>
      ∃ (m : Nat) (s' : Int), e = .returned (.int .i64 m) ∧ (m = x ∨ m = y ∨ m = z) ∧ RowA .i16 w' b d rest t ∧ Blk w' nb [.int .i64 s'] t0 ∧ Mod (· = nb) w w' := by
  refine C_slices_medianOrdered_int16 _ _ _ _ _ _ _ _ _ ?_
  refine (order2int16_ok h hs hn hx hy hb hne).mono ?_
  rintro e w1 ⟨x1, y1, s1, rfl, hxy1, h1, hb1, hm1⟩
  refine ⟨_, _, rfl, ?_⟩
  refine (order2int16_ok h1 hs hn (x := y1) (y := z) (by omega) hz hb1 hne).mono ?_
  rintro e w2 ⟨x2, y2, s2, rfl, hxy2, h2, hb2, hm2⟩
  refine ⟨_, _, rfl, ?_⟩
  refine (order2int16_ok h2 hs hn (x := x1) (y := x2) (by omega) (by omega) hb2 hne).mono ?_
  rintro e w3 ⟨x3, y3, s3, rfl, hxy3, h3, hb3, hm3⟩
  refine ⟨_, _, rfl, y3, s3, rfl, by omega, h3, hb3, (hm1.then hm2).then hm3⟩

theorem medAdjint16_ok (h : RowA .i16 w b d rest t) (hs : d.size = n) (hn : n < 1152921504606846976) {x nb : Nat} (hx0 : 0 < x) (hx : x + 1 < n) {s : Int} {t0 : TypeId} (hb : Blk w nb [.int .i64 s] t0) (hne : b ≠ nb) :
    CallsF Tryz.prog 123 #[.slice (some ⟨b, 0, none⟩) n c, .int .i64 x, .pointer (some ⟨nb, 0, none⟩)] w fun e w' =>
      ∃ (m : Nat) (s' : Int), e = .returned (.int .i64 m) ∧ x - 1 ≤ m ∧ m ≤ x + 1 ∧ RowA .i16 w' b d rest t ∧ Blk w' nb [.int .i64 s'] t0 ∧ Mod (· = nb) w w' := by
  refine C_slices_medianAdjacentOrdered_int16 _ _ _ _ _ _ _ ?_
  unfold S_slices_medianAdjacentOrdered_int16
  have e1 : IntKind.i64.wrap ((x : Int) - 1) = ((x - 1 : Nat) : Int) := by rw [wrap_i64 (by omega) (by omega)]; omega
  have e2 : IntKind.i64.wrap ((x : Int) + 1) = ((x + 1 : Nat) : Int) := by rw [wrap_i64 (by omega) (by omega)]; omega
  rw [e1, e2]
  refine (medianint16_ok h hs hn (x := x - 1) (y := x) (z := x + 1) (by omega) (by omega) hx hb hne).mono ?_
  rintro e w1 ⟨m, s1, rfl, hm, h1, hb1, hm1⟩
  exact ⟨_, rfl, m, s1, rfl, by omega, by omega, h1, hb1, hm1⟩

theorem chooseint16_ok (h : RowA .i16 w b d rest t) (hs : d.size = n) (hn : n < 1152921504606846976) {a e' : Nat} (hae : a < e') (hen : e' ≤ n) :
    CallsF Tryz.prog 112 #[.slice (some ⟨b, 0, none⟩) n c, .int .i64 a, .int .i64 e'] w fun e w' =>
      ∃ (p : Nat) (hint : Int), e = .returned (.tuple #[.int .i64 p, .int .i64 hint]) ∧ a ≤ p ∧ p < e' ∧ RowA .i16 w' b d rest t ∧ Mod NoB w w' := by
  refine C_slices_choosePivotOrdered_int16 _ _ _ _ _ _ _ ?_
  unfold S_slices_choosePivotOrdered_int16
  have e0 : IntKind.i64.wrap ((e' : Int) - (a : Int)) = ((e' - a : Nat) : Int) := by rw [wrap_i64 (by omega) (by omega)]; omega
  rw [e0]
  generalize hl : e' - a = l
  have hq : IntKind.i64.wrap (((l : Nat) : Int).tdiv 4) = ((l / 4 : Nat) : Int) := by
    rw [Int.tdiv_eq_ediv_of_nonneg (by omega), wrap_i64 (by omega) (by omega)]; omega
  rw [hq]
  have hk : ∀ k : Nat, k ≤ 3 → IntKind.i64.wrap ((a : Int) + IntKind.i64.wrap (((l / 4 : Nat) : Int) * (k : Int))) = ((a + l / 4 * k : Nat) : Int) := by
    intro k hk
    have : ((l / 4 : Nat) : Int) * (k : Int) = ((l / 4 * k : Nat) : Int) := by simp
    have h2 : l / 4 * k ≤ l / 4 * 3 := Nat.mul_le_mul_left _ hk
    rw [this, wrap_i64 (n := ((l / 4 * k : Nat) : Int)) (by omega) (by omega), wrap_i64 (by omega) (by omega)]; omega
  have hk1 := hk 1 (by omega); have hk2 := hk 2 (by omega); have hk3 := hk 3 (by omega)
  have c1 : ((1 : Nat) : Int) = 1 := rfl
  have c2 : ((2 : Nat) : Int) = 2 := rfl
  have c3 : ((3 : Nat) : Int) = 3 := rfl
  rw [c1] at hk1; rw [c2] at hk2; rw [c3] at hk3
  rw [hk1, hk2, hk3]
  refine ⟨by omega, by omega, by omega, fun w1 hw1 => ?_⟩
  have hb1 := hw1.blk 0 rfl
  have h1 := h.same hw1.mod
  have hbl : b < w.heap.size := Blk.lt h
  have hne : b ≠ w.heap.size + 0 := by omega
  have new : ∀ w2, Mod (· = w.heap.size + 0) w1 w2 → Mod NoB w w2 := fun w2 hm => hw1.mod.new _ hm fun x hx e => by omega
  intro J hJ
  have fin : ∀ (p : Nat) (s : Int) (w2 : World), a ≤ p → p < e' → RowA .i16 w2 b d rest t → Blk w2 (w.heap.size + 0) [.int .i64 s] 3 → Mod (· = w.heap.size + 0) w1 w2 → J [.int .i64 p] w2 := by
    intro p s w2 hp1 hp2 h2 hb2 hm2
    refine hJ _ _ ⟨s, by rw [hb2.cell]; rfl, ?_⟩
    refine Br_eq (fun _ => ?_) fun _ => Br_eq (fun _ => ?_) fun _ => ?_
    · exact ⟨p, _, rfl, hp1, hp2, h2, new w2 hm2⟩
    · exact ⟨p, _, rfl, hp1, hp2, h2, new w2 hm2⟩
    · exact ⟨p, _, rfl, hp1, hp2, h2, new w2 hm2⟩
  refine Br_dec (fun h8 => ?_) fun h8 => fin _ _ _ (by omega) (by omega) h1 hb1 (Mod.refl _ _)
  intro J1 hJ1
  have fin2 : ∀ (x y z : Nat) (s : Int) (w2 : World), (a ≤ x ∧ x < e') → (a ≤ y ∧ y < e') → (a ≤ z ∧ z < e') → RowA .i16 w2 b d rest t → Blk w2 (w.heap.size + 0) [.int .i64 s] 3 → Mod (· = w.heap.size + 0) w1 w2 → J1 [.int .i64 x, .int .i64 y, .int .i64 z] w2 := by
    intro x y z s w2 hx hy hz h2 hb2 hm2
    refine hJ1 _ _ _ _ ?_
    refine (medianint16_ok h2 hs hn (x := x) (y := y) (z := z) (by omega) (by omega) (by omega) hb2 hne).mono ?_
    rintro e w3 ⟨m, s3, rfl, hm, h3, hb3, hm3⟩
    exact ⟨_, rfl, fin m s3 w3 (by omega) (by omega) h3 hb3 (hm2.then hm3)⟩
  refine Br_dec (fun h50 => ?_) fun h50 => fin2 _ _ _ _ _ (by omega) (by omega) (by omega) h1 hb1 (Mod.refl _ _)
  refine (medAdjint16_ok h1 hs hn (x := a + l / 4 * 1) (by omega) (by omega) hb1 hne).mono ?_
  rintro e w2 ⟨m2, s2, rfl, hl2, hu2, h2, hb2, hm2⟩
  refine ⟨_, rfl, (medAdjint16_ok h2 hs hn (x := a + l / 4 * 2) (by omega) (by omega) hb2 hne).mono ?_⟩
  rintro e w3 ⟨m3, s3, rfl, hl3, hu3, h3, hb3, hm3⟩
  refine ⟨_, rfl, (medAdjint16_ok h3 hs hn (x := a + l / 4 * 3) (by omega) (by omega) hb3 hne).mono ?_⟩
  rintro e w4 ⟨m4, s4, rfl, hl4, hu4, h4, hb4, hm4⟩
  exact ⟨_, rfl, fin2 m2 m3 m4 s4 w4 (by omega) (by omega) (by omega) h4 hb4 ((hm2.then hm3).then hm4)⟩

theorem pdqint16_ok : ∀ (N : Nat) {w : World} {d : Array Int} {a e' : Nat} {lim : Nat}, e' - a ≤ N → RowA .i16 w b d rest t → d.size = n → n < 1152921504606846976 → a ≤ e' → e' ≤ n → lim < 1152921504606846976 → Sort.Below ltInt a e' d →
    CallsF Tryz.prog 101 #[.slice (some ⟨b, 0, none⟩) n c, .int .i64 a, .int .i64 e', .int .i64 lim] w fun e w' =>
      e = .returned (.tuple #[]) ∧ ∃ R, PermIn a e' d R ∧ SortedIn ltInt a e' R ∧ RowA .i16 w' b R rest t ∧ Mod (· = b) w w' := by
  intro N
  induction N with
  | zero => ?_
  | succ N IH => ?_
  all_goals
    intro w d a e' lim hN h hs hn hae hen hlim hB
    refine C_slices_pdqsortOrdered_int16 _ _ _ _ _ _ _ _ ?_
    refine ⟨fun m vs w' => ∃ (li a1 e1 : Nat) (b1 b2 : Bool) (d' : Array Int), m = e1 - a1 ∧ a ≤ a1 ∧ a1 ≤ e1 ∧ e1 ≤ e' ∧ li < 1152921504606846976 ∧ vs = [.int .i64 li, .bool b1, .int .i64 a1, .bool b2, .int .i64 e1] ∧ RowA .i16 w' b d' rest t ∧ d'.size = n ∧ Sort.Below ltInt a1 e1 d' ∧
      (∀ R, PermIn a1 e1 d' R → SortedIn ltInt a1 e1 R → PermIn a e' d R ∧ SortedIn ltInt a e' R) ∧ Mod (· = b) w w',
      ⟨_, lim, a, e', true, true, d, rfl, Nat.le_refl _, hae, Nat.le_refl _, hlim, rfl, h, hs, hB, fun R h1 h2 => ⟨h1, h2⟩, Mod.refl _ _⟩, ?_⟩
    rintro m li' b1' a1' b2' e1' w1 ⟨li, a1, e1, b1, b2, d1, rfl, ha1, hae1, he1, hli, hvs, h1, hs1, hB1, hfin, hm1⟩
    simp only [List.cons.injEq, Value.int.injEq, Value.bool.injEq, true_and, and_true] at hvs
    obtain ⟨rfl, rfl, rfl, rfl, rfl⟩ := hvs
    intro J hJ
    have e0 : IntKind.i64.wrap ((e1 : Int) - (a1 : Int)) = ((e1 - a1 : Nat) : Int) := by rw [wrap_i64 (by omega) (by omega)]; omega
    rw [e0]
    refine Br_dec (fun h12 => ?_) fun h12 => ?_
    · refine (insint16_ok h1 hs1 hn hae1 (by omega)).mono ?_
      rintro e w2 ⟨rfl, h2, hm2⟩
      obtain ⟨p1, p2⟩ := insertionSort_holds (lt := ltInt) swo_ltInt d1 a1 e1 hae1 (by omega)
      obtain ⟨q1, q2⟩ := hfin _ p1 p2
      exact ⟨rfl, rfl, _, q1, q2, h2, hm1.then hm2⟩
    refine Br_eq (fun hz => ?_) fun hz => ?_
    · refine (heapint16_ok h1 hs1 hn hae1 (by omega)).mono ?_
      rintro e w2 ⟨rfl, h2, hm2⟩
      obtain ⟨p1, p2⟩ := heapSort_holds (lt := ltInt) swo_ltInt d1 a1 e1 hae1 (by omega)
      obtain ⟨q1, q2⟩ := hfin _ p1 p2
      exact ⟨rfl, rfl, _, q1, q2, h2, hm1.then hm2⟩
    have hli0 : li ≠ 0 := by omega
    intro J1 hJ1
    -- behind the patterns
    have part : ∀ (li2 : Nat) (d2 : Array Int) (w2 : World), li2 < 1152921504606846976 → RowA .i16 w2 b d2 rest t → PermIn a1 e1 d1 d2 → Mod (· = b) w w2 → J1 [.int .i64 li2] w2 := by
      intro li2 d2 w2 hli2 h2 hp2 hm2
      have hs2 : d2.size = n := by rw [hp2.1]; exact hs1
      have hB2 : Sort.Below ltInt a1 e1 d2 := hB1.perm (by omega) hp2
      refine hJ1 _ _ ?_
      refine (chooseint16_ok h2 hs2 hn (a := a1) (e' := e1) (by omega) (by omega)).mono ?_
      rintro e w3 ⟨p, hint, rfl, hp3, hp4, h3, hm3⟩
      refine ⟨_, _, rfl, ?_⟩
      intro J2 hJ2
      have piv : ∀ (p : Nat) (hint : Int) (d4 : Array Int) (w4 : World), a1 ≤ p → p < e1 → RowA .i16 w4 b d4 rest t → PermIn a1 e1 d1 d4 → Mod (· = b) w w4 → J2 [.int .i64 p, .int .i64 hint] w4 := by
        intro p hint d4 w4 hp3 hp4 h4 hpm4 hm4
        have hs4 : d4.size = n := by rw [hpm4.1]; exact hs1
        have hB4 : Sort.Below ltInt a1 e1 d4 := hB1.perm (by omega) hpm4
        refine hJ2 _ _ _ ?_
        intro J3 hJ3
        have rest3 : ∀ (bb : Bool) (w5 : World), w5 = w4 → J3 [.bool bb] w5 := by
          rintro bb w5 rfl
          refine hJ3 _ _ ?_
          intro J4 hJ4
          have main : ∀ (d6 : Array Int) (w6 : World), RowA .i16 w6 b d6 rest t → PermIn a1 e1 d1 d6 → Mod (· = b) w w6 → J4 [] w6 := by
            intro d6 w6 h6 hpm6 hm6
            have hs6 : d6.size = n := by rw [hpm6.1]; exact hs1
            have hB6 : Sort.Below ltInt a1 e1 d6 := hB1.perm (by omega) hpm6
            refine hJ4 _ ?_
            intro J5 hJ5
            have dopart : ∀ w7, RowA .i16 w7 b d6 rest t → Mod (· = b) w w7 → J5 [.bool false] w7 := by
              intro w7 h7 hm7
              refine hJ5 _ _ (Br_false rfl ?_)
              refine (partint16_ok h7 hs6 hn hp3 hp4 (by omega)).mono ?_
              rintro e w8 ⟨ap, rfl, h8, hm8⟩
              generalize hx : partition ltInt d6 a1 e1 p = r at h8
              obtain ⟨mid, ap', d8⟩ := r
              obtain ⟨r1, r2, r3, r4, r5, r6, r7⟩ := round_part swo_ltInt (partition_holds (lt := ltInt)) hp3 hp4 (by omega) hB6 hx
              have hs8 : d8.size = n := by rw [r3]; exact hs6
              refine ⟨_, _, rfl, by omega, ?_⟩
              intro J6 hJ6
              have em1 : IntKind.i64.wrap ((mid : Int) - (a1 : Int)) = ((mid - a1 : Nat) : Int) := by rw [wrap_i64 (by omega) (by omega)]; omega
              have em2 : IntKind.i64.wrap ((e1 : Int) - (mid : Int)) = ((e1 - mid : Nat) : Int) := by rw [wrap_i64 (by omega) (by omega)]; omega
              have em3 : IntKind.i64.wrap ((mid : Int) + 1) = ((mid + 1 : Nat) : Int) := by rw [wrap_i64 (by omega) (by omega)]; omega
              have hm8' : Mod (· = b) w w8 := hm7.then hm8
              show Br (decide (IntKind.i64.wrap ((mid : Int) - (a1 : Int)) < IntKind.i64.wrap ((e1 : Int) - (mid : Int)))) _ _
              rw [em1, em2, em3]
              first
              | omega
              | refine Br_dec (fun hlt => ?_) fun hge => ?_
                · refine (IH (by omega) h8 hs8 hn r1 (by omega) hli2 r4).mono ?_
                  rintro e w9 ⟨rfl, L, p9, q9, h9, hm9⟩
                  obtain ⟨r8, r9⟩ := r6 L p9 q9
                  refine ⟨rfl, hJ6 _ _ _ _ (hJ _ _ _ _ _ _ ⟨e1 - (mid + 1), by omega, li2, mid + 1, e1, _, _, L, rfl, by omega, by omega, he1, hli2, rfl, h9, by rw [p9.1]; exact hs8, r8, fun R h1 h2 => ?_, hm8'.then hm9⟩)⟩
                  obtain ⟨t1, t2⟩ := r9 R h1 h2
                  exact hfin R (permIn_trans _ _ _ a1 e1 hpm6 t1) t2
                · refine (IH (by omega) h8 hs8 hn (a := mid + 1) (by omega) (by omega) hli2 r5).mono ?_
                  rintro e w9 ⟨rfl, L, p9, q9, h9, hm9⟩
                  obtain ⟨r8, r9⟩ := r7 L p9 q9
                  refine ⟨rfl, hJ6 _ _ _ _ (hJ _ _ _ _ _ _ ⟨mid - a1, by omega, li2, a1, mid, _, _, L, rfl, by omega, by omega, by omega, hli2, rfl, h9, by rw [p9.1]; exact hs8, r8, fun R h1 h2 => ?_, hm8'.then hm9⟩)⟩
                  obtain ⟨t1, t2⟩ := r9 R h1 h2
                  exact hfin R (permIn_trans _ _ _ a1 e1 hpm6 t1) t2
            refine Br_dec (fun ha0 => ?_) fun ha0 => dopart _ (h6.same (drew_mod _)) (hm6.then (drew_mod _).to)
            have ea : IntKind.i64.wrap ((a1 : Int) - 1) = ((a1 - 1 : Nat) : Int) := by rw [wrap_i64 (by omega) (by omega)]; omega
            refine less_step lessint16_ok h6 (i := a1 - 1) (j := p) ea rfl (by omega) (by omega) (Nat.le_of_eq hs6) fun w7 h7 hm7 => ?_
            have hm7' : Mod (· = b) w w7 := hm6.then hm7.to
            cases hless : ltInt d6[a1 - 1]! d6[p]! with
            | true => exact dopart w7 h7 hm7'
            | false =>
              refine hJ5 _ _ (Br_true rfl ?_)
              refine (peqint16_ok h7 hs6 hn hp3 hp4 (by omega)).mono ?_
              rintro e w8 ⟨rfl, h8, hm8⟩
              generalize hx : partitionEqual ltInt d6 a1 e1 p = r at h8
              obtain ⟨mid, d8⟩ := r
              obtain ⟨r1, r2, r3, r4, r5⟩ := round_eq swo_ltInt (partitionEqual_holds (lt := ltInt)) (by omega) hp3 hp4 (by omega) hB6 hless hx
              refine ⟨_, rfl, hJ _ _ _ _ _ _ ⟨e1 - mid, by omega, li2, mid, e1, _, _, d8, rfl, by omega, r2, he1, hli2, rfl, h8, by rw [r3]; exact hs6, r4, fun R h1 h2 => ?_, hm7'.then hm8⟩⟩
              obtain ⟨t1, t2⟩ := r5 R h1 h2
              exact hfin R (permIn_trans _ _ _ a1 e1 hpm6 t1) t2
          refine Br_intro (fun _ => ?_) fun _ => main d4 w5 h4 hpm4 hm4
          refine (pinsint16_ok h4 hs4 hn (a := a1) (e' := e1) (by omega) (by omega)).mono ?_
          rintro e w6 ⟨rfl, h6, hm6⟩
          obtain ⟨p1, p2⟩ := partialInsertionSort_holds (lt := ltInt) swo_ltInt d4 a1 e1 (by omega) (by omega) hB4
          refine ⟨_, rfl, Br_intro (fun hdone => ?_) fun _ => main _ w6 h6 (permIn_trans _ _ _ a1 e1 hpm4 p1) (hm4.then hm6)⟩
          obtain ⟨q1, q2⟩ := hfin _ (permIn_trans _ _ _ a1 e1 hpm4 p1) (p2 hdone)
          exact ⟨rfl, _, q1, q2, h6, hm4.then hm6⟩
        refine Br_intro (fun _ => Br_intro (fun _ => rest3 _ _ rfl) fun _ => rest3 _ _ rfl) fun _ => rest3 _ _ rfl
      have hm3' : Mod (· = b) w w3 := hm2.then hm3.to
      refine Br_eq (fun _ => ?_) fun _ => piv p hint d2 w3 hp3 hp4 h3 hp2 hm3'
      refine (revint16_ok h3 hs2 hn (a := a1) (e' := e1) (by omega) (by omega)).mono ?_
      rintro e w4 ⟨rfl, h4, hm4⟩
      have hrev := reverseRange_holds d2 a1 e1 hae1 (by omega)
      have ep : IntKind.i64.wrap (IntKind.i64.wrap ((e1 : Int) - 1) - IntKind.i64.wrap ((p : Int) - (a1 : Int))) = ((e1 - 1 - (p - a1) : Nat) : Int) := by
        rw [wrap_i64 (n := (e1 : Int) - 1) (by omega) (by omega), wrap_i64 (n := (p : Int) - (a1 : Int)) (by omega) (by omega), wrap_i64 (by omega) (by omega)]; omega
      rw [ep]
      exact ⟨rfl, piv _ _ _ w4 (by omega) (by omega) h4 (permIn_trans _ _ _ a1 e1 hp2 hrev) (hm3'.then hm4)⟩
    refine Br_not (Br_intro (fun _ => ?_) fun _ => ?_)
    · exact part li d1 w1 hli h1 (permIn_refl _ _ _) hm1
    · refine (brkint16_ok h1 hs1 hn hae1 (by omega)).mono ?_
      rintro e w2 ⟨rfl, d2, hp2, h2, hm2⟩
      have el : IntKind.i64.wrap ((li : Int) - 1) = ((li - 1 : Nat) : Int) := by rw [wrap_i64 (by omega) (by omega)]; omega
      rw [el]
      exact ⟨rfl, part (li - 1) d2 w2 (by omega) h2 hp2 (hm1.then hm2)⟩

end Go.Proofs.YtajfdcbknghipaaGreatDoor
end

section
/- Sorting in place, part six: the sort of a slice that the caller owns. No condition but its length. -/
namespace Go.Proofs.YtajfdcbknghipaaGreatDoor
open Go Go.Sh Go.Sort

variable {w : World} {t : TypeId}

theorem insNilint16_ok (p : Option Addr) (c : Nat) (w : World) : CallsF Tryz.prog 109 #[.slice p 0 c, .int .i64 0, .int .i64 0] w (Ret (.tuple #[]) NoB w) := by
  refine C_slices_insertionSortOrdered_int16 _ _ _ _ _ _ _ ?_
  refine ⟨fun _ vs w' => vs = [.int .i64 1] ∧ w' = w, ⟨0, rfl, rfl⟩, ?_⟩
  rintro m ii w1 ⟨hvs, rfl⟩
  simp only [List.cons.injEq, Value.int.injEq, true_and, and_true] at hvs
  subst hvs
  exact Br_false rfl ⟨rfl, Mod.refl _ _⟩
theorem pdqNilint16_ok (p : Option Addr) (c : Nat) (lim : Int) (w : World) : CallsF Tryz.prog 101 #[.slice p 0 c, .int .i64 0, .int .i64 0, .int .i64 lim] w (Ret (.tuple #[]) NoB w) := by
  refine C_slices_pdqsortOrdered_int16 _ _ _ _ _ _ _ _ ?_
  refine ⟨fun _ vs w' => vs = [.int .i64 lim, .bool true, .int .i64 0, .bool true, .int .i64 0] ∧ w' = w, ⟨0, rfl, rfl⟩, ?_⟩
  rintro m li b1 a1 b2 e1 w1 ⟨hvs, rfl⟩
  simp only [List.cons.injEq, Value.int.injEq, Value.bool.injEq, true_and, and_true] at hvs
  obtain ⟨rfl, rfl, rfl, rfl, rfl⟩ := hvs
  intro J hJ
  refine Br_true rfl ?_
  refine (insNilint16_ok p c w1).mono ?_
  rintro e w2 ⟨rfl, hm⟩
  exact ⟨rfl, rfl, hm⟩

theorem sortint16_ok {p : Option Addr} {n c : Nat} {l : List Int} (h : Own w t 1 p n c (l.map (Value.int .i16))) (hn : n < 1152921504606846976) :
    CallsF Tryz.prog 80 #[.slice p n c] w fun e w' => e = .returned (.tuple #[]) ∧ ∃ l' : List Int, l'.Perm l ∧ l'.Pairwise (· ≤ ·) ∧ Own w' t 1 p n c (l'.map (Value.int .i16)) ∧ Mod (At p) w w' := by
  have hl : l.length = n := by have := h.len; simpa using this
  refine C_slices_Sort_int16_int16 _ _ _ _ _ ?_
  unfold S_slices_Sort_int16_int16
  rw [wrap_u64 (by omega) (by omega)]
  refine (lenint16_ok n hn w).mono ?_
  rintro e w1 ⟨rfl, rfl⟩
  refine ⟨_, rfl, ?_⟩
  by_cases hz : n = 0
  · subst hz
    have hl0 : l = [] := List.eq_nil_of_length_eq_zero hl
    subst hl0
    refine (pdqNilint16_ok p c _ w1).mono ?_
    rintro e w2 ⟨rfl, hm⟩
    exact ⟨rfl, rfl, [], List.Perm.refl _, List.Pairwise.nil, h.keep hm fun _ _ => NoB_notint16, hm.to⟩
  rcases h.form with ⟨_, h0, _⟩ | ⟨g, rest, rfl, hb, h2, h3, h4⟩
  · exact absurd h0 hz
  have hrow : RowA .i16 w1 g l.toArray rest t := by unfold RowA; simpa using hb
  have hlim : Lib.bitLen n < 1152921504606846976 := by
    have h1 := bitLenAux_leint16 64 n (by omega)
    have h5 : Lib.bitLen n ≤ 60 := pow_gtint16 h1 (by omega)
    omega
  refine (pdqint16_ok (b := g) (rest := rest) (t := t) (n := n) (c := c) (n - 0) (Nat.le_refl _) hrow (by simpa using hl) hn (Nat.zero_le _) (Nat.le_refl _) hlim (.inl rfl)).mono ?_
  rintro e w2 ⟨rfl, R, hp, hsrt, hr, hm⟩
  have hRs : R.size = n := by rw [hp.1]; simpa using hl
  refine ⟨rfl, rfl, R.toList, ?_, ?_, ?_, hm.mono fun x _ hx => ⟨_, rfl, hx.symm⟩⟩
  · have := hp.2.2
    have e1 : R.extract 0 n = R := by rw [← hRs]; exact Array.extract_size
    have e2 : l.toArray.extract 0 n = l.toArray := by
      have : n = l.toArray.size := by simpa using hl.symm
      rw [this]; exact Array.extract_size
    rw [e1, e2] at this
    simpa using this
  · rw [List.pairwise_iff_getElem]
    intro i j hi hj hij
    have hi' : i < R.size := by simpa using hi
    have hj' : j < R.size := by simpa using hj
    have := hsrt i j (Nat.zero_le _) hij (by omega)
    simp only [ltInt, decide_eq_false_iff_not] at this
    rw [getElem!_pos R i hi', getElem!_pos R j hj'] at this
    simp only [Array.getElem_toList]
    omega
  · have hr' : Blk w2 g (R.toList.map (Value.int .i16) ++ rest) t := hr
    refine Own.of_blk hr' h2 h3 ?_ (by simpa using hRs)
    simp only [List.length_append, List.length_map, Array.length_toList] at h4 ⊢
    omega

end Go.Proofs.YtajfdcbknghipaaGreatDoor
end

section
/- The walks of some functions, as propositions on memory. Written by a program. No condition. -/
namespace Go.Proofs.YtajfdcbknghipaaGreatDoor
open Go Go.Sh
set_option maxRecDepth 100000
theorem A1GLmixed : Tryz.prog.follows .mixedOrders = true := by kernel_rfl
/-- slices.Clone[[]int,int] -/
def S_slices_Clone_int_int (x : Option Addr) (xn : Nat) (xc : Nat) (w : World) (R : Ending → World → Prop) : Prop :=
 Br x.isNone (R (Ending.returned (Value.slice none (0 : Nat) (0 : Nat))) w) (∀ (w1 : World), Ext w [OB.cells [] (3 : Nat)] w1 → ∃ (w1_1 : World), ∃ (p : Option Addr), ∃ (n : Nat), ∃ (c : Nat), Sem.run Tryz.prog (Builtin.append_ (Array.mk [(25 : Nat), (25 : Nat)]) (25 : Nat) (Array.mk [Value.slice (some (Addr.mk (w.heap.size + (0 : Nat)) (0 : Nat) none)) (0 : Nat) (0 : Nat), Value.slice x xn xc])) w1 = Result.ok (Value.slice p n c) w1_1 ∧ R (Ending.returned (Value.slice p n c)) w1_1)
theorem E_slices_Clone_int_int (x : Option Addr) (xn : Nat) (xc : Nat) (w : World) (R : Ending → World → Prop) : shFn Tryz.prog Tryz.f78.ntmps Tryz.f78.results.toList (Tryz.f78.body.getD .skip) [Value.slice x xn xc] w R = S_slices_Clone_int_int x xn xc w R := by kernel_rfl
theorem C_slices_Clone_int_int (x : Option Addr) (xn : Nat) (xc : Nat) (w : World) (R : Ending → World → Prop) (h : S_slices_Clone_int_int x xn xc w R) : CallsF Tryz.prog 78 #[Value.slice x xn xc] w R :=
 ⟨Tryz.call78, calls_of_sh A1GLmixed Tryz.func78 rfl (Nat.le_of_ble_eq_true rfl) ((E_slices_Clone_int_int x xn xc w R).mpr h)⟩

/-- slices.Compact[[]int,int] -/
def S_slices_Compact_int_int (x : Option Addr) (xn : Nat) (xc : Nat) (w : World) (R : Ending → World → Prop) : Prop :=
 Br (decide ((↑xn : Int) < (2 : Int))) (R (Ending.returned (Value.slice x xn xc)) w) (∃ (I : Nat → List Value → World → Prop), (∃ (n : Nat), I n [Value.slice none (0 : Nat) (0 : Nat), Value.int IntKind.i64 (1 : Int)] w) ∧ ∀ (n : Nat) (p : Option Addr) (n_1 c : Nat) (n_2 : Int) (w1 : World), I n [Value.slice p n_1 c, Value.int IntKind.i64 n_2] w1 → Br (decide (n_2 < (↑xn : Int))) (optP x fun (a : Addr) => ((0 : Int) ≤ n_2 ∧ n_2 < (↑xn : Int)) ∧ ∃ (n_3 : Int), w1.drew.cell? (a.add (n_2.toNat * (1 : Nat))) = some (Value.int IntKind.i64 n_3) ∧ optP x fun (a : Addr) => ((0 : Int) ≤ IntKind.i64.wrap (n_2 - (1 : Int)) ∧ IntKind.i64.wrap (n_2 - (1 : Int)) < (↑xn : Int)) ∧ ∃ (n_4 : Int), w1.drew.cell? (a.add ((IntKind.i64.wrap (n_2 - (1 : Int))).toNat * (1 : Nat))) = some (Value.int IntKind.i64 n_4) ∧ Br (n_3 == n_4) (((0 : Int) ≤ n_2 ∧ n_2 ≤ (↑xn : Int)) ∧ ∃ (I : Nat → List Value → World → Prop), (∃ (n : Nat), I n [Value.int IntKind.i64 n_2, Value.int IntKind.i64 (1 : Int)] w1.drew) ∧ ∀ (n : Nat) (n_5 n_6 : Int) (w1 : World), I n [Value.int IntKind.i64 n_5, Value.int IntKind.i64 n_6] w1 → Br (decide (n_6 < (↑(xn - n_2.toNat) : Int))) (optP (sliceA x xc n_2.toNat (1 : Nat)) fun (a : Addr) => ((0 : Int) ≤ n_6 ∧ n_6 < (↑(xn - n_2.toNat) : Int)) ∧ ∃ (n_7 : Int), w1.drew.cell? (a.add (n_6.toNat * (1 : Nat))) = some (Value.int IntKind.i64 n_7) ∧ optP (sliceA x xc n_2.toNat (1 : Nat)) fun (a : Addr) => ((0 : Int) ≤ IntKind.i64.wrap (n_6 - (1 : Int)) ∧ IntKind.i64.wrap (n_6 - (1 : Int)) < (↑(xn - n_2.toNat) : Int)) ∧ ∃ (n_8 : Int), w1.drew.cell? (a.add ((IntKind.i64.wrap (n_6 - (1 : Int))).toNat * (1 : Nat))) = some (Value.int IntKind.i64 n_8) ∧ ∀ (J : List Value → World → Prop), (∀ (n_9 : Int) (w1 : World), (∃ (n' : Nat), n' < n ∧ I n' [Value.int IntKind.i64 n_9, Value.int IntKind.i64 (IntKind.i64.wrap (n_6 + (1 : Int)))] w1) → J [Value.int IntKind.i64 n_9] w1) → Br (n_7 != n_8) (optP (sliceA x xc n_2.toNat (1 : Nat)) fun (a : Addr) => ((0 : Int) ≤ n_6 ∧ n_6 < (↑(xn - n_2.toNat) : Int)) ∧ ∃ (n : Int), w1.drew.cell? (a.add (n_6.toNat * (1 : Nat))) = some (Value.int IntKind.i64 n) ∧ optP x fun (a : Addr) => ((0 : Int) ≤ n_5 ∧ n_5 < (↑xn : Int)) ∧ CanStore w1.drew (a.add (n_5.toNat * (1 : Nat))) (0 : Nat) [Value.int IntKind.i64 n] ∧ ∀ (w1_1 : World), SetC w1.drew (a.add (n_5.toNat * (1 : Nat))) [Value.int IntKind.i64 n] w1_1 → J [Value.int IntKind.i64 (IntKind.i64.wrap (n_5 + (1 : Int)))] w1_1) (J [Value.int IntKind.i64 n_5] w1.drew)) (((0 : Int) ≤ n_5 ∧ n_5 ≤ (↑xn : Int)) ∧ ∃ (w1_1 : World), ∃ (v : Value), Sem.run Tryz.prog (Builtin.clear_ (Array.mk [(25 : Nat)]) (0 : Nat) (Array.mk [Value.slice (sliceA x xc n_5.toNat (1 : Nat)) (xn - n_5.toNat) (xc - n_5.toNat)])) w1 = Result.ok v w1_1 ∧ ((0 : Int) ≤ n_5 ∧ n_5 ≤ (↑xc : Int)) ∧ R (Ending.returned (Value.slice (sliceA x xc (0 : Nat) (1 : Nat)) (n_5.toNat - (0 : Nat)) (xc - (0 : Nat)))) w1_1)) (∃ (n' : Nat), n' < n ∧ I n' [Value.slice p n_1 c, Value.int IntKind.i64 (IntKind.i64.wrap (n_2 + (1 : Int)))] w1.drew)) (R (Ending.returned (Value.slice x xn xc)) w1))
theorem E_slices_Compact_int_int (x : Option Addr) (xn : Nat) (xc : Nat) (w : World) (R : Ending → World → Prop) : shFn Tryz.prog Tryz.f29.ntmps Tryz.f29.results.toList (Tryz.f29.body.getD .skip) [Value.slice x xn xc] w R = S_slices_Compact_int_int x xn xc w R := by kernel_rfl
theorem C_slices_Compact_int_int (x : Option Addr) (xn : Nat) (xc : Nat) (w : World) (R : Ending → World → Prop) (h : S_slices_Compact_int_int x xn xc w R) : CallsF Tryz.prog 29 #[Value.slice x xn xc] w R :=
 ⟨Tryz.call29, calls_of_sh A1GLmixed Tryz.func29 rfl (Nat.le_of_ble_eq_true rfl) ((E_slices_Compact_int_int x xn xc w R).mpr h)⟩

/-- slices.BinarySearch[[]int,int] -/
def S_slices_BinarySearch_int_int (x : Option Addr) (xn : Nat) (xc : Nat) (y : Int) (w : World) (R : Ending → World → Prop) : Prop :=
 ∃ (I : Nat → List Value → World → Prop), (∃ (n : Nat), I n [Value.int IntKind.i64 (0 : Int), Value.int IntKind.i64 (↑xn : Int)] w) ∧ ∀ (n : Nat) (n_1 n_2 : Int) (w1 : World), I n [Value.int IntKind.i64 n_1, Value.int IntKind.i64 n_2] w1 → Br (decide (n_1 < n_2)) ((0 : Int) ≤ (1 : Int) ∧ optP x fun (a : Addr) => ((0 : Int) ≤ IntKind.i64.wrap (shrV IntKind.u64 (IntKind.u64.wrap (IntKind.i64.wrap (n_1 + n_2))) (1 : Int)) ∧ IntKind.i64.wrap (shrV IntKind.u64 (IntKind.u64.wrap (IntKind.i64.wrap (n_1 + n_2))) (1 : Int)) < (↑xn : Int)) ∧ ∃ (n_3 : Int), w1.cell? (a.add ((IntKind.i64.wrap (shrV IntKind.u64 (IntKind.u64.wrap (IntKind.i64.wrap (n_1 + n_2))) (1 : Int))).toNat * (1 : Nat))) = some (Value.int IntKind.i64 n_3) ∧ CallsF Tryz.prog (71 : Nat) (Array.mk [Value.int IntKind.i64 n_3, Value.int IntKind.i64 y]) w1 fun (e : Ending) (w : World) => ∃ (b : Bool), e = Ending.returned (Value.bool b) ∧ ∀ (J : List Value → World → Prop), (∀ (n_4 n_5 : Int) (w1 : World), (∃ (n' : Nat), n' < n ∧ I n' [Value.int IntKind.i64 n_4, Value.int IntKind.i64 n_5] w1) → J [Value.int IntKind.i64 n_4, Value.int IntKind.i64 n_5] w1) → Br b (J [Value.int IntKind.i64 (IntKind.i64.wrap (IntKind.i64.wrap (shrV IntKind.u64 (IntKind.u64.wrap (IntKind.i64.wrap (n_1 + n_2))) (1 : Int)) + (1 : Int))), Value.int IntKind.i64 n_2] w) (J [Value.int IntKind.i64 n_1, Value.int IntKind.i64 (IntKind.i64.wrap (shrV IntKind.u64 (IntKind.u64.wrap (IntKind.i64.wrap (n_1 + n_2))) (1 : Int)))] w)) (∀ (J : List Value → World → Prop), (∀ (n : Int) (b : Bool) (w1 : World), R (Ending.returned (Value.tuple #[Value.int IntKind.i64 n, Value.bool b])) w1 → J [Value.int IntKind.i64 n, Value.bool b] w1) → Br (decide (n_1 < (↑xn : Int))) (optP x fun (a : Addr) => ((0 : Int) ≤ n_1 ∧ n_1 < (↑xn : Int)) ∧ ∃ (n : Int), w1.cell? (a.add (n_1.toNat * (1 : Nat))) = some (Value.int IntKind.i64 n) ∧ Br (n == y) (J [Value.int IntKind.i64 n_1, Value.bool true] w1) (optP x fun (a : Addr) => ((0 : Int) ≤ n_1 ∧ n_1 < (↑xn : Int)) ∧ ∃ (n : Int), w1.cell? (a.add (n_1.toNat * (1 : Nat))) = some (Value.int IntKind.i64 n) ∧ CallsF Tryz.prog (100 : Nat) (Array.mk [Value.int IntKind.i64 n]) w1 fun (e : Ending) (w : World) => ∃ (b : Bool), e = Ending.returned (Value.bool b) ∧ Br b (CallsF Tryz.prog (100 : Nat) (Array.mk [Value.int IntKind.i64 y]) w fun (e : Ending) (w : World) => ∃ (b : Bool), e = Ending.returned (Value.bool b) ∧ J [Value.int IntKind.i64 n_1, Value.bool b] w) (J [Value.int IntKind.i64 n_1, Value.bool false] w))) (J [Value.int IntKind.i64 n_1, Value.bool false] w1))
theorem E_slices_BinarySearch_int_int (x : Option Addr) (xn : Nat) (xc : Nat) (y : Int) (w : World) (R : Ending → World → Prop) : shFn Tryz.prog Tryz.f79.ntmps Tryz.f79.results.toList (Tryz.f79.body.getD .skip) [Value.slice x xn xc, Value.int IntKind.i64 y] w R = S_slices_BinarySearch_int_int x xn xc y w R := by kernel_rfl
theorem C_slices_BinarySearch_int_int (x : Option Addr) (xn : Nat) (xc : Nat) (y : Int) (w : World) (R : Ending → World → Prop) (h : S_slices_BinarySearch_int_int x xn xc y w R) : CallsF Tryz.prog 79 #[Value.slice x xn xc, Value.int IntKind.i64 y] w R :=
 ⟨Tryz.call79, calls_of_sh A1GLmixed Tryz.func79 rfl (Nat.le_of_ble_eq_true rfl) ((E_slices_BinarySearch_int_int x xn xc y w R).mpr h)⟩


end Go.Proofs.YtajfdcbknghipaaGreatDoor
end

section
/- Ascending lists of numbers: sorting, uniqueness. Plain Lean, no program. -/
namespace Go.Fm

/-- Strictly ascending lists with the same members are the same. -/
theorem asc_unique : ∀ {l l' : List Int}, l.Pairwise (· < ·) → l'.Pairwise (· < ·) → (∀ x, x ∈ l ↔ x ∈ l') → l = l'
  | [], [], _, _, _ => rfl
  | [], y :: l', _, _, h => by have := (h y).2 List.mem_cons_self; cases this
  | x :: l, [], _, _, h => by have := (h x).1 List.mem_cons_self; cases this
  | x :: l, y :: l', h1, h2, h => by
    rw [List.pairwise_cons] at h1 h2
    have hxy : x = y := by
      have hx := (h x).1 List.mem_cons_self
      have hy := (h y).2 List.mem_cons_self
      rcases List.mem_cons.1 hx with rfl | hx
      · rfl
      rcases List.mem_cons.1 hy with rfl | hy
      · rfl
      have a := h2.1 x hx
      have b := h1.1 y hy
      omega
    subst hxy
    congr 1
    refine asc_unique h1.2 h2.2 fun z => ⟨fun hz => ?_, fun hz => ?_⟩
    · rcases List.mem_cons.1 ((h z).1 (List.mem_cons_of_mem _ hz)) with rfl | h'
      · have := h1.1 z hz; omega
      · exact h'
    · rcases List.mem_cons.1 ((h z).2 (List.mem_cons_of_mem _ hz)) with rfl | h'
      · have := h2.1 z hz; omega
      · exact h'

theorem compact_asc (l : List Int) (h : l.Pairwise (· ≤ ·)) : (Lib.compact l).Pairwise (· < ·) ∧ ∀ x, x ∈ Lib.compact l ↔ x ∈ l := by
  have key : ∀ m, m ≤ l.length → (Lib.compactUpTo l.toArray m).Pairwise (· < ·) ∧ (∀ x, x ∈ Lib.compactUpTo l.toArray m ↔ x ∈ l.take m) := by
    intro m
    induction m with
    | zero => intro _; simp [Lib.compactUpTo]
    | succ m ih =>
      intro hm
      obtain ⟨ih1, ih2⟩ := ih (by omega)
      have hml : m < l.length := by omega
      have hget : l.toArray[m]! = l[m] := by rw [getElem!_pos _ _ (by simpa using hml)]; simp
      rw [Lib.compactUpTo_succ]
      have htake : l.take (m + 1) = l.take m ++ [l[m]] := List.take_succ_eq_append_getElem hml
      by_cases hk : Lib.keeps l.toArray m = true
      · rw [if_pos hk, hget]
        refine ⟨?_, fun x => ?_⟩
        · rw [List.pairwise_append]
          refine ⟨ih1, List.pairwise_singleton _ _, fun x hx y hy => ?_⟩
          have hy' : y = l[m] := by simpa using hy
          subst hy'
          have hx' := (ih2 x).1 hx
          obtain ⟨i, hi⟩ := List.getElem?_of_mem hx'
          have him : i < m := by
            have := (List.getElem?_eq_some_iff.1 hi).1
            simp at this; omega
          rw [List.getElem?_take_of_lt him] at hi
          have hil : i < l.length := by omega
          have hxi : x = l[i] := by
            rw [List.getElem?_eq_getElem hil] at hi
            injection hi with hi; exact hi.symm
          subst hxi
          rw [List.pairwise_iff_getElem] at h
          have hm0 : 0 < m := by omega
          have h1 : l[i] ≤ l[m - 1] := by
            rcases Nat.lt_or_ge i (m - 1) with h' | h'
            · exact h i (m - 1) hil (by omega) h'
            · have : i = m - 1 := by omega
              subst this; exact Int.le_refl _
          have h2 : l[m - 1] ≤ l[m] := h (m - 1) m (by omega) hml (by omega)
          have h3 : l[m] ≠ l[m - 1] := by
            intro e
            have : Lib.keeps l.toArray m = false := by
              refine Lib.keeps_neg hm0 ?_
              rw [hget, getElem!_pos _ _ (by simp; omega)]
              simpa using e
            rw [this] at hk; cases hk
          omega
        · rw [htake, List.mem_append, List.mem_append, ih2]
      · rw [if_neg hk, List.append_nil, htake]
        refine ⟨ih1, fun x => ?_⟩
        rw [ih2, List.mem_append]
        refine ⟨.inl, fun hx => ?_⟩
        rcases hx with hx | hx
        · exact hx
        · have hx' : x = l[m] := by simpa using hx
          subst hx'
          have hm0 : 0 < m := by
            rcases Nat.eq_zero_or_pos m with h0 | h0
            · subst h0; exact absurd (Lib.keeps_lt_one _ 0 (by omega)) hk
            · exact h0
          have he : l[m] = l[m - 1] := by
            rcases Classical.em (l[m] = l[m - 1]) with h' | h'
            · exact h'
            · refine absurd (Lib.keeps_pos ?_) hk
              rw [hget, getElem!_pos _ _ (by simp; omega)]
              simpa using h'
          rw [he]
          exact List.mem_of_getElem? (i := m - 1) (by rw [List.getElem?_take_of_lt (by omega)]; exact List.getElem?_eq_getElem (by omega))
  have := key l.length (Nat.le_refl _)
  rw [List.take_length] at this
  exact this

end Go.Fm
end

section
/- The library's functions on slices of ints, as contracts on memory. No condition but the lengths. -/
namespace Go.Proofs.YtajfdcbknghipaaGreatDoor
open Go Go.Sh Go.Fm

variable {w : World} {t : TypeId} {p : Option Addr} {n c : Nat} {l : List Int}

theorem ownInts_len (h : Own w t 1 p n c (ints l)) : n = l.length := by have := h.len; simpa [ints] using this.symm

theorem clone_ok (hr : Row w p (ints l)) (hn : l.length ≤ 1000000000) :
    CallsF Tryz.prog 78 #[.slice p l.length c] w fun e w' => ∃ p' c', e = .returned (.slice p' l.length c') ∧ Own w' 3 1 p' l.length c' (ints l) ∧ Mod NoB w w' ∧ ∀ b, At p' b → w.heap.size ≤ b := by
  have hmax : maxLen = 9223372036854775807 := rfl
  refine C_slices_Clone_int_int _ _ _ _ _ ?_
  refine Br_intro (fun hnil => ?_) fun hsome => ?_
  · cases p with
    | some a => cases hnil
    | none =>
      rcases hr with h0 | ⟨a, ha, _⟩
      · have : l = [] := by unfold ints at h0; simpa using h0
        subst this
        exact ⟨none, 0, rfl, Own.none _ _ _, Mod.refl _ _, fun b ⟨a, ha, _⟩ => by cases ha⟩
      · cases ha
  · intro w1 hw1
    have hb1 : Own w1 3 1 (some ⟨w.heap.size + 0, 0, none⟩) 0 0 [] := Own.fresh hw1 0 1 0 rfl rfl (Nat.zero_le _)
    have hr1 : Row w1 p (ints l) := hr.keep hw1.mod fun _ _ h => h
    obtain ⟨p', c', w2, hrun, hown, hm, hat⟩ := append_own elem_int hb1 hr1 (m := l.length) (mc := c) (by simp [ints]) (by intro u hu; unfold ints at hu; obtain ⟨x, _, rfl⟩ := List.mem_map.1 hu; rfl) (by rw [hmax]; omega) (by omega)
    rw [Nat.zero_add, List.nil_append] at hown
    rw [Nat.zero_add] at hrun
    have hsz := hw1.size
    refine ⟨w2, p', _, c', hrun, p', c', rfl, hown, hw1.mod.new _ hm fun x hx ⟨a, ha, hab⟩ => ?_, fun b hb => ?_⟩
    · injection ha with ha; subst ha; subst hab; simp at hx
    · rcases hat b hb with ⟨a, ha, hab⟩ | h'
      · injection ha with ha; subst ha; subst hab; simp
      · simp at hsz; omega

theorem sortI_ok (h : Own w t 1 p n c (ints l)) (hn : n < 1152921504606846976) :
    CallsF Tryz.prog 28 #[.slice p n c] w fun e w' => e = .returned (.tuple #[]) ∧ ∃ l' : List Int, l'.Perm l ∧ l'.Pairwise (· ≤ ·) ∧ Own w' t 1 p n c (ints l') ∧ Mod (At p) w w' := by
  have hl := ownInts_len h
  refine ⟨Tryz.call28, ?_⟩
  by_cases hz : n = 0
  · subst hz
    have hl0 : l = [] := List.eq_nil_of_length_eq_zero hl.symm
    subst hl0
    refine (Tryz.slices_Sort_int_none p c w).mono ?_
    rintro e w' ⟨rfl, rfl⟩
    exact ⟨rfl, [], List.Perm.refl _, List.Pairwise.nil, h, Mod.refl _ _⟩
  rcases h.form with ⟨_, h0, _⟩ | ⟨g, rest, rfl, hb, h2, h3, h4⟩
  · exact absurd h0 hz
  obtain ⟨hH, hlt, _⟩ := h.holds
  subst hl
  refine (Tryz.slices_Sort_int g 0 c l w hH hlt (by omega)).mono ?_
  rintro e w' ⟨rfl, q, os, hw'⟩
  have hperm := List.mergeSort_perm l (fun x y => decide (x ≤ y))
  obtain ⟨ho, hm⟩ := h.sorted (ts := l.mergeSort fun x y => decide (x ≤ y)) (by simp) hw'
  refine ⟨rfl, _, hperm, ?_, ho, hm⟩
  have := List.pairwise_mergeSort (le := fun x y : Int => decide (x ≤ y)) (fun a b c h1 h2 => by simp at h1 h2 ⊢; omega) (fun a b => by simp; omega) l
  exact this.imp fun h => by simp at h; exact h

theorem compact_ok (h : Own w t 1 p n c (ints l)) (hn : n < 1152921504606846976) :
    CallsF Tryz.prog 29 #[.slice p n c] w fun e w' => e = .returned (.slice p (Lib.compact l).length c) ∧ Own w' t 1 p (Lib.compact l).length c (ints (Lib.compact l)) ∧ Mod (At p) w w' := by
  have hl := ownInts_len h
  refine ⟨Tryz.call29, ?_⟩
  by_cases hz : n = 0
  · subst hz
    have hl0 : l = [] := List.eq_nil_of_length_eq_zero hl.symm
    subst hl0
    refine (Tryz.slices_Compact_int_empty p c w).mono ?_
    rintro e w' ⟨rfl, rfl⟩
    exact ⟨rfl, h, Mod.refl _ _⟩
  rcases h.form with ⟨_, h0, _⟩ | ⟨g, rest, rfl, hb, h2, h3, h4⟩
  · exact absurd h0 hz
  obtain ⟨hH, hlt, _⟩ := h.holds
  subst hl
  refine (Tryz.slices_Compact_int g 0 c l w hH (by omega) h2).mono ?_
  rintro e w' ⟨rfl, q, hw'⟩
  have hle := Lib.compact_length_le l
  have hw2 : w' = Sort.grow (Sort.putRow (Value.int .i64) (Sort.ahead w q) g 0 (Lib.compact l ++ List.replicate (l.length - (Lib.compact l).length) 0).toArray) #[] := by rw [Sort.grow_empty]; exact hw'
  obtain ⟨ho, hm⟩ := h.sorted (ts := Lib.compact l ++ List.replicate (l.length - (Lib.compact l).length) 0) (by simp; omega) hw2
  rw [List.map_append] at ho
  have ho2 := ho.shrink
  rw [List.length_map] at ho2
  exact ⟨rfl, ho2, hm⟩

theorem bsearch_ok (h : Own w t 1 p n c (ints l)) (hs : l.Pairwise (· ≤ ·)) (hn : n < 1152921504606846976) (x : Int) :
    CallsF Tryz.prog 79 #[.slice p n c, .int .i64 x] w fun e w' => ∃ k : Int, e = .returned (.tuple #[.int .i64 k, .bool (l.contains x)]) ∧ Mod NoB w w' := by
  have hl := ownInts_len h
  refine ⟨Tryz.call79, ?_⟩
  by_cases hz : n = 0
  · subst hz
    have hl0 : l = [] := List.eq_nil_of_length_eq_zero hl.symm
    subst hl0
    refine (Tryz.slices_BinarySearch_int_empty p c x w).mono ?_
    rintro e w' ⟨rfl, rfl⟩
    exact ⟨0, rfl, Mod.refl _ _⟩
  rcases h.form with ⟨_, h0, _⟩ | ⟨g, rest, rfl, hb, h2, h3, h4⟩
  · exact absurd h0 hz
  subst hl
  have htk : l.take l.length = l := List.take_length
  refine (Tryz.slices_BinarySearch_int g 0 l.length c l x w (Nat.le_refl _) (by omega) ?_ (by rw [htk]; exact hs)).mono ?_
  · intro j hj
    rw [Nat.zero_add, hb.cell, List.getElem?_append_left (by simpa [ints] using hj)]
    unfold ints
    rw [List.getElem?_map, List.getElem?_eq_getElem hj]
    simp [List.getD, List.getElem?_eq_getElem hj]
  · rintro e w' ⟨rfl, q, rfl⟩
    rw [htk]
    exact ⟨_, rfl, ⟨rfl, rfl, rfl, Nat.le_refl _, fun _ _ _ => rfl⟩⟩

end Go.Proofs.YtajfdcbknghipaaGreatDoor
end
