/- The law TransformCondition of the package credencelaw23 answers true at every input and leaves its arguments as they were (Rows.TransformConditionCardSaid); no condition beyond the card's own: the three listed tables stand as the program's text lays them. Part 19 of 25. -/
import Derived.Lib.ItoaNum
import Derived.Laws.BytesArg
import Derived.Test.YtajfdcbknghipaaGreatDoorW04
import Derived.Test.YtajfdcbknghipaaGreatDoorW13
import Derived.Test.YtajfdcbknghipaaGreatDoorW18
import Derived.Test.YtajfdcbknghipaaGreatDoorW14
import Derived.Test.YtajfdcbknghipaaGreatDoorW11

section
/- The text of a node, as a key: different nodes have different texts. Plain Lean. -/
namespace Go.Fm
open Go.Lib

theorem digit_range {i : Nat} (h : i < 10) : (UInt8.ofNat (48 + i)).toNat = 48 + i := by
  rw [UInt8.toNat_ofNat']; omega
theorem decDigits_ge : ∀ (u : Nat), ∀ x ∈ decDigits u, 48 ≤ x.toNat := by
  intro u
  induction u using Nat.strongRecOn with
  | ind u ih =>
    intro x hx
    rw [decDigits] at hx
    split at hx
    · rename_i h
      have : x = UInt8.ofNat (48 + u) := by simpa using hx
      rw [this, digit_range h]; omega
    · rename_i h
      rcases List.mem_append.1 hx with hx | hx
      · exact ih (u / 10) (by omega) x hx
      · have : x = UInt8.ofNat (48 + u % 10) := by simpa using hx
        rw [this, digit_range (by omega)]; omega
theorem decDigits_ne (u : Nat) : decDigits u ≠ [] := by
  rw [decDigits]; split <;> simp
theorem decDigits_inj : ∀ (u v : Nat), decDigits u = decDigits v → u = v := by
  intro u
  induction u using Nat.strongRecOn with
  | ind u ih =>
    intro v h
    rw [decDigits, decDigits.eq_1 v] at h
    split at h <;> split at h
    · rename_i h1 h2
      have := congrArg (fun l => (l.headD 0).toNat) h
      simp only [List.headD_cons, digit_range h1, digit_range h2] at this
      omega
    · rename_i h1 h2
      have := congrArg List.length h
      have hl : 0 < (decDigits (v / 10)).length := List.length_pos_iff.2 (decDigits_ne _)
      simp only [List.length_append, List.length_cons, List.length_nil] at this; omega
    · rename_i h1 h2
      have := congrArg List.length h
      have hl : 0 < (decDigits (u / 10)).length := List.length_pos_iff.2 (decDigits_ne _)
      simp only [List.length_append, List.length_cons, List.length_nil] at this; omega
    · rename_i h1 h2
      obtain ⟨h3, h4⟩ := List.append_inj' h rfl
      have h5 := ih (u / 10) (by omega) (v / 10) h3
      have := congrArg (fun l => (l.headD 0).toNat) h4
      simp only [List.headD_cons, digit_range (show u % 10 < 10 by omega), digit_range (show v % 10 < 10 by omega)] at this
      omega
theorem itoa_ge (n : Int) : ∀ x ∈ itoa n, 45 ≤ x.toNat := by
  intro x hx
  unfold itoa at hx
  split at hx
  · rcases List.mem_cons.1 hx with rfl | hx
    · decide
    · have := decDigits_ge _ x hx; omega
  · have := decDigits_ge _ x hx; omega
theorem itoa_inj {m n : Int} (h : itoa m = itoa n) : m = n := by
  have hd : ∀ u r, decDigits u = 45 :: r → False := by
    intro u r he
    have := decDigits_ge u 45 (by rw [he]; exact List.mem_cons_self)
    revert this; decide
  unfold itoa at h
  split at h <;> split at h
  · simp only [List.cons.injEq, true_and] at h
    have := decDigits_inj _ _ h; omega
  · exact (hd _ _ h.symm).elim
  · exact (hd _ _ h).elim
  · have := decDigits_inj _ _ h; omega

/-- The inputs, each with a blank ahead. -/
def tailB (l : List Int) : List UInt8 := l.flatMap fun x => 32 :: itoa x
def keyB (k b a : Int) (l : List Int) : List UInt8 := itoa k ++ tailB (b :: a :: l)
theorem no32 {l : List UInt8} (h : ∀ x ∈ l, 45 ≤ x.toNat) : (32 : UInt8) ∉ l := fun hm => by have := h 32 hm; revert this; decide
theorem split32 : ∀ {a b : List UInt8} {r s : List UInt8}, (32 : UInt8) ∉ a → (32 : UInt8) ∉ b → (r = [] ∨ ∃ r', r = 32 :: r') → (s = [] ∨ ∃ s', s = 32 :: s') → a ++ r = b ++ s → a = b ∧ r = s
  | [], [], _, _, _, _, _, _, h => ⟨rfl, h⟩
  | [], y :: b, r, s, _, hb, hr, _, h => by
    rcases hr with rfl | ⟨r', rfl⟩
    · simp at h
    · simp only [List.nil_append, List.cons_append, List.cons.injEq] at h
      exact absurd (by rw [h.1]; exact List.mem_cons_self) hb
  | x :: a, [], r, s, ha, _, _, hs, h => by
    rcases hs with rfl | ⟨s', rfl⟩
    · simp at h
    · simp only [List.nil_append, List.cons_append, List.cons.injEq] at h
      exact absurd (by rw [← h.1]; exact List.mem_cons_self) ha
  | x :: a, y :: b, r, s, ha, hb, hr, hs, h => by
    simp only [List.cons_append, List.cons.injEq] at h
    obtain ⟨h1, h2⟩ := split32 (fun hm => ha (List.mem_cons_of_mem _ hm)) (fun hm => hb (List.mem_cons_of_mem _ hm)) hr hs h.2
    exact ⟨by rw [h.1, h1], h2⟩
theorem tailB_form (l : List Int) : tailB l = [] ∨ ∃ r, tailB l = 32 :: r := by
  cases l with
  | nil => exact .inl rfl
  | cons x l => exact .inr ⟨_, rfl⟩
theorem tailB_inj : ∀ {l m : List Int}, tailB l = tailB m → l = m
  | [], [], _ => rfl
  | [], y :: m, h => by simp [tailB] at h
  | x :: l, [], h => by simp [tailB] at h
  | x :: l, y :: m, h => by
    have h1 : itoa x ++ tailB l = itoa y ++ tailB m := by
      have : (32 : UInt8) :: (itoa x ++ tailB l) = 32 :: (itoa y ++ tailB m) := by simpa [tailB] using h
      exact (List.cons.inj this).2
    obtain ⟨h2, h3⟩ := split32 (no32 (itoa_ge x)) (no32 (itoa_ge y)) (tailB_form l) (tailB_form m) h1
    rw [itoa_inj h2, tailB_inj h3]
theorem keyB_inj {k b a k' b' a' : Int} {l l' : List Int} (h : keyB k b a l = keyB k' b' a' l') : k = k' ∧ b = b' ∧ a = a' ∧ l = l' := by
  obtain ⟨h1, h2⟩ := split32 (no32 (itoa_ge k)) (no32 (itoa_ge k')) (tailB_form _) (tailB_form _) h
  have h3 := tailB_inj h2
  simp only [List.cons.injEq] at h3
  exact ⟨itoa_inj h1, h3.1, h3.2.1, h3.2.2⟩

end Go.Fm
end

section
/- The reference's key of a node. Conditions on memory as stated. -/
namespace Go.Proofs.YtajfdcbknghipaaGreatDoor
open Go Go.Sh Go.Fm Go.RowKit

variable {w : World} {B : Nat}

/-- The table that strconv reads, below B. -/
def TabB (B : Nat) (w : World) : Prop := Lib.TabBelow Tryz.prog B w "internal/strconv.uint64pow10" .u64 Lib.pow10Tab
theorem mod_below {B : Nat} {w w' : World} (h : Mod (fun b => B ≤ b) w w') (hB : B ≤ w.heap.size) : Below B w w' := ⟨h.os, h.tape, h.output, h.size, fun k hk => h.keep k (by omega) (by omega)⟩
theorem below_mod {B : Nat} {w w' : World} (h : Below B w w') : Mod (fun b => B ≤ b) w w' := ⟨h.os, h.tape, h.output, h.size, fun b _ hn => h.block b (by omega)⟩
theorem TabB.keep {fp : Nat → Prop} {w' : World} (h : TabB B w) (hB : B ≤ w.heap.size) (hm : Mod fp w w') (hf : ∀ b, fp b → B ≤ b) : TabB B w' :=
  Lib.TabBelow.on h (mod_below (hm.mono fun b _ hb => hf b hb) hB)
theorem TabB.up {B1 : Nat} (h : TabB B w) (h1 : B ≤ B1) : TabB B1 w := fun w' hb => h w' ⟨hb.os, hb.tape, hb.output, hb.size, fun k hk => hb.block k (by omega)⟩

theorem elem_u8 : ElemOK Tryz.prog 135 5 1 1 (.int .u8 0) := elem_of (by kernel_rfl) (by kernel_rfl) rfl (by decide)

theorem appendInt_ok (hT : TabB B w) (hB : B ≤ w.heap.size) {p : Option Addr} {n c : Nat} {xs : List Value} (ho : Own w 5 1 p n c xs) (hp : ∀ b, At p b → B ≤ b) (hn : n ≤ 1000000000) {i : Int} (h0 : -9223372036854775808 ≤ i) (h1 : i ≤ 9223372036854775807) :
    CallsF Tryz.prog 81 #[.slice p n c, .int .i64 i, .int .i64 10] w fun e w' => ∃ p' c', e = .returned (.slice p' (n + (Lib.itoa i).length) c') ∧ Own w' 5 1 p' (n + (Lib.itoa i).length) c' (xs ++ Lib.byteCells (Lib.itoa i)) ∧ (∀ b, At p' b → B ≤ b) ∧ Mod (fun b => B ≤ b) w w' := by
  refine ⟨Tryz.call81, ?_⟩
  refine (Tryz.strconv_AppendInt_10 B n i h0 h1 _ xs w (ho.base hp) hB (by omega) hT).mono ?_
  rintro e w' ⟨v', rfl, hown, hbel, _⟩
  obtain ⟨p', c', rfl, ho', hp'⟩ := own_of_base hown
  exact ⟨p', c', rfl, ho', hp', below_mod hbel⟩

/-- The bytes of a list lie in a slice of the call's own, above B. -/
def OwnU (B : Nat) (w : World) (p : Option Addr) (c : Nat) (l : List UInt8) : Prop := Own w 5 1 p l.length c (Lib.byteCells l) ∧ ∀ b, At p b → B ≤ b
theorem OwnU.int {p : Option Addr} {c : Nat} {l : List UInt8} (h : OwnU B w p c l) (hT : TabB B w) (hB : B ≤ w.heap.size) (hn : l.length ≤ 1000000000) {i : Int} (h0 : -9223372036854775808 ≤ i) (h1 : i ≤ 9223372036854775807) :
    CallsF Tryz.prog 81 #[.slice p l.length c, .int .i64 i, .int .i64 10] w fun e w' => ∃ p' c', e = .returned (.slice p' (l ++ Lib.itoa i).length c') ∧ OwnU B w' p' c' (l ++ Lib.itoa i) ∧ Mod (fun b => B ≤ b) w w' := by
  refine (appendInt_ok hT hB h.1 h.2 hn h0 h1).mono ?_
  rintro e w' ⟨p', c', rfl, ho, hp, hm⟩
  refine ⟨p', c', by rw [List.length_append], ⟨?_, hp⟩, hm⟩
  rw [List.length_append, Lib.byteCells_append]; exact ho
theorem OwnU.blank {p : Option Addr} {c : Nat} {l : List UInt8} (h : OwnU B w p c l) (hB : B ≤ w.heap.size) (hn : l.length ≤ 1000000000) {w1 : World} (hw1 : Ext w [OB.cells [.int .u8 32] 5] w1) :
    ∃ w2 p' c', (Builtin.append_ #[135, 135] 135 #[.slice p l.length c, .slice (some ⟨w.heap.size + 0, 0, none⟩) 1 1]).run Tryz.prog w1 = .ok (.slice p' (l.length + 1) c') w2 ∧ OwnU B w2 p' c' (l ++ [32]) ∧ Mod (fun b => B ≤ b) w w2 := by
  obtain ⟨w2, p', c', h1, h2, h3, h4⟩ := append_one (ty := 135) elem_u8 h.1 (vs := [.int .u8 32]) rfl (by intro u hu; simp only [List.mem_singleton] at hu; subst hu; rfl) (by omega) (by omega) hw1
  refine ⟨w2, p', c', h1, ⟨?_, fun b hb => ?_⟩, h3.mono fun b _ hb => h.2 b hb⟩
  · rw [List.length_append, Lib.byteCells_append]; exact h2
  · rcases h4 b hb with h' | h'
    · exact h.2 b h'
    · omega
theorem OwnU.str {p : Option Addr} {c : Nat} {l : List UInt8} (h : OwnU B w p c l) : (convert 135 9 (.slice p l.length c)).run Tryz.prog w = .ok (.string ⟨l.toArray⟩) w := by
  have hs : Tryz.prog.underlying 135 = some (.slice 5) := by kernel_rfl
  have he : Tryz.prog.underlying 5 = some (.int .u8) := by kernel_rfl
  have hd : Tryz.prog.underlying 9 = some .string := by kernel_rfl
  rcases h.1.form with ⟨rfl, h0, _, _⟩ | ⟨g, rest, rfl, hb, _, _, _⟩
  · have : l = [] := List.eq_nil_of_length_eq_zero h0
    subst this
    rw [run_convert_bytes_nil w _ _ hs he _ _ _ hd]; rfl
  · have := run_convert_bytes_arg (P := Tryz.prog) w _ _ hs he g 0 l.length c (l.map fun (b : UInt8) => (b.toNat : Int)) (by simp) (fun i hi => by
      rw [Nat.zero_add, hb.cell, List.getElem?_append_left (by rw [Lib.byteCells_length]; exact hi)]
      unfold Lib.byteCells
      simp [List.getD, List.getElem?_eq_getElem hi]) _ hd
    rw [this]
    have e : (l.map fun (b : UInt8) => (b.toNat : Int)).map (fun n => UInt8.ofNat n.toNat) = l := by
      rw [List.map_map]
      conv => rhs; rw [← List.map_id l]
      exact List.map_congr_left fun x _ => by simp
    unfold strOfNums
    rw [e]

end Go.Proofs.YtajfdcbknghipaaGreatDoor
end

section
/- The reference's key of a node, as a contract. Conditions on memory as stated. -/
namespace Go.Proofs.YtajfdcbknghipaaGreatDoor
open Go Go.Sh Go.Fm Go.RowKit

variable {w : World} {B : Nat}

theorem nDigits_le (u : Nat) : Lib.nDigits u ≤ u + 1 := by
  induction u using Nat.strongRecOn with
  | ind u ih =>
    by_cases h : u < 10
    · rw [Lib.nDigits_small h]; omega
    · rw [Lib.nDigits_big h]
      have := ih (u / 10) (by omega)
      omega
theorem itoa_len {n : Int} (h0 : -30000 ≤ n) (h1 : n ≤ 30000) : (Lib.itoa n).length ≤ 30002 := by
  unfold Lib.itoa
  split
  · rw [List.length_cons, Lib.decDigits_length]
    have := nDigits_le n.natAbs
    omega
  · rw [Lib.decDigits_length]
    have := nDigits_le n.toNat
    omega
theorem tailB_snoc (l : List Int) (x : Int) : tailB (l ++ [x]) = tailB l ++ [32] ++ Lib.itoa x := by simp [tailB]
theorem tailB_len : ∀ (l : List Int), (∀ x ∈ l, -30000 ≤ x ∧ x ≤ 30000) → (tailB l).length ≤ l.length * 30003
  | [], _ => by simp [tailB]
  | x :: l, h => by
    have h1 := tailB_len l fun y hy => h y (List.mem_cons_of_mem _ hy)
    have h2 := h x List.mem_cons_self
    have h3 := itoa_len h2.1 h2.2
    have e : tailB (x :: l) = (32 :: Lib.itoa x) ++ tailB l := by simp [tailB]
    rw [e, List.length_append, List.length_cons, List.length_cons, Nat.succ_mul]
    omega

theorem key_ok (hT : TabB B w) (hB : B ≤ w.heap.size) {k b a : Int} (hk : -30000 ≤ k ∧ k ≤ 30000) (hb : -30000 ≤ b ∧ b ≤ 30000) (ha : -30000 ≤ a ∧ a ≤ 30000) {p : Option Addr} {c : Nat} {l : List Int} (hr : Row w p (ints l)) (hl : l.length ≤ 30000) (hx : ∀ x ∈ l, -30000 ≤ x ∧ x ≤ 30000) :
    CallsF Tryz.prog 61 #[.agg #[.int .i64 k, .int .i64 b, .int .i64 a, .slice p l.length c]] w fun e w' => e = .returned (.string ⟨(keyB k b a l).toArray⟩) ∧ Mod NoB w w' := by
  refine C_credenceref22_key _ _ _ _ _ _ _ _ ?_
  intro w1 hw1
  have hbx := hw1.blk 0 rfl
  have hs1 := hw1.size
  simp only [List.length_cons, List.length_nil] at hs1
  -- everything new lies above the node's own block
  have hB1 : B ≤ w1.heap.size := by omega
  have hT1 : TabB w1.heap.size w1 := (hT.keep hB hw1.mod fun _ h => h.elim).up hB1
  have fin : ∀ w2, Mod (fun b => w1.heap.size ≤ b) w1 w2 → Mod NoB w w2 := fun w2 hm => hw1.mod.new _ hm fun x hx h => by omega
  have hTk : ∀ w2, Mod (fun b => w1.heap.size ≤ b) w1 w2 → TabB w1.heap.size w2 := fun w2 hm => hT1.keep (Nat.le_refl _) hm fun _ h => h
  have hcell : ∀ w2, Mod (fun b => w1.heap.size ≤ b) w1 w2 → ∀ j, w2.cell? ((⟨w.heap.size + 0, 0, none⟩ : Addr).add j) = ([Value.int .i64 k, .int .i64 b, .int .i64 a, .slice p l.length c] : List Value)[j]? := by
    intro w2 hm j
    rw [own_add, (hbx.keep hm (by omega)).cell, Nat.zero_add]
  have hrow : ∀ w2, Mod (fun b => w1.heap.size ≤ b) w1 w2 → Row w2 p (ints l) := by
    intro w2 hm
    exact hr.keep (fin w2 hm) fun _ _ h => h
  have r1 : Mod (fun b => w1.heap.size ≤ b) w1 w1 := Mod.refl _ _
  have i1 := itoa_len hk.1 hk.2
  have i2 := itoa_len hb.1 hb.2
  have i3 := itoa_len ha.1 ha.2
  have ho0 : OwnU w1.heap.size w1 none 0 [] := ⟨Own.none _ _ _, fun b ⟨x, hx, _⟩ => by cases hx⟩
  refine (ho0.int hT1 (Nat.le_refl _) (by simp) (by omega) (by omega)).mono ?_
  rintro e w2 ⟨p2, c2, rfl, ho2, hm2⟩
  rw [List.nil_append] at ho2 ⊢
  have hm2d := hm2.then (drew_mod w2).to
  refine ⟨p2, _, c2, rfl, b, hcell _ hm2d 1, ?_⟩
  intro w3 hw3
  have hm3 := hm2d.then hw3.mod.to
  have ho2d : OwnU w1.heap.size w2.drew p2 c2 (Lib.itoa k) := ⟨ho2.1.keep (drew_mod w2) fun _ _ h => h, ho2.2⟩
  refine ⟨hcell _ hm3 1, ?_⟩
  obtain ⟨w4, p4, c4, hrun4, ho4, hm4⟩ := ho2d.blank (Nat.le_trans hm2.size (drew_mod w2).size) (by omega) hw3
  have hm4' := hm2d.then hm4
  refine ⟨w4, p4, _, c4, hrun4, hcell _ hm4' 1, ?_⟩
  have hl4 : (Lib.itoa k ++ [32]).length = (Lib.itoa k).length + 1 := by simp
  rw [← hl4]
  refine (ho4.int (hTk _ hm4') hm4'.size (by omega) (by omega) (by omega)).mono ?_
  rintro e w5 ⟨p5, c5, rfl, ho5, hm5⟩
  have hm5' := hm4'.then hm5
  have hm5d := hm5'.then (drew_mod w5).to
  have hl5 : (Lib.itoa k ++ [32] ++ Lib.itoa b).length ≤ 60005 := by rw [List.length_append, hl4]; omega
  refine ⟨p5, _, c5, rfl, a, hcell _ hm5d 2, ?_⟩
  intro w6 hw6
  have hm6 := hm5d.then hw6.mod.to
  have ho5d : OwnU w1.heap.size w5.drew p5 c5 (Lib.itoa k ++ [32] ++ Lib.itoa b) := ⟨ho5.1.keep (drew_mod w5) fun _ _ h => h, ho5.2⟩
  refine ⟨hcell _ hm6 2, ?_⟩
  obtain ⟨w7, p7, c7, hrun7, ho7, hm7⟩ := ho5d.blank (Nat.le_trans hm5'.size (drew_mod w5).size) (by omega) hw6
  have hm7' := hm5d.then hm7
  refine ⟨w7, p7, _, c7, hrun7, hcell _ hm7' 2, ?_⟩
  have hl7 : (Lib.itoa k ++ [32] ++ Lib.itoa b ++ [32]).length = (Lib.itoa k ++ [32] ++ Lib.itoa b).length + 1 := List.length_append
  rw [← hl7]
  refine (ho7.int (hTk _ hm7') hm7'.size (by omega) (by omega) (by omega)).mono ?_
  rintro e w8 ⟨p8, c8, rfl, ho8, hm8⟩
  have hm8' := hm7'.then hm8
  have e0 : Lib.itoa k ++ [32] ++ Lib.itoa b ++ [32] ++ Lib.itoa a = keyB k b a [] := by simp [keyB, tailB]
  rw [e0] at ho8 ⊢
  have hkl : ∀ m, m ≤ l.length → (keyB k b a (l.take m)).length ≤ 930000000 := by
    intro m hm
    unfold keyB
    rw [List.length_append]
    have h1 := tailB_len (b :: a :: l.take m) (fun x hxm => by
      rcases List.mem_cons.1 hxm with rfl | hxm
      · exact hb
      rcases List.mem_cons.1 hxm with rfl | hxm
      · exact ha
      exact hx x (List.mem_of_mem_take hxm))
    have h2 : (b :: a :: l.take m).length ≤ 30002 := by simp only [List.length_cons, List.length_take]; omega
    have h3 : (b :: a :: l.take m).length * 30003 ≤ 30002 * 30003 := Nat.mul_le_mul_right _ h2
    have h4 : 30002 * 30003 = 900150006 := by decide
    omega
  refine ⟨p8, _, c8, rfl, p, l.length, c, hcell _ hm8' 3, ?_⟩
  refine ⟨fun m vs w' => ∃ (i : Nat) (q : Option Addr) (cq : Nat), m = l.length - i ∧ i ≤ l.length ∧ vs = [.slice q (keyB k b a (l.take i)).length cq, .int .i64 i] ∧ OwnU w1.heap.size w' q cq (keyB k b a (l.take i)) ∧ Mod (fun b => w1.heap.size ≤ b) w1 w',
    ⟨_, 0, p8, c8, rfl, Nat.zero_le _, rfl, ho8, hm8'⟩, ?_⟩
  rintro m q n' cq i' w9 ⟨i, q', cq', rfl, hi, hvs, hoq, hm9⟩
  simp only [List.cons.injEq, Value.int.injEq, Value.slice.injEq, true_and, and_true] at hvs
  obtain ⟨⟨rfl, rfl, rfl⟩, rfl⟩ := hvs
  have hki := hkl i hi
  refine Br_dec (fun hlt => ?_) fun hge => ?_
  · have hi' : i < l.length := by omega
    have hv : l[i]? = some l[i] := List.getElem?_eq_getElem hi'
    have hvr := hx _ (List.getElem_mem hi')
    have htake : l.take (i + 1) = l.take i ++ [l[i]] := List.take_succ_eq_append_getElem hi'
    generalize l[i] = v at hv hvr htake
    obtain ⟨ap, hpa, hcp⟩ := (hrow _ hm9).at (i := i) (v := .int .i64 v) (by rw [ints_get, hv]; rfl)
    rw [hpa]
    refine ⟨⟨by omega, by omega⟩, v, by rw [Int.toNat_natCast, Nat.mul_one]; exact hcp, ?_⟩
    intro w10 hw10
    obtain ⟨w11, p11, c11, hrun, ho11, hm11⟩ := hoq.blank hm9.size (by omega) hw10
    have hm11' := hm9.then hm11
    refine ⟨w11, p11, _, c11, hrun, ?_⟩
    have hl11 : (keyB k b a (l.take i) ++ [32]).length = (keyB k b a (l.take i)).length + 1 := List.length_append
    rw [← hl11]
    refine (ho11.int (hTk _ hm11') hm11'.size (by omega) (by omega) (by omega)).mono ?_
    rintro e w12 ⟨p12, c12, rfl, ho12, hm12⟩
    have ek : keyB k b a (l.take (i + 1)) = keyB k b a (l.take i) ++ [32] ++ Lib.itoa v := by
      unfold keyB
      rw [htake, ← List.cons_append, ← List.cons_append, tailB_snoc, List.append_assoc, List.append_assoc, List.append_assoc]
    rw [← ek] at ho12 ⊢
    exact ⟨p12, _, c12, rfl, l.length - (i + 1), by omega, i + 1, p12, c12, rfl, hi', by rw [wrap_i64 (by omega) (by omega)]; rfl, ho12, hm11'.then hm12⟩
  · have : i = l.length := by omega
    subst this
    rw [List.take_length] at hoq ⊢
    exact ⟨w9, _, hoq.str, rfl, fin w9 hm9⟩

end Go.Proofs.YtajfdcbknghipaaGreatDoor
end

section
/- The reference store in memory. Conditions on memory as stated. -/
namespace Go.Proofs.YtajfdcbknghipaaGreatDoor
open Go Go.Sh Go.Fm Go.RowKit

variable {w : World} {B : Nat} {s : Addr} {L : List Nd}

theorem beqB (a b : List UInt8) : ((⟨a.toArray⟩ : ByteArray) == ⟨b.toArray⟩) = decide (a = b) := by
  show (a.toArray == b.toArray) = _
  rw [Bool.eq_iff_iff, decide_eq_true_iff, beq_iff_eq]
  constructor
  · intro h; simpa using h
  · rintro rfl; rfl
def encS (l : List UInt8) : Value := .string ⟨l.toArray⟩
theorem key_str : KeyOK Tryz.prog 98 9 3 .string encS := by
  refine ⟨by kernel_rfl, by kernel_rfl, fun a b => ?_, fun e k w => ?_, fun a => ?_⟩
  · unfold Instr.sameNow encS
    exact congrArg some (beqB a b)
  · have hu : Tryz.prog.underlying 9 = some .string := by kernel_rfl
    unfold Instr.checkKey
    simp only [Sem.run_bind, run_underlying hu, Result.andThen_ok]
    rfl
  · unfold Instr.sameBits encS
    exact (beqB a a).trans (decide_eq_true rfl)

/-- The parts of a reference store in memory. -/
structure RD where
  bs : Nat
  r : Nat
  pl : Option Addr
  cl : Nat
  F : List FNode
def RD.fp (d : RD) : Nat → Prop := fun b => b = d.bs ∨ b = d.r ∨ At d.pl b
/-- All blocks that the store reads. -/
def RD.all (d : RD) : Nat → Prop := fun b => d.fp b ∨ ∃ x ∈ d.F, At x.p b
def ndKey (n : Nd) : List UInt8 := keyB n.kind n.block n.alt (natI n.ins)
def keysOf (L : List Nd) : List (List UInt8 × Value) := L.zipIdx.map fun p => (ndKey p.1, .int .i64 (p.2 : Nat))
structure RefM (w : World) (s : Addr) (L : List Nd) (d : RD) : Prop where
  addr : s = ⟨d.bs, 0, none⟩
  hdr : Blk w d.bs [.slice d.pl L.length d.cl, .map (some d.r)] 100
  nodes : Own w 58 4 d.pl L.length d.cl (d.F.flatMap FNode.cells)
  eq : d.F.map FNode.nd = L
  nat : ∀ x ∈ d.F, ∀ v ∈ x.ins, 0 ≤ v
  ins : ∀ x ∈ d.F, Row w x.p (ints x.ins)
  map : MapM encS w d.r (keysOf L)
  ne1 : d.bs ≠ d.r
  ne2 : ¬ At d.pl d.bs
  ne3 : ¬ At d.pl d.r
  ne4 : ∀ x ∈ d.F, ∀ b, At x.p b → ¬ d.fp b
  insLt : ∀ x ∈ d.F, ∀ b, At x.p b → b < w.heap.size
theorem RefM.keep {fp : Nat → Prop} {w' : World} {d : RD} (h : RefM w s L d) (hm : Mod fp w w') (hn : ∀ b, d.all b → ¬ fp b) : RefM w' s L d :=
  ⟨h.addr, h.hdr.keep hm (hn _ (.inl (.inl rfl))), h.nodes.keep hm fun b hb => hn _ (.inl (.inr (.inr hb))), h.eq, h.nat, fun x hx => (h.ins x hx).keep hm fun a ha => hn _ (.inr ⟨x, hx, a, ha, rfl⟩), h.map.keep hm (hn _ (.inl (.inr (.inl rfl)))), h.ne1, h.ne2, h.ne3, h.ne4, fun x hx b hb => Nat.lt_of_lt_of_le (h.insLt x hx b hb) hm.size⟩
theorem RefM.same {w' : World} {d : RD} (h : RefM w s L d) (hm : Mod NoB w w') : RefM w' s L d := h.keep hm fun _ _ h => h
theorem RefM.lt {d : RD} (h : RefM w s L d) : ∀ b, d.fp b → b < w.heap.size := by
  rintro b (rfl | rfl | hb)
  · exact h.hdr.lt
  · exact h.map.lt
  · exact h.nodes.lt b hb
theorem RefM.c0 {d : RD} (h : RefM w s L d) : w.cell? (s.add 0) = some (.slice d.pl L.length d.cl) := by rw [h.addr, own_add, h.hdr.cell]; rfl
theorem RefM.c1 {d : RD} (h : RefM w s L d) : w.cell? (s.add 1) = some (.map (some d.r)) := by rw [h.addr, own_add, h.hdr.cell]; rfl

theorem ndKey_inj {a b : Nd} (h : ndKey a = ndKey b) : a = b := by
  obtain ⟨h1, h2, h3, h4⟩ := keyB_inj h
  cases a; cases b
  simp only at h1 h2 h3 h4
  subst h1; subst h2; subst h3
  rw [natI_inj h4]
theorem getM_keys : ∀ (L : List Nd) (k : Nat) (n : Nd), getM ((L.zipIdx k).map fun p => (ndKey p.1, Value.int .i64 (p.2 : Nat))) (ndKey n) = (L.idxOf? n).map fun i => .int .i64 ((k + i : Nat) : Int)
  | [], k, n => rfl
  | m :: L, k, n => by
    rw [List.zipIdx_cons, List.map_cons, getM, List.idxOf?_cons]
    by_cases h : m = n
    · subst h; simp
    · have h1 : ¬ ndKey n = ndKey m := fun e => h (ndKey_inj e).symm
      have h2 : (m == n) = false := by simpa using h
      rw [if_neg h1, getM_keys L (k + 1) n, h2]
      cases L.idxOf? n with
      | none => rfl
      | some i => simp; omega

end Go.Proofs.YtajfdcbknghipaaGreatDoor
end

section
/- The reference store: make. Conditions on memory as stated. -/
namespace Go.Proofs.YtajfdcbknghipaaGreatDoor
open Go Go.Sh Go.Fm Go.RowKit

variable {w : World} {B : Nat} {s : Addr} {L : List Nd} {d : RD}

theorem elem_node : ElemOK Tryz.prog 22 58 4 48 (.agg #[.int .i64 0, .int .i64 0, .int .i64 0, .slice none 0 0]) := elem_of (by kernel_rfl) (by kernel_rfl) rfl (by decide)
theorem run_zeroValue_int (w : World) : (zeroValue 3).run Tryz.prog w = .ok (.int .i64 0) w := by
  obtain ⟨i, hi, hz, _⟩ := elem_int.info
  exact run_zeroValue hi hz w
theorem keysOf_snoc (L : List Nd) (n : Nd) : keysOf (L ++ [n]) = keysOf L ++ [(ndKey n, .int .i64 (L.length : Nat))] := by
  unfold keysOf
  rw [List.zipIdx_append, List.map_append]
  simp

/-- What an operation on the reference's store leaves; 'q' is the slice that it was handed. -/
def RPost (w : World) (s : Addr) (d : RD) (q : Option Addr) (L' : List Nd) (w' : World) : Prop :=
  ∃ d', RefM w' s L' d' ∧ Mod d.fp w w' ∧ (∀ b, d'.fp b → d.fp b ∨ w.heap.size ≤ b) ∧ ∀ b, d'.all b → d.all b ∨ w.heap.size ≤ b ∨ At q b

structure NdB (n : Nd) : Prop where
  k : -30000 ≤ n.kind ∧ n.kind ≤ 30000
  b : -30000 ≤ n.block ∧ n.block ≤ 30000
  a : -30000 ≤ n.alt ∧ n.alt ≤ 30000
  len : n.ins.length ≤ 30000
  ins : ∀ x ∈ n.ins, x ≤ 30000

theorem make_ok (h : RefM w s L d) (hT : TabB B w) (hB : B ≤ w.heap.size) (hL : L.length < 30000) {n : Nd} (hn : NdB n) {q : Option Addr} {c : Nat} (hr : Row w q (ints (natI n.ins))) (hq : ∀ b, At q b → ¬ d.fp b ∧ b < w.heap.size) :
    CallsF Tryz.prog 43 #[.pointer (some s), .agg #[.int .i64 n.kind, .int .i64 n.block, .int .i64 n.alt, .slice q n.ins.length c]] w fun e w' => e = .returned (.int .i64 (mk L n).2) ∧ RPost w s d q (mk L n).1 w' := by
  refine C_credenceref22_Store_make _ _ _ _ _ _ _ _ _ ?_
  intro w1 hw1
  have hbn := hw1.blk 0 rfl
  have h1 := h.same hw1.mod
  have hnl := natI_len n.ins
  have hkey := key_ok (w := w1) (B := B) (hT.keep hB hw1.mod fun _ h => h.elim) (Nat.le_trans hB hw1.mod.size) hn.k hn.b hn.a (p := q) (c := c) (l := natI n.ins) (hr.keep hw1.mod fun _ _ h => h) (by rw [hnl]; exact hn.len) (by
    intro x hx
    obtain ⟨y, hy, rfl⟩ := mem_natI.1 hx
    have := hn.ins y hy
    omega)
  rw [hnl] at hkey
  refine hkey.mono ?_
  rintro e w2 ⟨rfl, hm2⟩
  have h2 := h1.same hm2
  refine ⟨_, rfl, some d.r, h2.c1, ?_⟩
  have hm02 : Mod NoB w w2 := hw1.mod.then hm2
  have hlk := lookup_ok key_str h2.map (ndKey n) (z := .int .i64 0) (run_zeroValue_int w2) true
  rw [if_pos rfl] at hlk
  have hget : getM (keysOf L) (ndKey n) = (L.idxOf? n).map fun i => .int .i64 ((0 + i : Nat) : Int) := getM_keys L 0 n
  rw [hget] at hlk
  cases hix : L.idxOf? n with
  | some i =>
    rw [hix] at hlk
    have hmk : mk L n = (L, i) := by unfold mk; rw [hix]
    rw [hmk]
    refine ⟨_, _, hlk, Br_true rfl ⟨?_, d, h2, hm02.to, fun b hb => .inl hb, fun b hb => .inl hb⟩⟩
    rw [Nat.zero_add]
  | none =>
    rw [hix] at hlk
    have hmk : mk L n = (L ++ [n], L.length) := by unfold mk; rw [hix]
    rw [hmk]
    refine ⟨_, _, hlk, Br_false rfl ?_⟩
    refine ⟨_, _, _, h2.c0, Br_false (by rw [decide_eq_false_iff_not]; omega) ?_⟩
    have h2d := h2.same (drew_mod w2)
    have hm02d : Mod NoB w w2.drew := hm02.then (drew_mod w2)
    have hbnd : Blk w2.drew (w.heap.size + 0) [Value.int .i64 n.kind, .int .i64 n.block, .int .i64 n.alt, .slice q n.ins.length c] 58 := (hbn.keep hm2 NoB.not).keep (drew_mod w2) NoB.not
    refine ⟨_, _, _, h2d.c0, _, _, _, _, _, _, hbnd.cellsAre, ?_⟩
    intro w3 hw3
    have h3 := h2d.same hw3.mod
    refine ⟨h3.c0, ?_⟩
    have hx : (⟨n.kind, n.block, n.alt, natI n.ins, q, c⟩ : FNode).cells = [Value.int .i64 n.kind, .int .i64 n.block, .int .i64 n.alt, .slice q n.ins.length c] := by unfold FNode.cells; rw [hnl]
    obtain ⟨w4, p', c', hrun, ho4, hm4, hat⟩ := append_one (ty := 22) elem_node h2d.nodes (vs := [Value.int .i64 n.kind, .int .i64 n.block, .int .i64 n.alt, .slice q n.ins.length c]) rfl (by
      intro u hu
      simp only [List.mem_cons, List.not_mem_nil, or_false] at hu
      rcases hu with rfl | rfl | rfl | rfl <;> rfl) (by omega) (by omega) hw3
    have hm24 : Mod (At d.pl) w w4 := hm02d.to.then hm4
    have hdr4 := h2d.hdr.keep hm4 h.ne2
    have hbs : d.bs < w.heap.size := h.lt _ (.inl rfl)
    have hrlt : d.r < w.heap.size := h.lt _ (.inr (.inl rfl))
    have hsz4 := hm02d.size
    refine ⟨w4, p', _, c', hrun, ?_, ?_⟩
    · rw [h.addr, own_add]; exact canStore_blk hdr4 _ 0 rfl (by simp)
    intro w5 hw5
    rw [h.addr, own_add] at hw5
    have hm5 : Mod (· = d.bs) w4 w5 := hw5.mod
    have hdr5 : Blk w5 d.bs [.slice p' (L.length + 1) c', .map (some d.r)] 100 := hw5.blk hdr4
    have hnp : ∀ x, x < w.heap.size → ¬ At d.pl x → ¬ At p' x := by
      intro x hx hnx hpx
      rcases hat x hpx with h' | h'
      · exact hnx h'
      · omega
    have hmap5 : MapM encS w5.drew d.r (keysOf L) := ((h2d.map.keep hm4 h.ne3).keep hm5 fun e => h.ne1 e.symm).keep (drew_mod w5) NoB.not
    have hc1 : w5.drew.cell? (s.add 1) = some (.map (some d.r)) := by rw [h.addr, own_add, (hdr5.keep (drew_mod w5) NoB.not).cell]; rfl
    have hc0 : w5.drew.cell? (s.add 0) = some (.slice p' (L.length + 1) c') := by rw [h.addr, own_add, (hdr5.keep (drew_mod w5) NoB.not).cell]; rfl
    refine ⟨_, hc1, _, _, _, hc0, ?_⟩
    obtain ⟨w6, hup, hmap6, hm6⟩ := update_ok key_str hmap5 (ndKey n) (.int .i64 (IntKind.i64.wrap (((L.length + 1 : Nat) : Int) - 1)))
    have hdr6 := (hdr5.keep (drew_mod w5) NoB.not).keep hm6 h.ne1
    refine ⟨w6, hup, p', L.length + 1, c', by rw [h.addr, own_add, hdr6.cell]; rfl, ?_⟩
    have ewr : IntKind.i64.wrap (((L.length + 1 : Nat) : Int) - 1) = (L.length : Nat) := by rw [wrap_i64 (by omega) (by omega)]; omega
    have hmAll : Mod d.fp w w6 := by
      refine ((hm24.mono (fp' := d.fp) fun x _ hx => .inr (.inr hx)).then (hm5.mono fun x _ hx => .inl hx)).then ?_
      exact (drew_mod w5).to.then (hm6.mono fun x _ hx => .inr (.inl hx))
    rw [ewr] at hmap6 ⊢
    rw [putM_none _ (by rw [hget, hix]; rfl)] at hmap6
    refine ⟨rfl, ⟨d.bs, d.r, p', c', d.F ++ [⟨n.kind, n.block, n.alt, natI n.ins, q, c⟩]⟩, ⟨h.addr, ?_, ?_, ?_, ?_, ?_, ?_, h.ne1, hnp _ hbs h.ne2, hnp _ hrlt h.ne3, ?_, ?_⟩, hmAll, ?_, ?_⟩
    · rw [List.length_append]; exact hdr6
    · rw [List.flatMap_append, List.length_append]
      have e : [(⟨n.kind, n.block, n.alt, natI n.ins, q, c⟩ : FNode)].flatMap FNode.cells = [Value.int .i64 n.kind, .int .i64 n.block, .int .i64 n.alt, .slice q n.ins.length c] := by
        rw [List.flatMap_cons, List.flatMap_nil, List.append_nil, hx]
      rw [e]
      exact ((ho4.keep hm5 fun b hb e => hnp _ hbs h.ne2 (e ▸ hb)).keep (drew_mod w5) fun _ _ => NoB.not).keep hm6 fun b hb e => hnp _ hrlt h.ne3 (e ▸ hb)
    · rw [List.map_append, h.eq]
      have e : FNode.nd ⟨n.kind, n.block, n.alt, natI n.ins, q, c⟩ = n := by
        unfold FNode.nd
        have : (natI n.ins).map Int.toNat = n.ins := by unfold natI; rw [List.map_map]; simp [Function.comp_def]
        rw [this]
      rw [List.map_cons, List.map_nil, e]
    · intro x hx
      rcases List.mem_append.1 hx with hx | hx
      · exact h.nat x hx
      · simp only [List.mem_singleton] at hx
        subst hx
        intro v hv
        obtain ⟨y, _, rfl⟩ := mem_natI.1 hv
        omega
    · intro x hx
      rcases List.mem_append.1 hx with hx | hx
      · exact (h.ins x hx).keep hmAll fun a ha => h.ne4 x hx _ ⟨a, ha, rfl⟩
      · simp only [List.mem_singleton] at hx
        subst hx
        exact hr.keep hmAll fun a ha => (hq _ ⟨a, ha, rfl⟩).1
    · rw [keysOf_snoc]; exact hmap6
    · intro x hx b hb hbf
      have key : b < w.heap.size ∧ ¬ d.fp b := by
        rcases List.mem_append.1 hx with hx | hx
        · exact ⟨h.insLt x hx b hb, h.ne4 x hx b hb⟩
        · simp only [List.mem_singleton] at hx
          subst hx
          exact ⟨(hq b hb).2, (hq b hb).1⟩
      rcases hbf with hb' | hb' | hb'
      · exact key.2 (.inl hb')
      · exact key.2 (.inr (.inl hb'))
      · exact hnp b key.1 (fun hp => key.2 (.inr (.inr hp))) hb'
    · intro x hx b hb
      have hsz := hmAll.size
      rcases List.mem_append.1 hx with hx | hx
      · exact Nat.lt_of_lt_of_le (h.insLt x hx b hb) hsz
      · simp only [List.mem_singleton] at hx
        subst hx
        exact Nat.lt_of_lt_of_le (hq b hb).2 hsz
    · intro b hb
      rcases hb with hb' | hb' | hb'
      · exact .inl (.inl hb')
      · exact .inl (.inr (.inl hb'))
      · rcases hat b hb' with h' | h'
        · exact .inl (.inr (.inr h'))
        · exact .inr (by omega)
    · intro b hb
      rcases hb with (hb' | hb' | hb') | ⟨x, hx, hb'⟩
      · exact .inl (.inl (.inl hb'))
      · exact .inl (.inl (.inr (.inl hb')))
      · rcases hat b hb' with h' | h'
        · exact .inl (.inl (.inr (.inr h')))
        · exact .inr (.inl (by omega))
      · rcases List.mem_append.1 hx with hx | hx
        · exact .inl (.inr ⟨x, hx, hb'⟩)
        · simp only [List.mem_singleton] at hx
          subst hx
          exact .inr (.inr hb')

end Go.Proofs.YtajfdcbknghipaaGreatDoor
end

section
/- The reference store: NewStore, Has, Pick, Not, pick. Conditions on memory as stated. -/
namespace Go.Proofs.YtajfdcbknghipaaGreatDoor
open Go Go.Sh Go.Fm Go.RowKit

variable {w : World} {B : Nat} {s : Addr} {L : List Nd} {d : RD}

theorem RPost.pre {w1 w' : World} {q : Option Addr} {L' : List Nd} (hm : Mod NoB w w1) (h : RPost w1 s d q L' w') : RPost w s d q L' w' := by
  obtain ⟨d', h1, h2, h3, h4⟩ := h
  have hs := hm.size
  refine ⟨d', h1, hm.to.then h2, fun b hb => ?_, fun b hb => ?_⟩
  · rcases h3 b hb with h' | h'
    · exact .inl h'
    · exact .inr (by omega)
  · rcases h4 b hb with h' | h' | h'
    · exact .inl h'
    · exact .inr (.inl (by omega))
    · exact .inr (.inr h')
/-- The slice that was handed is new: it needs no mention. -/
def RNew (w : World) (s : Addr) (d : RD) (L' : List Nd) (w' : World) : Prop :=
  ∃ d', RefM w' s L' d' ∧ Mod d.fp w w' ∧ (∀ b, d'.fp b → d.fp b ∨ w.heap.size ≤ b) ∧ ∀ b, d'.all b → d.all b ∨ w.heap.size ≤ b
theorem RPost.new {w' : World} {q : Option Addr} {L' : List Nd} (h : RPost w s d q L' w') (hq : ∀ b, At q b → w.heap.size ≤ b) : RNew w s d L' w' := by
  obtain ⟨d', h1, h2, h3, h4⟩ := h
  refine ⟨d', h1, h2, h3, fun b hb => ?_⟩
  rcases h4 b hb with h' | h' | h'
  · exact .inl h'
  · exact .inr h'
  · exact .inr (hq b h')
theorem RNew.pre {w1 w' : World} {L' : List Nd} (hm : Mod NoB w w1) (h : RNew w1 s d L' w') : RNew w s d L' w' := by
  obtain ⟨d', h1, h2, h3, h4⟩ := h
  have hs := hm.size
  refine ⟨d', h1, hm.to.then h2, fun b hb => ?_, fun b hb => ?_⟩
  · rcases h3 b hb with h' | h'
    · exact .inl h'
    · exact .inr (by omega)
  · rcases h4 b hb with h' | h'
    · exact .inl h'
    · exact .inr (by omega)
theorem RefM.post {w' : World} (h : RefM w s L d) (hm : Mod NoB w w') : RNew w s d L w' := ⟨d, h.same hm, hm.to, fun _ hb => .inl hb, fun _ hb => .inl hb⟩
theorem at_none {b : Nat} : ¬ At none b := by rintro ⟨a, ha, _⟩; cases ha

theorem rhas_ok (h : RefM w s L d) (a : Int) : CallsF Tryz.prog 103 #[.pointer (some s), .int .i64 a] w (Ret (.bool (decide (0 ≤ a ∧ a < L.length))) NoB w) := by
  refine C_credenceref22_Store_Has _ _ _ _ ?_
  intro J hJ
  refine Br_dec (fun h1 => ⟨_, _, _, h.c0, hJ _ _ ⟨ret_bool ?_, Mod.refl _ _⟩⟩) fun h1 => hJ _ _ ⟨ret_bool ?_, Mod.refl _ _⟩ <;> first | exact decide_eq_decide.2 (by omega) | exact (decide_eq_false (by omega)).symm

theorem ndB_of {n : Nd} {i : Nat} (h : NdOK i n) (hi : i ≤ 30000) : NdB n :=
  ⟨⟨by have := h.k0; omega, by have := h.k1; omega⟩, ⟨by have := h.b0; omega, by have := h.b1; omega⟩, ⟨by have := h.a0; omega, by have := h.a1; omega⟩, by have := h.len; omega, fun x hx => by have := h.lt x hx; omega⟩

theorem rpick_ok (h : RefM w s L d) (hT : TabB B w) (hB : B ≤ w.heap.size) (hL : L.length < 30000) {b a : Int} (hp : 0 ≤ b ∧ b < 4096 ∧ -1 ≤ a ∧ a < 16) :
    CallsF Tryz.prog 82 #[.pointer (some s), .int .i64 b, .int .i64 a] w fun e w' => e = .returned (.int .i64 (mk L ⟨2, b, a, []⟩).2) ∧ RNew w s d (mk L ⟨2, b, a, []⟩).1 w' := by
  refine C_credenceref22_Store_Pick _ _ _ _ _ ?_
  intro J hJ
  have main : J [.bool false] w := by
    refine hJ _ _ (Br_false rfl ?_)
    refine (make_ok h hT hB hL (n := ⟨2, b, a, []⟩) (ndB_of (ndOK_pick (L := L) hp) (by omega)) (q := none) (c := 0) (.inl rfl) fun b hb => (at_none hb).elim).mono ?_
    rintro e w' ⟨rfl, hpost⟩
    exact ⟨_, rfl, rfl, hpost.new fun b hb => (at_none hb).elim⟩
  refine Br_false (by rw [decide_eq_false_iff_not]; omega) (Br_false (by rw [decide_eq_false_iff_not]; omega) (Br_false (by rw [decide_eq_false_iff_not]; omega) ?_))
  have : decide (a ≥ 16) = false := by rw [decide_eq_false_iff_not]; omega
  rw [this]; exact main

/-- Node i of the reference's list, as it lies in memory. -/
theorem RefM.node (h : RefM w s L d) {i : Nat} {n : Nd} (hi : L[i]? = some n) : ∃ (a : Addr) (x : FNode), d.pl = some a ∧ x ∈ d.F ∧ x.kind = n.kind ∧ x.block = n.block ∧ x.alt = n.alt ∧ x.ins = natI n.ins ∧ CellsAre w (a.add (i * 4)) 0 [.int .i64 n.kind, .int .i64 n.block, .int .i64 n.alt, .slice x.p n.ins.length x.c] ∧ Row w x.p (ints (natI n.ins)) ∧
    ∀ j v, ([.int .i64 n.kind, .int .i64 n.block, .int .i64 n.alt, .slice x.p n.ins.length x.c] : List Value)[j]? = some v → w.cell? ((a.add (i * 4)).add j) = some v := by
  have hi2 : (d.F.map FNode.nd)[i]? = some n := by rw [h.eq]; exact hi
  rw [List.getElem?_map] at hi2
  cases hx : d.F[i]? with
  | none => rw [hx] at hi2; cases hi2
  | some x =>
    rw [hx] at hi2
    simp only [Option.map_some, Option.some.injEq] at hi2
    have hxm := List.mem_of_getElem? hx
    have hins : x.ins = natI n.ins := by
      rw [← hi2]
      exact (natI_toNat (h.nat x hxm)).symm
    have hk : x.kind = n.kind := by rw [← hi2]; rfl
    have hb : x.block = n.block := by rw [← hi2]; rfl
    have ha : x.alt = n.alt := by rw [← hi2]; rfl
    have hc : x.cells = [.int .i64 n.kind, .int .i64 n.block, .int .i64 n.alt, .slice x.p n.ins.length x.c] := by unfold FNode.cells; rw [hins, natI_len, hk, hb, ha]
    obtain ⟨a, hpa, _⟩ := h.nodes.row.at (i := i * 4 + 0) (v := .int .i64 x.kind) (by rw [fcells_get hx 0 (by omega)]; rfl)
    have hr := h.nodes.row
    rw [hpa] at hr
    have hcell : ∀ j v, ([.int .i64 n.kind, .int .i64 n.block, .int .i64 n.alt, .slice x.p n.ins.length x.c] : List Value)[j]? = some v → w.cell? ((a.add (i * 4)).add j) = some v := by
      intro j v hj
      have hj4 : j < 4 := by have := (List.getElem?_eq_some_iff.1 hj).1; simpa using this
      obtain ⟨a', ha', hc'⟩ := hr.at (i := i * 4 + j) (v := v) (by rw [fcells_get hx j hj4, hc]; exact hj)
      injection ha' with ha'
      subst ha'
      rw [add_add]; exact hc'
    refine ⟨a, x, hpa, hxm, hk, hb, ha, hins, ?_, by rw [← hins]; exact h.ins x hxm, hcell⟩
    exact ⟨hcell 0 _ rfl, hcell 1 _ rfl, hcell 2 _ rfl, hcell 3 _ rfl, trivial⟩

theorem rnot_ok (h : RefM w s L d) (hwf : WF L) (hT : TabB B w) (hB : B ≤ w.heap.size) (hL : L.length < 30000) {a : Nat} (ha : a < L.length) :
    CallsF Tryz.prog 83 #[.pointer (some s), .int .i64 a] w fun e w' => e = .returned (.int .i64 (nt L a).2) ∧ RNew w s d (nt L a).1 w' := by
  refine C_credenceref22_Store_Not _ _ _ _ ?_
  refine (rhas_ok h a).mono ?_
  rintro e w1 ⟨rfl, hm1⟩
  refine ⟨_, rfl, Br_false (by rw [Bool.not_eq_false', decide_eq_true_iff]; omega) ?_⟩
  have h1 := h.same hm1
  have hn : L[a]? = some L[a] := List.getElem?_eq_getElem ha
  have hok := hwf.ok a _ hn
  generalize L[a] = n at hn hok
  refine Br_dec (fun h2 => ?_) fun h2 => ?_
  · have e : nt L a = (L, 1 - a) := by unfold nt; rw [if_pos (by omega)]
    rw [e]
    refine ⟨ret_i64 ?_, h.post hm1⟩
    rw [wrap_i64 (by omega) (by omega)]; omega
  obtain ⟨ad, x, hpl, hxm, hk, hb, hal, hins, hc, hrow, hcell⟩ := h1.node hn
  refine ⟨_, _, _, h1.c0, ?_⟩
  rw [hpl]
  refine ⟨⟨by omega, by omega⟩, n.kind, by rw [Int.toNat_natCast]; exact hcell 0 _ rfl, Br_eq (fun h3 => ?_) fun h3 => ?_⟩
  · have hl := hok.not1 h3
    obtain ⟨y, hy⟩ := List.length_eq_one_iff.1 hl
    have e : nt L a = (L, y) := by unfold nt; rw [if_neg (by omega), hn]; simp only; rw [if_pos h3, hy]; rfl
    rw [e]
    rw [hy] at hrow
    obtain ⟨ap, hp, hcp⟩ := hrow.at (i := 0) (v := .int .i64 y) rfl
    refine ⟨_, _, _, h1.c0, ?_⟩
    rw [hpl]
    refine ⟨⟨by omega, by omega⟩, x.p, n.ins.length, x.c, by rw [Int.toNat_natCast]; exact hcell 3 _ rfl, ?_⟩
    rw [hp]
    exact ⟨⟨by omega, by omega⟩, y, hcp, rfl, h.post hm1⟩
  · have e : nt L a = mk L ⟨3, 0, 0, [a]⟩ := by unfold nt; rw [if_neg (by omega), hn]; simp only; rw [if_neg h3]
    rw [e]
    intro w2 hw2
    have hm2 := hm1.then hw2.mod
    have hb2 := hw2.blk 0 rfl
    have hsz := hm1.size
    refine (make_ok (h1.same hw2.mod) (hT.keep hB hm2 fun _ h => h.elim) (Nat.le_trans hB hm2.size) hL (n := ⟨3, 0, 0, [a]⟩) (ndB_of (ndOK_not (L := L) (by omega) ha) (by omega)) (q := some ⟨w1.heap.size + 0, 0, none⟩) (c := 1) (Row.of_blk hb2) ?_).mono ?_
    · rintro b ⟨x, hx, rfl⟩
      injection hx with hx
      subst hx
      refine ⟨fun hf => ?_, hb2.lt⟩
      have := h.lt _ hf
      simp only at this
      omega
    · rintro e w3 ⟨rfl, hpost⟩
      refine ⟨_, rfl, rfl, (hpost.pre hm2).new ?_⟩
      rintro b ⟨x, hx, rfl⟩
      injection hx with hx
      subst hx
      show w.heap.size ≤ w1.heap.size + 0
      omega

end Go.Proofs.YtajfdcbknghipaaGreatDoor
end

section
/- Merging two ascending lists without repetition: plain Lean. -/
namespace Go.Fm
def push1 (O : List Nat) (x : Nat) : List Nat := if O.getLast? = some x then O else O ++ [x]
structure MI (T : Nat → Prop) (O A B : List Nat) : Prop where
  oasc : O.Pairwise (· < ·)
  aasc : A.Pairwise (· < ·)
  basc : B.Pairwise (· < ·)
  le : ∀ o ∈ O, ∀ z, (z ∈ A ∨ z ∈ B) → o ≤ z
  mem : ∀ z, T z ↔ z ∈ O ∨ z ∈ A ∨ z ∈ B
theorem asc_getLast {O : List Nat} (h : O.Pairwise (· < ·)) {x : Nat} (hx : x ∈ O) (hle : ∀ o ∈ O, o ≤ x) : O.getLast? = some x := by
  obtain ⟨j, hj⟩ := List.getElem?_of_mem hx
  obtain ⟨hjl, hje⟩ := List.getElem?_eq_some_iff.1 hj
  rw [List.getLast?_eq_getElem?, List.getElem?_eq_getElem (by omega)]
  congr 1
  by_cases hjn : j = O.length - 1
  · rw [← hje]; simp only [hjn]
  · have h1 := List.pairwise_iff_getElem.1 h j (O.length - 1) hjl (by omega) (by omega)
    have h2 := hle _ (List.getElem_mem (show O.length - 1 < O.length by omega))
    omega
theorem push1_asc {O : List Nat} (h : O.Pairwise (· < ·)) {x : Nat} (hle : ∀ o ∈ O, o ≤ x) : (push1 O x).Pairwise (· < ·) := by
  unfold push1
  split
  · exact h
  · rename_i hn
    rw [List.pairwise_append]
    refine ⟨h, by simp, fun o ho y hy => ?_⟩
    simp only [List.mem_singleton] at hy
    subst hy
    have h1 := hle o ho
    have h2 : o ≠ y := fun e => by subst e; exact hn (asc_getLast h ho hle)
    omega
theorem mem_push1 {O : List Nat} {x z : Nat} : z ∈ push1 O x ↔ z ∈ O ∨ z = x := by
  unfold push1
  split
  · rename_i h
    have := List.mem_of_getLast? h
    constructor
    · exact .inl
    · rintro (h' | rfl)
      · exact h'
      · exact this
  · simp
theorem MI.stepA {T : Nat → Prop} {O A B : List Nat} {x : Nat} (h : MI T O (x :: A) B) (hx : ∀ b ∈ B, x ≤ b) : MI T (push1 O x) A B := by
  have ha := List.pairwise_cons.1 h.aasc
  refine ⟨push1_asc h.oasc fun o ho => h.le o ho x (.inl List.mem_cons_self), ha.2, h.basc, fun o ho z hz => ?_, fun z => ?_⟩
  · rcases mem_push1.1 ho with ho | rfl
    · exact h.le o ho z (hz.imp (List.mem_cons_of_mem _) id)
    · rcases hz with hz | hz
      · exact Nat.le_of_lt (ha.1 z hz)
      · exact hx z hz
  · rw [h.mem, mem_push1, List.mem_cons]
    constructor
    · rintro (h1 | (h1 | h1) | h1)
      · exact .inl (.inl h1)
      · exact .inl (.inr h1)
      · exact .inr (.inl h1)
      · exact .inr (.inr h1)
    · rintro ((h1 | h1) | h1 | h1)
      · exact .inl h1
      · exact .inr (.inl (.inl h1))
      · exact .inr (.inl (.inr h1))
      · exact .inr (.inr h1)
theorem MI.stepB {T : Nat → Prop} {O A B : List Nat} {x : Nat} (h : MI T O A (x :: B)) (hx : ∀ a ∈ A, x ≤ a) : MI T (push1 O x) A B := by
  have h' : MI T O (x :: B) A := ⟨h.oasc, h.basc, h.aasc, fun o ho z hz => h.le o ho z hz.symm, fun z => by rw [h.mem]; constructor <;> (rintro (h1 | h1 | h1); exact .inl h1; exact .inr (.inr h1); exact .inr (.inl h1))⟩
  have := h'.stepA hx
  exact ⟨this.oasc, this.basc, this.aasc, fun o ho z hz => this.le o ho z hz.symm, fun z => by rw [this.mem]; constructor <;> (rintro (h1 | h1 | h1); exact .inl h1; exact .inr (.inr h1); exact .inr (.inl h1))⟩
end Go.Fm
end

section
/- The reference's ascending: the elements in order, each once. Conditions on memory as stated. -/
namespace Go.Proofs.YtajfdcbknghipaaGreatDoor
open Go Go.Sh Go.Fm Go.RowKit

theorem natI_cons (x : Nat) (l : List Nat) : ints (natI (x :: l)) = .int .i64 x :: ints (natI l) := rfl

theorem ascending_ok : ∀ (m : Nat) (l : List Nat), l.length ≤ m → l.length ≤ 1000000 → ∀ (w : World) (x : Option Addr) (xc : Nat), Row w x (ints (natI l)) → l.length ≤ xc →
    CallsF Tryz.prog 119 #[.slice x l.length xc] w fun e w' => ∃ (p : Option Addr) (c : Nat), e = .returned (.slice p (srt l).length c) ∧ OwnN w' p c (srt l) ∧ (∀ b, At p b → w.heap.size ≤ b) ∧ Mod NoB w w' := by
  intro m
  have hmax : maxLen = 9223372036854775807 := rfl
  induction m with
  | zero =>
    intro l hlm hl w x xc hr hc
    have h0 : l = [] := List.eq_nil_of_length_eq_zero (by omega)
    subst h0
    refine C_credenceref22_ascending _ _ _ _ _ ?_
    refine Br_true rfl ?_
    obtain ⟨p', c', w', hrun, hown, hm, hat⟩ := append_own (m := 0) (mc := xc) (ty := 25) elem_int (Own.none w 3 1) (q := x) (news := []) (.inl rfl) rfl (by simp) (by rw [hmax]; omega) (by omega)
    refine ⟨w', p', _, c', hrun, p', c', rfl, hown, fun b hb => ?_, hm.mono fun b _ hb => (At.none hb).elim⟩
    rcases hat b hb with h' | h'
    · exact (At.none h').elim
    · omega
  | succ m ih =>
    intro l hlm hl w x xc hr hc
    refine C_credenceref22_ascending _ _ _ _ _ ?_
    refine Br_dec (fun hlt => ?_) fun hge => ?_
    · have hs : srt l = l := by
        match l, hlt with
        | [], _ => rfl
        | [a], _ => rfl
        | a :: b :: r, hlt => simp only [List.length_cons] at hlt; omega
      obtain ⟨p', c', w', hrun, hown, hm, hat⟩ := append_own (m := l.length) (mc := xc) (ty := 25) elem_int (Own.none w 3 1) hr (by rw [ints_len, natI_len, Nat.mul_one]) (by
        intro u hu
        simp only [ints, List.mem_map] at hu
        obtain ⟨y, _, rfl⟩ := hu; rfl) (by rw [hmax]; omega) (by omega)
      rw [Nat.zero_add, List.nil_append] at hown
      rw [Nat.zero_add] at hrun
      refine ⟨w', p', _, c', hrun, p', c', by rw [hs], by rw [hs]; exact hown, fun b hb => ?_, hm.mono fun b _ hb => (At.none hb).elim⟩
      rcases hat b hb with h' | h'
      · exact (At.none h').elim
      · omega
    have hdiv : ((l.length : Int)).tdiv 2 = ((l.length / 2 : Nat) : Int) := rfl
    have hwr : IntKind.i64.wrap (((l.length / 2 : Nat) : Int)) = ((l.length / 2 : Nat) : Int) := wrap_i64 (by omega) (by omega)
    rw [hdiv, hwr, Int.toNat_natCast]
    refine ⟨by decide, ⟨by omega, by omega⟩, by decide, ⟨by omega, by omega⟩, ?_⟩
    have hl1 : (l.take (l.length / 2)).length = l.length / 2 := by rw [List.length_take]; omega
    have hl2 : (l.drop (l.length / 2)).length = l.length - l.length / 2 := List.length_drop ..
    have hrd : Row w.drew x (ints (natI l)) := hr.keep (drew_mod w) fun _ _ => NoB.not
    have hr1 : Row w.drew (sliceA x xc 0 1) (ints (natI (l.take (l.length / 2)))) := by
      have h1 : Row w.drew (sliceA x xc 0 1) (ints (natI l)) := by
        have := Row.skip (c := xc) (k := 0) hrd (by rw [ints_len, natI_len]; exact hc)
        simpa using this
      have h2 : ints (natI l) = ints (natI (l.take (l.length / 2))) ++ ints (natI (l.drop (l.length / 2))) := by rw [← ints_append, ← natI_append, List.take_append_drop]
      rw [h2] at h1
      exact h1.front
    have k1 := ih (l.take (l.length / 2)) (by rw [hl1]; omega) (by rw [hl1]; omega) w.drew (sliceA x xc 0 1) (xc - 0) hr1 (by rw [hl1]; omega)
    rw [hl1] at k1
    refine CallsF.mono k1 ?_
    rintro e w1 ⟨p1, c1, rfl, hown1, hat1, hm1⟩
    refine ⟨p1, _, c1, rfl, ?_⟩
    have hm01 : Mod NoB w w1 := (drew_mod w).then hm1
    have hr2 : Row w1 (sliceA x xc (l.length / 2) 1) (ints (natI (l.drop (l.length / 2)))) := by
      have := Row.skip (c := xc) (k := l.length / 2) (hr.keep hm01 fun _ _ => NoB.not) (by rw [ints_len, natI_len]; exact hc)
      have e : (ints (natI l)).drop (l.length / 2) = ints (natI (l.drop (l.length / 2))) := by unfold ints natI; rw [List.map_drop, List.map_drop]
      rw [e] at this; exact this
    have k2 := ih (l.drop (l.length / 2)) (by rw [hl2]; omega) (by rw [hl2]; omega) w1 (sliceA x xc (l.length / 2) 1) (xc - l.length / 2) hr2 (by rw [hl2]; omega)
    rw [hl2] at k2
    refine CallsF.mono k2 ?_
    rintro e w2 ⟨p2, c2, rfl, hown2, hat2, hm2⟩
    refine ⟨p2, _, c2, rfl, ?_⟩
    have hm02 : Mod NoB w w2 := hm01.then hm2
    have hown1' : OwnN w2 p1 c1 (srt (l.take (l.length / 2))) := hown1.keep hm2 fun _ _ => NoB.not
    have hle1 := Own.le hown1'
    have hle2 := Own.le hown2
    have hlt1 := Own.lt hown1'
    have hlt2 := Own.lt hown2
    have hT : ∀ z, z ∈ l ↔ z ∈ ([] : List Nat) ∨ z ∈ srt (l.take (l.length / 2)) ∨ z ∈ srt (l.drop (l.length / 2)) := by
      intro z
      rw [mem_srt, mem_srt, ← List.mem_append, List.take_append_drop]
      simp
    have hMI0 : MI (· ∈ l) [] (srt (l.take (l.length / 2))) (srt (l.drop (l.length / 2))) := ⟨List.Pairwise.nil, srt_asc _, srt_asc _, (fun o ho => nomatch ho), hT⟩
    have hlen0 : (srt (l.take (l.length / 2))).length ≤ 1000000 ∧ (srt (l.drop (l.length / 2))).length ≤ 1000000 := by
      have key : ∀ l : List Nat, (srt l).length ≤ l.length := by
        intro l
        induction l with
        | nil => exact Nat.le_refl _
        | cons y l ih =>
          show (ins1 y (srt l)).length ≤ _
          have : ∀ s : List Nat, (ins1 y s).length ≤ s.length + 1 := by
            intro s
            induction s with
            | nil => exact Nat.le_refl _
            | cons z s ih2 =>
              unfold ins1
              split
              · exact Nat.le_refl _
              · split
                · simp
                · simp only [List.length_cons]; omega
          have := this (srt l)
          simp only [List.length_cons]; omega
      have h1 := key (l.take (l.length / 2))
      have h2 := key (l.drop (l.length / 2))
      omega
    have hrA : Row w2 p1 (ints (natI (srt (l.take (l.length / 2))))) := Own.row hown1'
    have hrB : Row w2 p2 (ints (natI (srt (l.drop (l.length / 2))))) := Own.row hown2
    generalize srt (l.take (l.length / 2)) = A0 at *
    generalize srt (l.drop (l.length / 2)) = B0 at *
    refine ⟨fun mm vs w' => ∃ (A B O : List Nat) (pa pb po : Option Addr) (ca cb co : Nat), mm = A.length + B.length ∧ vs = [.slice pa A.length ca, .slice pb B.length cb, .slice po O.length co] ∧ A.length ≤ ca ∧ B.length ≤ cb ∧ A.length + B.length + O.length ≤ A0.length + B0.length ∧ MI (· ∈ l) O A B ∧
        Row w' pa (ints (natI A)) ∧ Row w' pb (ints (natI B)) ∧ OwnN w' po co O ∧ (∀ b, At pa b → b < w2.heap.size) ∧ (∀ b, At pb b → b < w2.heap.size) ∧ (∀ b, At po b → w2.heap.size ≤ b) ∧ Mod NoB w2 w',
      ⟨_, A0, B0, [], p1, p2, none, c1, c2, 0, rfl, rfl, hle1.1, hle2.1, by simp, hMI0, hrA, hrB, Own.none _ _ _, hlt1, hlt2, fun b hb => (At.none hb).elim, Mod.refl _ _⟩, ?_⟩
    rintro mm pa' na ca' pb' nb cb' po' no co' w3 ⟨A, B, O, pa, pb, po, ca, cb, co, rfl, hvs, hca, hcb, hlen, hMI, hrA3, hrB3, hown3, hpa, hpb, hpo, hm3⟩
    simp only [List.cons.injEq, Value.slice.injEq, and_true] at hvs
    obtain ⟨⟨rfl, rfl, rfl⟩, ⟨rfl, rfl, rfl⟩, ⟨rfl, rfl, rfl⟩⟩ := hvs
    have hwab : IntKind.i64.wrap ((A.length : Int) + (B.length : Int)) = ((A.length + B.length : Nat) : Int) := by rw [wrap_i64 (by omega) (by omega)]; omega
    rw [hwab]
    have hm3d : Mod NoB w2 w3.drew := hm3.then (drew_mod w3)
    have hs3 := hm3.size
    have hs02 := hm02.size
    refine Br_dec (fun hpos => ?_) fun hz => ?_
    rotate_left
    · have ha : A = [] := List.eq_nil_of_length_eq_zero (by omega)
      have hb : B = [] := List.eq_nil_of_length_eq_zero (by omega)
      subst ha; subst hb
      have hO : O = srt l := srt_eq hMI.oasc fun z => by rw [hMI.mem]; simp
      refine ⟨po', co', by rw [hO], by rw [← hO]; exact hown3, fun b hb => by have := hpo b hb; omega, hm02.then hm3⟩
    have hrA3d : Row w3.drew pa' (ints (natI A)) := hrA3.keep (drew_mod w3) fun _ _ => NoB.not
    have hrB3d : Row w3.drew pb' (ints (natI B)) := hrB3.keep (drew_mod w3) fun _ _ => NoB.not
    have hown3d : OwnN w3.drew po' co' O := hown3.keep (drew_mod w3) fun _ _ => NoB.not
    intro J1 hJ1
    have main1 : ∀ b : Bool, (b = true → ∃ x A2, A = x :: A2 ∧ ∀ z ∈ B, x ≤ z) → (b = false → ∃ x B2, B = x :: B2 ∧ ∀ z ∈ A, x ≤ z) → J1 [.bool b] w3.drew := by
      intro b hbt hbf
      refine hJ1 _ _ ?_
      intro J2 hJ2
      have hrA3d : Row w3.drew.drew pa' (ints (natI A)) := hrA3d.keep (drew_mod w3.drew) fun _ _ => NoB.not
      have hrB3d : Row w3.drew.drew pb' (ints (natI B)) := hrB3d.keep (drew_mod w3.drew) fun _ _ => NoB.not
      have hown3d : OwnN w3.drew.drew po' co' O := hown3d.keep (drew_mod w3.drew) fun _ _ => NoB.not
      have hm3d : Mod NoB w2 w3.drew.drew := hm3d.then (drew_mod w3.drew)
      have main2 : ∀ (pa2 pb2 : Option Addr) (ca2 cb2 : Nat) (A2 B2 : List Nat) (x : Nat), A2.length ≤ ca2 → B2.length ≤ cb2 → A2.length + B2.length + 1 = A.length + B.length → MI (· ∈ l) (push1 O x) A2 B2 → Row w3.drew.drew pa2 (ints (natI A2)) → Row w3.drew.drew pb2 (ints (natI B2)) → (∀ b, At pa2 b → b < w2.heap.size) → (∀ b, At pb2 b → b < w2.heap.size) →
          J2 [.slice pa2 A2.length ca2, .int .i64 x, .slice pb2 B2.length cb2] w3.drew.drew := by
        intro pa2 pb2 ca2 cb2 A2 B2 x hca2 hcb2 hlen2 hMI2 hrA2 hrB2 hpa2 hpb2
        refine hJ2 _ _ _ _ _ _ _ _ ?_
        intro J3 hJ3
        have main3 : ∀ b3 : Bool, b3 = !decide (O.getLast? = some x) → J3 [.bool b3] w3.drew.drew := by
          intro b3 hb3
          refine hJ3 _ _ ?_
          intro J4 hJ4
          have hend : ∀ (w' : World) (q : Option Addr) (cq : Nat), OwnN w' q cq (push1 O x) → (∀ b, At q b → w2.heap.size ≤ b) → Mod (fun b => w2.heap.size ≤ b) w3.drew.drew w' → J4 [.slice q (push1 O x).length cq] w' := by
            intro w' q cq ho hq hm'
            refine hJ4 _ _ _ _ ⟨A2.length + B2.length, by omega, A2, B2, push1 O x, pa2, pb2, q, ca2, cb2, cq, rfl, rfl, hca2, hcb2, ?_, hMI2, hrA2.keep hm' fun a ha h' => ?_, hrB2.keep hm' fun a ha h' => ?_, ho, hpa2, hpb2, hq, hm3d.new _ hm' fun b hb h' => ?_⟩
            · unfold push1
              split
              · omega
              · rw [List.length_append]; simp only [List.length_cons, List.length_nil]; omega
            · have := hpa2 _ ⟨a, ha, rfl⟩
              have h2 : w2.heap.size ≤ a.block := h'
              omega
            · have := hpb2 _ ⟨a, ha, rfl⟩
              have h2 : w2.heap.size ≤ a.block := h'
              omega
            · have h2 : w2.heap.size ≤ b := h'
              omega
          refine Br_intro (fun ht => ?_) fun hf => ?_
          · have hne : ¬ O.getLast? = some x := by rw [hb3] at ht; simpa using ht
            have hp : push1 O x = O ++ [x] := by unfold push1; rw [if_neg hne]
            intro w4 hw4
            obtain ⟨w5, p5, c5, hrun, ho5, hm5, hat5⟩ := hown3d.push (x := x) (by omega) hw4
            refine ⟨w5, p5, _, c5, hrun, ?_⟩
            have hl5 : O.length + 1 = (push1 O x).length := by rw [hp, List.length_append]; rfl
            rw [hl5]
            have hsd : w3.heap.size = w3.drew.drew.heap.size := rfl
            refine hend w5 p5 c5 (by rw [hp]; exact ho5) (fun b hb => ?_) (hm5.mono fun b _ hb => hpo b hb)
            rcases hat5 b hb with h' | h'
            · exact hpo b h'
            · omega
          · have he : O.getLast? = some x := by rw [hb3] at hf; simpa using hf
            have hp : push1 O x = O := by unfold push1; rw [if_pos he]
            have := hend w3.drew.drew po' co' (by rw [hp]; exact hown3d) hpo (Mod.refl _ _)
            rw [hp] at this
            exact this
        refine Br_eq (fun h0 => main3 _ ?_) fun h0 => ?_
        · have : O = [] := List.eq_nil_of_length_eq_zero (by omega)
          subst this; rfl
        · have hO0 : 0 < O.length := by omega
          have hw : IntKind.i64.wrap ((O.length : Int) - 1) = ((O.length - 1 : Nat) : Int) := by rw [wrap_i64 (by omega) (by omega)]; omega
          rw [hw]
          have hlast : O[O.length - 1]? = some (O[O.length - 1]'(by omega)) := List.getElem?_eq_getElem (by omega)
          generalize O[O.length - 1]'(by omega) = y at hlast
          obtain ⟨ao, hao, hco⟩ := (Own.row hown3d).at (i := O.length - 1) (v := .int .i64 y) (by rw [ints_get, natI_get, hlast]; rfl)
          refine optP_intro hao ⟨⟨by omega, by omega⟩, y, by rw [Int.toNat_natCast, Nat.mul_one]; exact hco, main3 _ ?_⟩
          rw [List.getLast?_eq_getElem?, hlast, Bool.eq_iff_iff]
          simp
          omega
      refine Br_intro (fun ht => ?_) fun hf => ?_
      · obtain ⟨x, A2, rfl, hle⟩ := hbt ht
        rw [natI_cons] at hrA3d
        obtain ⟨aa, haa, hc'⟩ := hrA3d.at (i := 0) (v := .int .i64 x) rfl
        simp only [List.length_cons] at hca ⊢
        refine optP_intro haa ⟨⟨by omega, by omega⟩, x, hc', ⟨by omega, by omega⟩, ?_⟩
        have e : A2.length + 1 - 1 = A2.length := by omega
        rw [e]
        exact main2 (sliceA pa' ca' 1 1) pb' (ca' - 1) cb' A2 B x (by omega) hcb (by simp only [List.length_cons]; omega) (hMI.stepA hle) (hrA3d.tail (by rw [ints_len, natI_len]; exact hca)) hrB3d (fun b hb => hpa b (at_sliceA hb)) hpb
      · obtain ⟨x, B2, rfl, hle⟩ := hbf hf
        rw [natI_cons] at hrB3d
        obtain ⟨aa, haa, hc'⟩ := hrB3d.at (i := 0) (v := .int .i64 x) rfl
        simp only [List.length_cons] at hcb ⊢
        refine optP_intro haa ⟨⟨by omega, by omega⟩, x, hc', ⟨by omega, by omega⟩, ?_⟩
        have e : B2.length + 1 - 1 = B2.length := by omega
        rw [e]
        exact main2 pa' (sliceA pb' cb' 1 1) ca' (cb' - 1) A B2 x hca (by omega) (by simp only [List.length_cons]; omega) (hMI.stepB hle) hrA3d (hrB3d.tail (by rw [ints_len, natI_len]; exact hcb)) hpa (fun b hb => hpb b (at_sliceA hb))
    refine Br_eq (fun hb0 => main1 true (fun _ => ?_) fun h => by cases h) fun hb0 => Br_dec (fun ha0 => ?_) fun ha0 => main1 false (fun h => by cases h) fun _ => ?_
    · have hb : B = [] := List.eq_nil_of_length_eq_zero (by omega)
      subst hb
      cases A with
      | nil => simp at hpos
      | cons x A2 => exact ⟨x, A2, rfl, fun z hz => nomatch hz⟩
    · cases A with
      | nil => simp at ha0
      | cons x A2 =>
        cases B with
        | nil => simp at hb0
        | cons y B2 =>
          have hA := List.pairwise_cons.1 hMI.aasc
          have hB := List.pairwise_cons.1 hMI.basc
          rw [natI_cons] at hrA3d hrB3d
          obtain ⟨aa, haa, hca'⟩ := hrA3d.at (i := 0) (v := .int .i64 x) rfl
          obtain ⟨ab, hab, hcb'⟩ := hrB3d.at (i := 0) (v := .int .i64 y) rfl
          refine optP_intro haa ⟨⟨by omega, by omega⟩, x, hca', optP_intro hab ⟨⟨by omega, by simp only [List.length_cons]; omega⟩, y, hcb', main1 _ (fun ht => ⟨x, A2, rfl, fun z hz => ?_⟩) fun hf => ⟨y, B2, rfl, fun z hz => ?_⟩⟩⟩
          · have h1 : (x : Int) ≤ y := of_decide_eq_true ht
            rcases List.mem_cons.1 hz with rfl | hz
            · omega
            · have := hB.1 z hz; omega
          · have h1 : ¬ (x : Int) ≤ y := of_decide_eq_false hf
            rcases List.mem_cons.1 hz with rfl | hz
            · omega
            · have := hA.1 z hz; omega
    · have ha : A = [] := List.eq_nil_of_length_eq_zero (by omega)
      subst ha
      cases B with
      | nil => simp at hb0
      | cons y B2 => exact ⟨y, B2, rfl, fun z hz => nomatch hz⟩

end Go.Proofs.YtajfdcbknghipaaGreatDoor
end
