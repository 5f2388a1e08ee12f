/- The law TransformCondition of the package credencelaw23 answers true at every input and leaves its arguments as they were (Rows.TransformConditionCardSaid); no condition beyond the card's own: the three listed tables stand as the program's text lays them. Part 22 of 25. -/
import Derived.WideKeyRuns
import Derived.Laws.StructEq
import Derived.Test.YtajfdcbknghipaaGreatDoorW17
import Derived.Test.YtajfdcbknghipaaGreatDoorW21
import Derived.Test.YtajfdcbknghipaaGreatDoorW13
import Derived.Test.YtajfdcbknghipaaGreatDoorW14

section
/- Natural numbers as lists of digits of 32 bits: plain Lean. -/
namespace Go.Fm
def W32 : Nat := 4294967296
def natV : List Nat → Nat
  | [] => 0
  | d :: ds => d + W32 * natV ds
def trimD (ds : List Nat) : List Nat := (ds.reverse.dropWhile fun d => decide (d = 0)).reverse
theorem trimD_nil : trimD [] = [] := rfl
theorem trimD_snoc0 (ds : List Nat) : trimD (ds ++ [0]) = trimD ds := by unfold trimD; rw [List.reverse_append]; simp
theorem trimD_snoc (ds : List Nat) {d : Nat} (h : d ≠ 0) : trimD (ds ++ [d]) = ds ++ [d] := by unfold trimD; rw [List.reverse_append]; simp [h]
theorem natV_append (a b : List Nat) : natV (a ++ b) = natV a + W32 ^ a.length * natV b := by
  induction a with
  | nil => simp [natV]
  | cons d a ih => rw [List.cons_append, natV, natV, ih, List.length_cons, Nat.pow_succ, Nat.mul_add, ← Nat.mul_assoc, Nat.mul_comm W32 (W32 ^ a.length), Nat.add_assoc]
theorem trimD_pre (ds : List Nat) : ∃ k, ds = trimD ds ++ List.replicate k 0 := by
  have key : ∀ (n : Nat) (ds : List Nat), ds.length = n → ∃ k, ds = trimD ds ++ List.replicate k 0 := by
    intro n
    induction n with
    | zero => intro ds h; rw [List.eq_nil_of_length_eq_zero h]; exact ⟨0, rfl⟩
    | succ n ih =>
      intro ds h
      have hne : ds ≠ [] := by intro e; rw [e] at h; cases h
      rw [← List.dropLast_concat_getLast hne]
      by_cases h0 : ds.getLast hne = 0
      · rw [h0, trimD_snoc0]
        obtain ⟨k, hk⟩ := ih ds.dropLast (by rw [List.length_dropLast]; omega)
        refine ⟨k + 1, ?_⟩
        rw [List.replicate_succ', ← List.append_assoc, ← hk]
      · rw [trimD_snoc _ h0]; exact ⟨0, by simp⟩
  exact key _ ds rfl
theorem natV_zeros (k : Nat) : natV (List.replicate k 0) = 0 := by
  induction k with
  | zero => rfl
  | succ k ih => rw [List.replicate_succ, natV, ih]; simp
theorem natV_trim (ds : List Nat) : natV (trimD ds) = natV ds := by
  obtain ⟨k, hk⟩ := trimD_pre ds
  conv => rhs; rw [hk, natV_append, natV_zeros]
  simp
theorem trimD_len (ds : List Nat) : (trimD ds).length ≤ ds.length := by
  obtain ⟨k, hk⟩ := trimD_pre ds
  have := congrArg List.length hk
  rw [List.length_append] at this; omega
theorem trimD_mem {ds : List Nat} {d : Nat} (h : d ∈ trimD ds) : d ∈ ds := by
  obtain ⟨k, hk⟩ := trimD_pre ds
  rw [hk]; exact List.mem_append_left _ h
theorem trimD_take (ds : List Nat) : trimD ds = ds.take (trimD ds).length := by
  obtain ⟨k, hk⟩ := trimD_pre ds
  have h2 : ds.take (trimD ds).length = (trimD ds ++ List.replicate k 0).take (trimD ds).length := by rw [← hk]
  rw [h2, List.take_left]
/-- The digits of a sum, the shorter number behind. -/
def addD : List Nat → List Nat → Nat → List Nat
  | [], _, c => [c]
  | x :: a, b, c => (x + c + b.headD 0) % W32 :: addD a b.tail ((x + c + b.headD 0) / W32)
theorem addD_len : ∀ (a b : List Nat) (c : Nat), (addD a b c).length = a.length + 1
  | [], _, _ => rfl
  | x :: a, b, c => by rw [addD, List.length_cons, addD_len a, List.length_cons]
theorem addD_val : ∀ (a b : List Nat) (c : Nat), b.length ≤ a.length → natV (addD a b c) = natV a + natV b + c
  | [], b, c, h => by
    have : b = [] := List.eq_nil_of_length_eq_zero (by simpa using h)
    subst this; simp [addD, natV]
  | x :: a, [], c, h => by
    have ih := addD_val a [] ((x + c + 0) / W32) (by simp)
    have e : natV (addD (x :: a) [] c) = (x + c + 0) % W32 + W32 * natV (addD a [] ((x + c + 0) / W32)) := rfl
    have e2 : natV (x :: a) = x + W32 * natV a := rfl
    have e3 : natV [] = 0 := rfl
    rw [e, ih, e2, e3]
    have := Nat.mod_add_div (x + c + 0) W32
    rw [Nat.mul_add, Nat.mul_add]; omega
  | x :: a, y :: b, c, h => by
    have ih := addD_val a b ((x + c + y) / W32) (by simpa using h)
    have e : natV (addD (x :: a) (y :: b) c) = (x + c + y) % W32 + W32 * natV (addD a b ((x + c + y) / W32)) := rfl
    have e2 : natV (x :: a) = x + W32 * natV a := rfl
    have e3 : natV (y :: b) = y + W32 * natV b := rfl
    rw [e, ih, e2, e3]
    have := Nat.mod_add_div (x + c + y) W32
    rw [Nat.mul_add, Nat.mul_add]; omega
/-- The digits of a number, without leading zeros. -/
structure NormD (ds : List Nat) : Prop where
  lt : ∀ d ∈ ds, d < W32
  norm : trimD ds = ds
theorem natV_inj : ∀ {a b : List Nat}, NormD a → NormD b → natV a = natV b → a = b := by
  have hlast : ∀ (ds : List Nat), trimD ds = ds → natV ds = 0 → ds = [] := by
    intro ds h h0
    rcases List.eq_nil_or_concat ds with rfl | ⟨l, d, rfl⟩
    · rfl
    · exfalso
      rw [List.concat_eq_append] at *
      by_cases hd : d = 0
      · subst hd
        rw [trimD_snoc0] at h
        have := trimD_len l
        rw [h, List.length_append] at this; simp at this; omega
      · rw [natV_append] at h0
        have h1 : 0 < W32 ^ l.length := Nat.pow_pos (by decide)
        have h2 : 0 < natV [d] := by simp [natV]; omega
        have := Nat.mul_pos h1 h2
        omega
  have htail : ∀ {d : Nat} {ds : List Nat}, trimD (d :: ds) = d :: ds → trimD ds = ds := by
    intro d ds h
    rcases List.eq_nil_or_concat ds with rfl | ⟨l, e, rfl⟩
    · rfl
    · rw [List.concat_eq_append] at *
      by_cases he : e = 0
      · subst he
        exfalso
        rw [← List.cons_append, trimD_snoc0] at h
        have := trimD_len (d :: l)
        rw [h] at this; simp at this; omega
      · exact trimD_snoc l he
  intro a
  induction a with
  | nil => intro b _ hb h; exact (hlast b hb.norm (by rw [← h]; rfl)).symm
  | cons x a ih =>
    intro b ha hb h
    cases b with
    | nil => exact hlast _ ha.norm h
    | cons y b =>
      rw [natV, natV] at h
      have hx := ha.lt x List.mem_cons_self
      have hy := hb.lt y List.mem_cons_self
      have h1 : x = y := by
        have h3 := congrArg (· % W32) h
        simp only [Nat.add_mul_mod_self_left] at h3
        rw [Nat.mod_eq_of_lt hx, Nat.mod_eq_of_lt hy] at h3
        exact h3
      subst h1
      have h2 : natV a = natV b := Nat.eq_of_mul_eq_mul_left (show 0 < W32 by decide) (by omega)
      rw [ih ⟨fun d hd => ha.lt d (List.mem_cons_of_mem _ hd), htail ha.norm⟩ ⟨fun d hd => hb.lt d (List.mem_cons_of_mem _ hd), htail hb.norm⟩ h2]
theorem addD_lt : ∀ (a b : List Nat) (c : Nat), (∀ d ∈ a, d < W32) → (∀ d ∈ b, d < W32) → c ≤ 1 → ∀ d ∈ addD a b c, d < W32
  | [], _, c, _, _, hc, d, hd => by
    simp only [addD, List.mem_singleton] at hd
    subst hd
    unfold W32; omega
  | x :: a, b, c, ha, hb, hc, d, hd => by
    rw [addD, List.mem_cons] at hd
    have hx := ha x List.mem_cons_self
    have hh : b.headD 0 < W32 := by
      cases b with
      | nil => decide
      | cons y b => exact hb y List.mem_cons_self
    rcases hd with rfl | hd
    · exact Nat.mod_lt _ (by decide)
    · refine addD_lt a b.tail _ (fun d hd => ha d (List.mem_cons_of_mem _ hd)) (fun d hd => hb d (List.mem_of_mem_tail hd)) ?_ d hd
      have h2 : x + c + b.headD 0 < W32 * 2 := by omega
      have := Nat.div_lt_of_lt_mul h2
      omega
theorem trimD_idem (ds : List Nat) : trimD (trimD ds) = trimD ds := by
  have key : ∀ (n : Nat) (ds : List Nat), ds.length = n → trimD (trimD ds) = trimD ds := by
    intro n
    induction n with
    | zero => intro ds h; rw [List.eq_nil_of_length_eq_zero h]; rfl
    | succ n ih =>
      intro ds h
      have hne : ds ≠ [] := by intro e; rw [e] at h; cases h
      rw [← List.dropLast_concat_getLast hne]
      by_cases h0 : ds.getLast hne = 0
      · rw [h0, trimD_snoc0]; exact ih _ (by rw [List.length_dropLast]; omega)
      · rw [trimD_snoc _ h0, trimD_snoc _ h0]
  exact key _ ds rfl
theorem normD_trim {ds : List Nat} (h : ∀ d ∈ ds, d < W32) : NormD (trimD ds) := ⟨fun d hd => h d (trimD_mem hd), trimD_idem ds⟩
end Go.Fm
namespace Go.Fm
theorem natV_lt : ∀ {ds : List Nat}, (∀ d ∈ ds, d < W32) → natV ds < W32 ^ ds.length
  | [], _ => by simp [natV]
  | d :: ds, h => by
    have h1 := natV_lt (ds := ds) fun e he => h e (List.mem_cons_of_mem _ he)
    have h2 := h d List.mem_cons_self
    rw [natV, List.length_cons, Nat.pow_succ]
    have h3 : W32 * natV ds + W32 ≤ W32 ^ ds.length * W32 := by
      rw [Nat.mul_comm (W32 ^ ds.length)]
      have : W32 * (natV ds + 1) ≤ W32 * W32 ^ ds.length := Nat.mul_le_mul_left _ h1
      rw [Nat.mul_add] at this; omega
    omega
/-- Lists of one length that agree above place i, where the first is less. -/
theorem natV_less {a b : List Nat} {i x y : Nat} (ha : ∀ d ∈ a, d < W32) (hi : a[i]? = some x) (hj : b[i]? = some y) (hd : a.drop (i + 1) = b.drop (i + 1)) (hxy : x < y) : natV a < natV b := by
  obtain ⟨h1, h2⟩ := List.getElem?_eq_some_iff.1 hi
  obtain ⟨h3, h4⟩ := List.getElem?_eq_some_iff.1 hj
  have e1 : a = a.take i ++ (x :: a.drop (i + 1)) := by rw [← h2, List.getElem_cons_drop, List.take_append_drop]
  have e2 : b = b.take i ++ (y :: b.drop (i + 1)) := by rw [← h4, List.getElem_cons_drop, List.take_append_drop]
  have l1 : (a.take i).length = i := by rw [List.length_take]; omega
  have l2 : (b.take i).length = i := by rw [List.length_take]; omega
  have v1 := natV_lt (ds := a.take i) fun d hd => ha d (List.mem_of_mem_take hd)
  rw [l1] at v1
  rw [e1, e2, natV_append, natV_append, l1, l2, natV, natV, hd]
  have : W32 ^ i * (x + W32 * natV (b.drop (i + 1))) + W32 ^ i ≤ W32 ^ i * (y + W32 * natV (b.drop (i + 1))) := by
    rw [← Nat.mul_succ]
    exact Nat.mul_le_mul_left _ (by omega)
  omega
theorem natV_short {a b : List Nat} (ha : NormD a) (hb : NormD b) (h : a.length < b.length) : natV a < natV b := by
  rcases List.eq_nil_or_concat b with rfl | ⟨l, d, rfl⟩
  · simp at h
  · rw [List.concat_eq_append] at *
    have hd : d ≠ 0 := by
      intro e
      subst e
      have h1 := hb.norm
      rw [trimD_snoc0] at h1
      have := trimD_len l
      rw [h1, List.length_append] at this; simp at this; omega
    have h1 := natV_lt ha.lt
    rw [natV_append]
    rw [List.length_append] at h
    have h2 : W32 ^ a.length ≤ W32 ^ l.length := Nat.pow_le_pow_right (by decide) (by simp at h; omega)
    have h3 : W32 ^ l.length * 1 ≤ W32 ^ l.length * natV [d] := Nat.mul_le_mul_left _ (by simp [natV]; omega)
    omega
def cmpN (a b : Nat) : Int := if a < b then -1 else if a = b then 0 else 1
end Go.Fm
end

section
/- bignat: trim, Add, FromUint64; the reference's natural numbers. Conditions on memory as stated. -/
namespace Go.Proofs.YtajfdcbknghipaaGreatDoor
open Go Go.Sh Go.Fm

variable {w : World}

def u32s (ds : List Nat) : List Value := ds.map fun (d : Nat) => Value.int .u32 (d : Int)
theorem u32s_len (ds : List Nat) : (u32s ds).length = ds.length := by simp [u32s]
theorem u32s_get (ds : List Nat) (i : Nat) : (u32s ds)[i]? = (ds[i]?).map fun (d : Nat) => Value.int .u32 (d : Int) := by unfold u32s; rw [List.getElem?_map]
theorem u32s_append (a b : List Nat) : u32s (a ++ b) = u32s a ++ u32s b := by simp [u32s]
theorem elem_nat : ElemOK Tryz.prog 46 94 1 4 (.int .u32 0) := elem_of (by kernel_rfl) (by kernel_rfl) rfl (by decide)
theorem shr32 (m : Nat) : shrV .u64 (m : Int) 32 = ((m / W32 : Nat) : Int) := by
  unfold shrV W32
  have : (2 : Int) ^ (min (32 : Int).toNat IntKind.u64.bits) = 4294967296 := by decide
  rw [this, Int.fdiv_eq_ediv_of_nonneg _ (by omega)]
  omega
theorem wrap_u32_mod (m : Nat) : IntKind.u32.wrap (m : Int) = ((m % W32 : Nat) : Int) := by
  unfold IntKind.wrap W32; simp only [IntKind.bits, IntKind.signed]; simp
/-- A number in memory: its digits. -/
structure NatM (w : World) (p : Option Addr) (c : Nat) (ds : List Nat) : Prop where
  row : Row w p (u32s ds)
  cap : ds.length ≤ c
  lt : ∀ d ∈ ds, d < W32
theorem NatM.keep {fp : Nat → Prop} {w' : World} {p : Option Addr} {c : Nat} {ds : List Nat} (h : NatM w p c ds) (hm : Mod fp w w') (hn : ∀ b, At p b → ¬ fp b) : NatM w' p c ds := ⟨h.row.keep hm fun a ha => hn _ ⟨a, ha, rfl⟩, h.cap, h.lt⟩
theorem NatM.only {w' : World} {p : Option Addr} {c : Nat} {ds : List Nat} (h : NatM w p c ds) (hm : Mod NoB w w') : NatM w' p c ds := h.keep hm fun _ _ => NoB.not
theorem natM_nil (w : World) (c : Nat) : NatM w none c [] := ⟨.inl rfl, Nat.zero_le _, fun d hd => nomatch hd⟩

/-- The loop that drops leading zeros, in both texts. -/
theorem trim_loop {x : Option Addr} {xc : Nat} {ds : List Nat} (h : NatM w x xc ds) (hsm : ds.length ≤ 1000000000001) {K : Int → World → Prop} (hK : ∀ w', Mod NoB w w' → K ((trimD ds).length : Nat) w') :
    ∃ (I : Nat → List Value → World → Prop), (∃ n : Nat, I n [.int .i64 (ds.length : Nat)] w) ∧ ∀ (n : Nat) (n_1 : Int) (w1 : World), I n [.int .i64 n_1] w1 → ∀ (J : List Value → World → Prop), (∀ (b : Bool) (w1 : World), Br b (∃ n' : Nat, n' < n ∧ I n' [.int .i64 (IntKind.i64.wrap (n_1 - 1))] w1) (K n_1 w1) → J [.bool b] w1) →
      Br (decide (n_1 > 0)) (optP x fun a => (0 ≤ IntKind.i64.wrap (n_1 - 1) ∧ IntKind.i64.wrap (n_1 - 1) < (ds.length : Nat)) ∧ ∃ m : Int, w1.cell? (a.add ((IntKind.i64.wrap (n_1 - 1)).toNat * 1)) = some (.int .u32 m) ∧ J [.bool (m == 0)] w1) (J [.bool false] w1) := by
  refine ⟨fun m vs w' => ∃ k : Nat, m = k ∧ k ≤ ds.length ∧ vs = [.int .i64 k] ∧ trimD (ds.take k) = trimD ds ∧ Mod NoB w w', ⟨_, ds.length, rfl, Nat.le_refl _, rfl, by rw [List.take_length], Mod.refl _ _⟩, ?_⟩
  rintro m k' w1 ⟨k, rfl, hk, hvs, htr, hm1⟩ J hJ
  simp only [List.cons.injEq, Value.int.injEq, true_and, and_true] at hvs
  subst hvs
  refine Br_dec (fun hpos => ?_) fun hz => ?_
  · have hw : IntKind.i64.wrap ((m : Int) - 1) = ((m - 1 : Nat) : Int) := by rw [wrap_i64 (by omega) (by omega)]; omega
    rw [hw] at hJ ⊢
    have hv : ds[m - 1]? = some (ds[m - 1]'(by omega)) := List.getElem?_eq_getElem (by omega)
    have htk : ds.take m = ds.take (m - 1) ++ [ds[m - 1]'(by omega)] := by
      have := List.take_succ_eq_append_getElem (l := ds) (i := m - 1) (by omega)
      rw [show m - 1 + 1 = m by omega] at this
      exact this
    generalize ds[m - 1]'(by omega) = v at hv htk
    obtain ⟨a, ha, hc⟩ := (h.row.keep hm1 fun _ _ => NoB.not).at (i := m - 1) (v := .int .u32 v) (by rw [u32s_get, hv]; rfl)
    refine optP_intro ha ⟨⟨by omega, by omega⟩, v, by rw [Int.toNat_natCast, Nat.mul_one]; exact hc, hJ _ _ (Br_eq (fun h0 => ?_) fun h0 => ?_)⟩
    · have hv0 : v = 0 := by omega
      subst hv0
      rw [htk, trimD_snoc0] at htr
      exact ⟨m - 1, by omega, m - 1, rfl, by omega, rfl, htr, hm1⟩
    · rw [htk, trimD_snoc _ (by omega), ← htk] at htr
      have : (trimD ds).length = m := by rw [← htr, List.length_take]; omega
      have := hK w1 hm1
      rw [‹(trimD ds).length = m›] at this
      exact this
  · have hm0 : m = 0 := by omega
    subst hm0
    rw [List.take_zero, trimD_nil] at htr
    refine hJ _ _ (Br_false rfl ?_)
    have := hK w1 hm1
    rw [← htr] at this
    exact this

theorem trim_ok {x : Option Addr} {xc : Nat} {ds : List Nat} (h : NatM w x xc ds) (hsm : ds.length ≤ 1000000000001) :
    CallsF Tryz.prog 60 #[.slice x ds.length xc] w fun e w' => ∃ (q : Option Addr) (c : Nat), e = .returned (.slice q (trimD ds).length c) ∧ NatM w' q c (trimD ds) ∧ (∀ b, At q b → At x b) ∧ Mod NoB w w' := by
  refine C_bignat_trim _ _ _ _ _ ?_
  have hcap := h.cap
  have htl := trimD_len ds
  refine trim_loop h hsm fun w' hm => ?_
  rw [Int.toNat_natCast]
  refine ⟨⟨by omega, by omega⟩, ⟨by omega, by omega⟩, ?_⟩
  refine ⟨_, _, rfl, ⟨?_, by omega, fun d hd => h.lt d (trimD_mem hd)⟩, fun b hb => at_sliceA hb, hm⟩
  have e : u32s ds = u32s (trimD ds) ++ u32s (ds.drop (trimD ds).length) := by
    conv => lhs; rw [← List.take_append_drop (trimD ds).length ds, ← trimD_take]
    exact u32s_append _ _
  have hr := h.row.keep hm fun _ _ => NoB.not
  rw [e] at hr
  have h1 := hr.front
  have h2 := Row.skip (c := (trimD ds).length) (k := 0) h1 (by rw [u32s_len]; exact Nat.le_refl _)
  simpa using h2

theorem fromU64_ok (x : Nat) (hx : x < 18446744073709551616) (w : World) : CallsF Tryz.prog 41 #[.int .u64 x] w fun e w' => ∃ (q : Option Addr) (c : Nat) (r : List Nat), e = .returned (.slice q r.length c) ∧ NatM w' q c r ∧ NormD r ∧ natV r = x ∧ (∀ b, At q b → w.heap.size ≤ b) ∧ Mod NoB w w' := by
  refine C_bignat_FromUint64 _ _ _ ⟨by omega, ?_⟩
  intro w1 hw1
  rw [shr32, wrap_u32_mod, wrap_u32_mod] at hw1
  have hb := hw1.blk 0 rfl
  have hlt : ∀ d ∈ [x % W32, x / W32 % W32], d < W32 := by
    intro d hd
    simp only [List.mem_cons, List.not_mem_nil, or_false] at hd
    rcases hd with rfl | rfl <;> exact Nat.mod_lt _ (by decide)
  have hn : NatM w1 (some ⟨w.heap.size + 0, 0, none⟩) 2 [x % W32, x / W32 % W32] := ⟨Row.of_blk hb, Nat.le_refl _, hlt⟩
  refine (trim_ok hn (by simp)).mono ?_
  rintro e w2 ⟨q, c, rfl, hq, hat, hm2⟩
  refine ⟨q, _, c, rfl, q, c, _, rfl, hq, normD_trim hlt, ?_, fun b hb => ?_, hw1.mod.then hm2⟩
  · rw [natV_trim]
    have h1 : x / W32 % W32 = x / W32 := Nat.mod_eq_of_lt (Nat.div_lt_of_lt_mul (by unfold W32; omega))
    rw [h1]
    have := Nat.mod_add_div x W32
    simp only [natV, Nat.mul_zero, Nat.add_zero]; omega
  · have := hat b hb
    rw [at_some] at this; omega

theorem add_ok {x y : Option Addr} {xc yc : Nat} {a b : List Nat} (ha : NatM w x xc a) (hb : NatM w y yc b) (hla : a.length ≤ 1000000000000) (hlb : b.length ≤ 1000000000000) :
    CallsF Tryz.prog 42 #[.slice x a.length xc, .slice y b.length yc] w fun e w' => ∃ (q : Option Addr) (c : Nat) (r : List Nat), e = .returned (.slice q r.length c) ∧ NatM w' q c r ∧ NormD r ∧ natV r = natV a + natV b ∧ (∀ b, At q b → w.heap.size ≤ b) ∧ Mod NoB w w' := by
  refine C_bignat_Add _ _ _ _ _ _ _ _ ?_
  refine (trim_ok ha (by omega)).mono ?_
  rintro e w1 ⟨p1, c1, rfl, h1, _, hm1⟩
  refine ⟨_, _, _, rfl, ?_⟩
  refine (trim_ok (hb.only hm1) (by omega)).mono ?_
  rintro e w2 ⟨p2, c2, rfl, h2, _, hm2⟩
  refine ⟨_, _, _, rfl, ?_⟩
  have h1' := h1.only hm2
  have hm02 := hm1.then hm2
  rw [← natV_trim a, ← natV_trim b]
  have hsa : (trimD a).length ≤ 1000000000000 := Nat.le_trans (trimD_len a) hla
  have hsb : (trimD b).length ≤ 1000000000000 := Nat.le_trans (trimD_len b) hlb
  generalize trimD a = A at *
  generalize trimD b = Bd at *
  intro J hJ
  have body : ∀ (pa pb : Option Addr) (ca cb : Nat) (A' B' : List Nat), NatM w2 pa ca A' → NatM w2 pb cb B' → A'.length ≤ 1000000000000 → B'.length ≤ A'.length → natV A' + natV B' = natV A + natV Bd → J [.slice pa A'.length ca, .slice pb B'.length cb] w2 := by
    intro pa pb ca cb A' B' hA hB hsa' hle hsum
    refine hJ _ _ _ _ _ _ _ ?_
    have hw1 : IntKind.i64.wrap ((A'.length : Int) + 1) = ((A'.length + 1 : Nat) : Int) := by rw [wrap_i64 (by omega) (by omega)]; omega
    rw [hw1]
    obtain ⟨w3, hmk, ho3, hm3, hs3⟩ := makeSlice_own (w := w2) elem_nat rfl .i64 .i64 (l := A'.length + 1) (n := A'.length + 1) (Nat.le_refl _) (by omega) (by omega)
    refine ⟨w3, _, _, _, hmk, ?_⟩
    have hb3 : Blk w3 w2.heap.size (List.replicate (A'.length + 1) (.int .u32 0)) 94 := ho3.full
    have hs02 := hm02.size
    refine ⟨fun m vs w' => ∃ (i cy : Nat) (pr : List Nat), m = A'.length - i ∧ i ≤ A'.length ∧ vs = [.int .u64 cy, .int .i64 i] ∧ pr.length = i ∧ cy ≤ 1 ∧ addD A' B' 0 = pr ++ addD (A'.drop i) (B'.drop i) cy ∧ Blk w' w2.heap.size (u32s pr ++ List.replicate (A'.length + 1 - i) (.int .u32 0)) 94 ∧ Mod (· = w2.heap.size) w3 w',
      ⟨_, 0, 0, [], rfl, Nat.zero_le _, rfl, rfl, Nat.zero_le _, rfl, hb3, Mod.refl _ _⟩, ?_⟩
    rintro m cy' i' w4 ⟨i, cy, pr, rfl, hi, hvs, hpl, hcy, hadd, hb4, hm4⟩
    simp only [List.cons.injEq, Value.int.injEq, true_and, and_true] at hvs
    obtain ⟨rfl, rfl⟩ := hvs
    have hm24 : Mod NoB w2 w4 := hm3.new _ hm4 fun b hb e => by have e' : b = w2.heap.size := e; omega
    have hm04 := hm02.then hm24
    refine Br_dec (fun hlt => ?_) fun hge => ?_
    · have hi' : i < A'.length := by omega
      have hx : A'[i]? = some A'[i] := List.getElem?_eq_getElem hi'
      have hd1 : A'.drop i = A'[i] :: A'.drop (i + 1) := List.drop_eq_getElem_cons hi'
      have hxlt := hA.lt _ (List.getElem_mem hi')
      generalize A'[i] = d at hx hd1 hxlt
      obtain ⟨aa, haa, hca⟩ := (hA.row.keep hm24 fun _ _ => NoB.not).at (i := i) (v := .int .u32 d) (by rw [u32s_get, hx]; rfl)
      have hxl : d < 4294967296 := hxlt
      refine optP_intro haa ⟨⟨by omega, by omega⟩, d, by rw [Int.toNat_natCast, Nat.mul_one]; exact hca, ?_⟩
      intro J2 hJ2
      have hhd : (B'.drop i).headD 0 < W32 := by
        cases hh : B'.drop i with
        | nil => decide
        | cons y r => exact hB.lt y (List.mem_of_mem_drop (by rw [hh]; exact List.mem_cons_self))
      have hhd' : (B'.drop i).headD 0 < 4294967296 := hhd
      have tail : J2 [.int .u64 ((d + cy + (B'.drop i).headD 0 : Nat) : Int)] w4 := by
        refine hJ2 _ _ ⟨⟨by omega, by omega⟩, ?_, ?_⟩
        · rw [own_add]
          refine canStore_blk hb4 _ 0 rfl ?_
          simp only [List.length_append, u32s_len, hpl, List.length_replicate, List.length_cons, List.length_nil, Int.toNat_natCast]
          omega
        intro w5 hw5
        rw [own_add, Int.toNat_natCast, Nat.zero_add, Nat.mul_one, wrap_u32_mod] at hw5
        have hb5 := hw5.blk hb4
        have hrep : List.replicate (A'.length + 1 - i) (Value.int .u32 0) = [.int .u32 0] ++ List.replicate (A'.length + 1 - (i + 1)) (.int .u32 0) := by
          have : A'.length + 1 - i = (A'.length + 1 - (i + 1)) + 1 := by omega
          rw [this, List.replicate_succ]; rfl
        rw [hrep, setAt_at (by rw [u32s_len, hpl]) (by simp)] at hb5
        refine ⟨by omega, A'.length - (i + 1), by omega, i + 1, (d + cy + (B'.drop i).headD 0) / W32, pr ++ [(d + cy + (B'.drop i).headD 0) % W32], rfl, hi', ?_, by rw [List.length_append, hpl]; rfl, ?_, ?_, ?_, hm4.then hw5.mod⟩
        · rw [shr32, wrap_i64 (by omega) (by omega)]; rfl
        · have : d + cy + (B'.drop i).headD 0 < W32 * 2 := by unfold W32; omega
          have := Nat.div_lt_of_lt_mul this
          omega
        · rw [hadd, hd1, addD, List.append_assoc, List.tail_drop]; rfl
        · rw [u32s_append, List.append_assoc]; exact hb5
      have hz1 : IntKind.u64.wrap (d : Int) = d := wrap_u64 (by omega) (by omega)
      have hz2 : IntKind.u64.wrap ((d : Int) + (cy : Int)) = ((d + cy : Nat) : Int) := by rw [wrap_u64 (by omega) (by omega)]; omega
      rw [hz1, hz2]
      refine Br_dec (fun hlt2 => ?_) fun hge2 => ?_
      · have hj : B'[i]? = some (B'[i]'(by omega)) := List.getElem?_eq_getElem (by omega)
        have hh : (B'.drop i).headD 0 = B'[i]'(by omega) := by rw [List.drop_eq_getElem_cons (by omega)]; rfl
        rw [hh] at tail hhd'
        generalize B'[i]'(by omega) = y at hj tail hhd'
        obtain ⟨ab, hab, hcb⟩ := (hB.row.keep hm24 fun _ _ => NoB.not).at (i := i) (v := .int .u32 y) (by rw [u32s_get, hj]; rfl)
        refine optP_intro hab ⟨⟨by omega, by omega⟩, y, by rw [Int.toNat_natCast, Nat.mul_one]; exact hcb, ?_⟩
        have hz3 : IntKind.u64.wrap (y : Int) = y := wrap_u64 (by omega) (by omega)
        have hz4 : IntKind.u64.wrap (((d + cy : Nat) : Int) + (y : Int)) = ((d + cy + y : Nat) : Int) := by rw [wrap_u64 (by omega) (by omega)]; omega
        rw [hz3, hz4]
        exact tail
      · have hh : (B'.drop i).headD 0 = 0 := by rw [List.drop_eq_nil_of_le (by omega)]; rfl
        rw [hh, Nat.add_zero] at tail
        exact tail
    · have hie : i = A'.length := by omega
      subst hie
      rw [List.drop_length, addD] at hadd
      have hrep : List.replicate (A'.length + 1 - A'.length) (Value.int .u32 0) = [.int .u32 0] := by
        have : A'.length + 1 - A'.length = 1 := by omega
        rw [this]; rfl
      rw [hrep] at hb4
      refine ⟨⟨by omega, by omega⟩, ?_, ?_⟩
      · rw [own_add]
        refine canStore_blk hb4 _ 0 rfl ?_
        simp only [List.length_append, u32s_len, hpl, List.length_cons, List.length_nil, Int.toNat_natCast]
        omega
      intro w5 hw5
      rw [own_add, Int.toNat_natCast, Nat.zero_add, Nat.mul_one, wrap_u32 (by omega) (by omega)] at hw5
      have hb5 := hw5.blk hb4
      have hset := setAt_at (vs := [Value.int .u32 (cy : Int)]) (pre := u32s pr) (old := [Value.int .u32 0]) (post := []) (i := A'.length) (by rw [u32s_len, hpl]) (by simp)
      rw [List.append_nil, List.append_nil] at hset
      rw [hset] at hb5
      have hb5' : Blk w5 w2.heap.size (u32s (addD A' B' 0)) 94 := by
        rw [hadd, u32s_append]; exact hb5
      have hal : (addD A' B' 0).length = A'.length + 1 := addD_len _ _ _
      have hltD := addD_lt A' B' 0 hA.lt hB.lt (Nat.zero_le _)
      have hn5 : NatM w5 (some ⟨w2.heap.size, 0, none⟩) (A'.length + 1) (addD A' B' 0) := ⟨Row.of_blk hb5', by omega, hltD⟩
      have hc5 := trim_ok hn5 (by omega)
      rw [hal] at hc5
      refine hc5.mono ?_
      rintro e w6 ⟨q, c, rfl, hq, hat, hm6⟩
      refine ⟨_, _, _, rfl, q, c, _, rfl, hq, normD_trim hltD, ?_, fun b hb => ?_, ?_⟩
      · rw [natV_trim, addD_val A' B' 0 hle, Nat.add_zero, hsum]
      · have := hat b hb
        rw [at_some] at this; omega
      · exact (hm04.new _ (show Mod (· = w2.heap.size) w4 w5 from hw5.mod) fun b hb e => by have e' : b = w2.heap.size := e; omega).then hm6
  refine Br_dec (fun hlt => body p2 p1 c2 c1 Bd A h2 h1' hsb (by omega) (Nat.add_comm _ _)) fun hge => body p1 p2 c1 c2 A Bd h1' h2 hsa (by omega) rfl

end Go.Proofs.YtajfdcbknghipaaGreatDoor
end

section
/- The number of leaves of a node: plain Lean. -/
namespace Go.Fm
def lvs (L : List Nd) : List Nat := L.foldl (fun acc n => acc ++ [(if n.kind = 2 then 1 else 0) + (n.ins.map fun x => acc.getD x 0).sum]) []
def lv (L : List Nd) (a : Nat) : Nat := (lvs L).getD a 0
theorem lvs_snoc (L : List Nd) (n : Nd) : lvs (L ++ [n]) = lvs L ++ [(if n.kind = 2 then 1 else 0) + (n.ins.map fun x => (lvs L).getD x 0).sum] := by
  unfold lvs; rw [List.foldl_append]; rfl
theorem lvs_length (L : List Nd) : (lvs L).length = L.length := by
  induction L using snoc_ind with
  | h0 => rfl
  | h1 L n ih => rw [lvs_snoc, List.length_append, List.length_append, ih]; rfl
theorem lvs_append (L e : List Nd) : ∃ r, lvs (L ++ e) = lvs L ++ r := by
  induction e using snoc_ind with
  | h0 => exact ⟨[], by simp⟩
  | h1 e n ih =>
    obtain ⟨r, hr⟩ := ih
    refine ⟨r ++ [(if n.kind = 2 then 1 else 0) + (n.ins.map fun x => (lvs (L ++ e)).getD x 0).sum], ?_⟩
    rw [← List.append_assoc, lvs_snoc, hr, List.append_assoc]
theorem lv_append {L e : List Nd} {a : Nat} (ha : a < L.length) : lv (L ++ e) a = lv L a := by
  obtain ⟨r, hr⟩ := lvs_append L e
  unfold lv
  rw [hr, List.getD_eq_getElem?_getD, List.getD_eq_getElem?_getD, List.getElem?_append_left (by rw [lvs_length]; exact ha)]
theorem lv_eq {L : List Nd} (hok : ∀ i n, L[i]? = some n → NdOK i n) {a : Nat} {n : Nd} (ha : L[a]? = some n) : lv L a = (if n.kind = 2 then 1 else 0) + (n.ins.map (lv L)).sum := by
  have hlt := (List.getElem?_eq_some_iff.1 ha).1
  have hge := (List.getElem?_eq_some_iff.1 ha).2
  have hsplit : L = (L.take a ++ [n]) ++ L.drop (a + 1) := by
    rw [List.append_assoc]
    show L = L.take a ++ (n :: L.drop (a + 1))
    rw [← hge, List.getElem_cons_drop, List.take_append_drop]
  have hl : (L.take a).length = a := by rw [List.length_take]; omega
  have h1 : lv L a = lv (L.take a ++ [n]) a := by
    have := lv_append (L := L.take a ++ [n]) (e := L.drop (a + 1)) (a := a) (by rw [List.length_append, hl]; simp)
    rw [← hsplit] at this
    exact this
  have h2 : lv (L.take a ++ [n]) a = (if n.kind = 2 then 1 else 0) + (n.ins.map fun x => (lvs (L.take a)).getD x 0).sum := by
    unfold lv
    rw [lvs_snoc, List.getD_eq_getElem?_getD, List.getElem?_append_right (by rw [lvs_length, hl]; exact Nat.le_refl _), lvs_length, hl, Nat.sub_self]
    rfl
  rw [h1, h2]
  congr 2
  refine List.map_congr_left fun x hx => ?_
  have hxa := (hok a n ha).lt x hx
  have := lv_append (L := L.take a) (e := [n] ++ L.drop (a + 1)) (a := x) (by rw [hl]; exact hxa)
  rw [← List.append_assoc, ← hsplit] at this
  exact this.symm
theorem normD_len {ds : List Nat} (h : NormD ds) {k : Nat} (hv : natV ds < W32 ^ k) : ds.length ≤ k := by
  rcases Nat.lt_or_ge k ds.length with hk | hk
  · exfalso
    rcases List.eq_nil_or_concat ds with rfl | ⟨l, d, rfl⟩
    · simp at hk
    · rw [List.concat_eq_append] at *
      have hd : d ≠ 0 := by
        intro e
        subst e
        have h1 := h.norm
        rw [trimD_snoc0] at h1
        have := trimD_len l
        rw [h1, List.length_append] at this; simp at this; omega
      rw [natV_append] at hv
      rw [List.length_append] at hk
      have h2 : W32 ^ k ≤ W32 ^ l.length := Nat.pow_le_pow_right (by decide) (by simp at hk; omega)
      have h3 : W32 ^ l.length * 1 ≤ W32 ^ l.length * natV [d] := Nat.mul_le_mul_left _ (by simp [natV]; omega)
      omega
  · exact hk
end Go.Fm
end

section
/- The reference's natural numbers compared; Leaves. Conditions on memory as stated. -/
namespace Go.Proofs.YtajfdcbknghipaaGreatDoor
open Go Go.Sh Go.Fm

variable {w : World}

theorem natNorm_ok {x : Option Addr} {xc : Nat} {ds : List Nat} (h : NatM w x xc ds) (hsm : ds.length ≤ 1000000000000) :
    CallsF Tryz.prog 40 #[.slice x ds.length xc] w fun e w' => ∃ (q : Option Addr) (c : Nat), e = .returned (.slice q (trimD ds).length c) ∧ NatM w' q c (trimD ds) ∧ (∀ b, At q b → w.heap.size ≤ b) ∧ Mod NoB w w' := by
  refine C_credenceref1_NatNorm _ _ _ _ _ ?_
  have hcap := h.cap
  have htl := trimD_len ds
  have hmax : maxLen = 9223372036854775807 := rfl
  refine trim_loop h (by omega) fun w1 hm1 => ?_
  rw [Int.toNat_natCast]
  refine ⟨⟨by omega, by omega⟩, ?_⟩
  intro w2 hw2
  have ho2 : Own w2 94 1 (some ⟨w1.heap.size + 0, 0, none⟩) 0 0 [] := Own.fresh hw2 0 1 0 rfl rfl (by decide)
  have e : u32s ds = u32s (trimD ds) ++ u32s (ds.drop (trimD ds).length) := by
    conv => lhs; rw [← List.take_append_drop (trimD ds).length ds, ← trimD_take]
    exact u32s_append _ _
  have hr := (h.row.keep hm1 fun _ _ => NoB.not).keep hw2.mod fun _ _ => NoB.not
  have hr2 := Row.skip (c := xc) (k := 0) hr (by rw [u32s_len]; exact hcap)
  rw [List.drop_zero, e] at hr2
  have hr3 := hr2.front
  obtain ⟨p', c', w3, hrun, hown, hm3, hat⟩ := append_own (m := (trimD ds).length) (mc := xc - 0) (ty := 46) elem_nat ho2 hr3 (by rw [u32s_len, Nat.mul_one]) (by
    intro u hu
    simp only [u32s, List.mem_map] at hu
    obtain ⟨y, _, rfl⟩ := hu; rfl) (by rw [hmax]; omega) (by omega)
  rw [Nat.zero_add, List.nil_append] at hown
  rw [Nat.zero_add] at hrun
  have hs1 := hm1.size
  have hs2 := hw2.size
  simp only [List.length_cons, List.length_nil] at hs2
  refine ⟨w3, p', _, c', hrun, p', c', rfl, ⟨hown.row, hown.le.1, fun d hd => h.lt d (trimD_mem hd)⟩, fun b hb => ?_, ?_⟩
  · rcases hat b hb with h' | h'
    · rw [at_some] at h'; omega
    · omega
  · exact (hm1.then hw2.mod).new _ hm3 fun b hb hp => by rw [at_some] at hp; omega

theorem natOf_ok (x : Nat) (hx : x < 18446744073709551616) (w : World) : CallsF Tryz.prog 22 #[.int .u64 x] w fun e w' => ∃ (q : Option Addr) (c : Nat) (r : List Nat), e = .returned (.slice q r.length c) ∧ NatM w' q c r ∧ NormD r ∧ natV r = x ∧ (∀ b, At q b → w.heap.size ≤ b) ∧ Mod NoB w w' := by
  refine C_credenceref1_NatOf _ _ _ ⟨by omega, ?_⟩
  intro w1 hw1
  rw [shr32, wrap_u32_mod, wrap_u32_mod] at hw1
  have hb := hw1.blk 0 rfl
  have hlt : ∀ d ∈ [x % W32, x / W32 % W32], d < W32 := by
    intro d hd
    simp only [List.mem_cons, List.not_mem_nil, or_false] at hd
    rcases hd with rfl | rfl <;> exact Nat.mod_lt _ (by decide)
  have hn : NatM w1 (some ⟨w.heap.size + 0, 0, none⟩) 2 [x % W32, x / W32 % W32] := ⟨Row.of_blk hb, Nat.le_refl _, hlt⟩
  refine (natNorm_ok hn (by simp)).mono ?_
  rintro e w2 ⟨q, c, rfl, hq, hat, hm2⟩
  have hs1 := hw1.mod.size
  refine ⟨q, _, c, rfl, q, c, _, rfl, hq, normD_trim hlt, ?_, fun b hb => by have := hat b hb; omega, hw1.mod.then hm2⟩
  rw [natV_trim]
  have h1 : x / W32 % W32 = x / W32 := Nat.mod_eq_of_lt (Nat.div_lt_of_lt_mul (by unfold W32; omega))
  rw [h1]
  have := Nat.mod_add_div x W32
  simp only [natV, Nat.mul_zero, Nat.add_zero]; omega

theorem natCmp_ok {x y : Option Addr} {xc yc : Nat} {a b : List Nat} (ha : NatM w x xc a) (hb : NatM w y yc b) (hla : a.length ≤ 1000000000000) (hlb : b.length ≤ 1000000000000) :
    CallsF Tryz.prog 20 #[.slice x a.length xc, .slice y b.length yc] w (Ret (.int .i64 (cmpN (natV a) (natV b))) NoB w) := by
  refine C_credenceref1_NatCmp _ _ _ _ _ _ _ _ ?_
  refine (natNorm_ok ha hla).mono ?_
  rintro e w1 ⟨p1, c1, rfl, h1, _, hm1⟩
  refine ⟨_, _, _, rfl, ?_⟩
  refine (natNorm_ok (hb.only hm1) hlb).mono ?_
  rintro e w2 ⟨p2, c2, rfl, h2, _, hm2⟩
  refine ⟨_, _, _, rfl, ?_⟩
  have h1' := h1.only hm2
  have hm02 := hm1.then hm2
  rw [← natV_trim a, ← natV_trim b]
  have hna := normD_trim ha.lt
  have hnb := normD_trim hb.lt
  have hsa : (trimD a).length ≤ 1000000000000 := Nat.le_trans (trimD_len a) hla
  have hsb : (trimD b).length ≤ 1000000000000 := Nat.le_trans (trimD_len b) hlb
  generalize trimD a = A at *
  generalize trimD b = Bd at *
  refine Br_ne (fun hne => Br_dec (fun hlt => ⟨?_, hm02⟩) fun hge => ⟨?_, hm02⟩) fun heq => ?_
  · have := natV_short hna hnb (by omega)
    unfold cmpN; rw [if_pos this]
  · have := natV_short hnb hna (by omega)
    unfold cmpN; rw [if_neg (by omega), if_neg (by omega)]
  have hl : A.length = Bd.length := by omega
  refine ⟨fun m vs w' => ∃ k : Nat, m = k ∧ k ≤ A.length ∧ vs = [.int .i64 0, .int .i64 ((k : Int) - 1)] ∧ A.drop k = Bd.drop k ∧ Mod NoB w2 w', ⟨_, A.length, rfl, Nat.le_refl _, by rw [wrap_i64 (by omega) (by omega)], by rw [List.drop_length, hl, List.drop_length], Mod.refl _ _⟩, ?_⟩
  rintro m z k' w3 ⟨k, rfl, hk, hvs, hdr, hm3⟩
  simp only [List.cons.injEq, Value.int.injEq, true_and, and_true] at hvs
  obtain ⟨rfl, rfl⟩ := hvs
  refine Br_dec (fun hpos => ?_) fun hz => ?_
  · obtain ⟨j, rfl⟩ : ∃ j, m = j + 1 := ⟨m - 1, by omega⟩
    have hj : (((j + 1 : Nat) : Int) - 1) = (j : Nat) := by omega
    rw [hj]
    have hx : A[j]? = some (A[j]'(by omega)) := List.getElem?_eq_getElem (by omega)
    have hy : Bd[j]? = some (Bd[j]'(by omega)) := List.getElem?_eq_getElem (by omega)
    have hdx : A.drop j = A[j]'(by omega) :: A.drop (j + 1) := List.drop_eq_getElem_cons (by omega)
    have hdy : Bd.drop j = Bd[j]'(by omega) :: Bd.drop (j + 1) := List.drop_eq_getElem_cons (by omega)
    generalize A[j]'(by omega) = x at hx hdx
    generalize Bd[j]'(by omega) = y at hy hdy
    have hm3d := hm3.then (drew_mod w3)
    have hm3dd := hm3d.then (drew_mod w3.drew)
    have r1 : ∀ {w' : World}, Mod NoB w2 w' → ∃ a1, p1 = some a1 ∧ w'.cell? (a1.add (j * 1)) = some (.int .u32 x) := fun hm => by
      obtain ⟨a1, h1, h2⟩ := (h1'.row.keep hm fun _ _ => NoB.not).at (i := j) (v := .int .u32 x) (by rw [u32s_get, hx]; rfl)
      exact ⟨a1, h1, by rw [Nat.mul_one]; exact h2⟩
    have r2 : ∀ {w' : World}, Mod NoB w2 w' → ∃ a1, p2 = some a1 ∧ w'.cell? (a1.add (j * 1)) = some (.int .u32 y) := fun hm => by
      obtain ⟨a1, h1, h2⟩ := (h2.row.keep hm fun _ _ => NoB.not).at (i := j) (v := .int .u32 y) (by rw [u32s_get, hy]; rfl)
      exact ⟨a1, h1, by rw [Nat.mul_one]; exact h2⟩
    obtain ⟨a1, q1, s1⟩ := r1 hm3d
    obtain ⟨a2, q2, s2⟩ := r2 hm3d
    obtain ⟨a3, q3, s3⟩ := r1 hm3dd
    obtain ⟨a4, q4, s4⟩ := r2 hm3dd
    refine optP_intro q1 ⟨⟨by omega, by omega⟩, x, by rw [Int.toNat_natCast]; exact s1, optP_intro q2 ⟨⟨by omega, by omega⟩, y, by rw [Int.toNat_natCast]; exact s2, Br_dec (fun hlt => ⟨?_, hm02.then hm3d⟩) fun hnl => ?_⟩⟩
    · have := natV_less hna.lt hx hy hdr (by omega)
      unfold cmpN; rw [if_pos this]
    refine optP_intro q3 ⟨⟨by omega, by omega⟩, x, by rw [Int.toNat_natCast]; exact s3, optP_intro q4 ⟨⟨by omega, by omega⟩, y, by rw [Int.toNat_natCast]; exact s4, Br_dec (fun hgt => ⟨?_, hm02.then hm3dd⟩) fun hng => ?_⟩⟩
    · have := natV_less hnb.lt hy hx hdr.symm (by omega)
      unfold cmpN; rw [if_neg (by omega), if_neg (by omega)]
    · have hxy : x = y := by omega
      subst hxy
      exact ⟨j, by omega, j, rfl, by omega, by rw [wrap_i64 (by omega) (by omega)], by rw [hdx, hdy, hdr], hm3dd⟩
  · have hk0 : m = 0 := by omega
    subst hk0
    rw [List.drop_zero, List.drop_zero] at hdr
    subst hdr
    refine ⟨?_, hm02.then hm3⟩
    unfold cmpN; rw [if_neg (by omega), if_pos rfl]

variable {s : Addr} {L : List Nd} {d : SD}

theorem map_nats : Tryz.prog.underlying 95 = some (.map 3 46) := by kernel_rfl
theorem zero_nat (w : World) : (zeroValue 46).run Tryz.prog w = .ok (.slice none 0 0) w := zero_of (by kernel_rfl) w

theorem leaves_ok (h : StM w s L d) (hok : ∀ i n, L[i]? = some n → NdOK i n) (hL : L.length ≤ 5000) {a : Nat} (ha : a < L.length) (hbig : ∀ x ∈ coneL L a, lv L x < 9223372036854775808) :
    CallsF Tryz.prog 21 #[.pointer (some s), .int .i64 a] w fun e w' => ∃ (q : Option Addr) (c : Nat) (r : List Nat), e = .returned (.slice q r.length c) ∧ NatM w' q c r ∧ NormD r ∧ natV r = lv L a ∧ Mod NoB w w' := by
  have hasc := coneL_asc hok a
  have hnd := asc_nodup hasc
  have hself := cone_self hok ha
  have hleA : ∀ x ∈ coneL L a, x ≤ a := fun x hx => cone_le hok a ha hx
  have hmemL : ∀ x ∈ coneL L a, x < L.length := fun x hx => by have := hleA x hx; omega
  have hcl : ∀ x ∈ coneL L a, ∀ n, L[x]? = some n → ∀ y ∈ n.ins, y ∈ coneL L a := fun x hx n hn y hy => cone_trans hok a ha hx hn hy
  obtain ⟨hpos, hlast⟩ := asc_last hasc hself hleA
  have hle5 : (coneL L a).length ≤ 5000 := Nat.le_trans (nodup_lenLe hnd hmemL) hL
  refine C_transform_Leaves _ _ _ _ ?_
  intro w1 hw1
  have hmap1 : MapM encI w1 (w.heap.size + 0) [] := hw1.mapM 0 rfl encI
  have hs1 := hw1.size
  simp only [List.length_cons, List.length_nil] at hs1
  refine (tcone_ok (h.same hw1.mod) hok hL ha).mono ?_
  rintro e w2 ⟨p, c, M, rfl, hMl, hcone2, hm2⟩
  have hs2 := hm2.size
  have hm02 := hw1.mod.then hm2
  have hMn : M.length = (coneL L a).length := by rw [← hMl, List.length_map]
  generalize coneL L a = l at *
  refine ⟨p, M.length, c, rfl, ?_⟩
  refine ⟨fun m vs w' => ∃ (i : Nat) (q : Nat → Option Addr) (cc : Nat → Nat) (r : Nat → List Nat) (v0 : Value), m = l.length - i ∧ i ≤ l.length ∧ vs = [v0, .int .i64 i] ∧ (∀ k x, i = k + 1 → l[k]? = some x → v0 = .slice (q x) (r x).length (cc x)) ∧
      (∀ y ∈ l.take i, NatM w' (q y) (cc y) (r y) ∧ NormD (r y) ∧ natV (r y) = lv L y ∧ ∀ b, At (q y) b → w2.heap.size ≤ b) ∧ MapM encI w' (w.heap.size + 0) ((l.take i).map fun (y : Nat) => ((y : Int), Value.slice (q y) (r y).length (cc y))) ∧ ConeM w1.heap.size w' L p c M ∧ w2.heap.size ≤ w'.heap.size ∧ Mod NoB w w' ∧ ∃ p0 n0 c0, v0 = .slice p0 n0 c0,
    ⟨_, 0, fun _ => none, fun _ => 0, fun _ => [], _, rfl, Nat.zero_le _, rfl, (fun k x hk => by omega), (fun y hy => nomatch hy), hmap1.only hm2, hcone2, Nat.le_refl _, hm02, _, _, _, rfl⟩, ?_⟩
  rintro m pv nv cv i' w4 ⟨i, q, cc, r, v0, rfl, hil, hvs, hv0, hr4, hmap4, hcone4, hsz4, hm4, p0, n0, c0, rfl⟩
  simp only [List.cons.injEq, Value.int.injEq, Value.slice.injEq, true_and, and_true] at hvs
  obtain ⟨⟨rfl, rfl, rfl⟩, rfl⟩ := hvs
  refine Br_dec (fun hlt => ?_) fun hge => ?_
  rotate_left
  · have : i = l.length := by omega
    subst this
    have hla : l[l.length - 1]? = some a := by
      rw [List.getD_eq_getElem?_getD] at hlast
      rw [List.getElem?_eq_getElem (by omega)] at hlast ⊢
      exact congrArg some hlast
    have hv := hv0 (l.length - 1) a (by omega) hla
    rw [List.take_length] at hr4
    obtain ⟨h1, h2, h3, h4⟩ := hr4 a hself
    injection hv with e1 e2 e3
    subst e1; subst e2; subst e3
    exact ⟨_, _, r a, rfl, h1, h2, h3, hm4⟩
  have hx : l[i]? = some (l[i]'(by omega)) := List.getElem?_eq_getElem (by omega)
  have hxm : l[i]'(by omega) ∈ l := List.getElem_mem _
  have htk : l.take (i + 1) = l.take i ++ [l[i]'(by omega)] := List.take_succ_eq_append_getElem (by omega)
  generalize l[i]'(by omega) = x at hx hxm htk
  have hxL := hmemL x hxm
  have hn : L[x]? = some L[x] := List.getElem?_eq_getElem hxL
  generalize L[x] = nd at hn
  have hnok := hok x nd hn
  have hnlen := hnok.len
  have hnA := nodeAt_eq hn
  have hlv := lv_eq hok hn
  have hlvb := hbig x hxm
  obtain ⟨⟨x', qx⟩, hMi, hMx⟩ : ∃ mm : Mem, M[i]? = some mm ∧ mm.1 = x := by
    rw [← hMl, List.getElem?_map] at hx
    cases hMi : M[i]? with
    | none => rw [hMi] at hx; cases hx
    | some mm => rw [hMi] at hx; exact ⟨mm, rfl, by simpa using hx⟩
  have hMx' : x' = x := hMx
  subst hMx'
  have hmm := List.mem_of_getElem? hMi
  have hinsx : InsM w1.heap.size w4 qx nd.ins := by have := hcone4.ins _ hmm; rw [show nodeAt L (x', qx).1 = nd from hnA] at this; exact this
  obtain ⟨ap, hpa, hcells, _⟩ := hcone4.cell hMi
  refine optP_intro hpa ⟨⟨by omega, by omega⟩, _, _, _, _, _, _, _, by rw [Int.toNat_natCast]; exact hcells, ?_⟩
  intro w5 hw5
  have hbm5 : Blk w5 (w4.heap.size + 0) (memC L (x', qx)) 60 := hw5.blk 0 rfl
  have hm5 := hm4.then hw5.mod
  have hs5 := hw5.mod.size
  have hxni : x' ∉ l.take i := by
    intro hmem
    obtain ⟨j, hj⟩ := List.getElem?_of_mem hmem
    have hjl := (List.getElem?_eq_some_iff.1 hj).1
    rw [List.length_take] at hjl
    rw [List.getElem?_take] at hj
    split at hj
    · have := nodup_inj hnd hj hx; omega
    · cases hj
  intro J hJ
  -- behind the look at the kind: a number that counts the node itself
  have main : ∀ (w6 : World) (p6 : Option Addr) (c6 : Nat) (r6 : List Nat), Mod NoB w5 w6 → NatM w6 p6 c6 r6 → NormD r6 → natV r6 = (if nd.kind = 2 then 1 else 0) → (∀ b, At p6 b → w2.heap.size ≤ b) → J [.slice p6 r6.length c6] w6 := by
    intro w6 p6 c6 r6 hm6 h6 hn6 hv6 hat6
    have hb6 := hbm5.keep hm6 NoB.not
    have hk : (nodeAt L ((x', qx) : Mem).1) = nd := hnA
    refine hJ _ _ _ _ ⟨qx, nd.ins.length, nd.ins.length, ?_, ?_⟩
    · rw [own_add, hb6.cellAt]
      show some (Value.slice qx (nodeAt L x').ins.length (nodeAt L x').ins.length) = _
      rw [hnA]
    have hm46 : Mod NoB w4 w6 := hw5.mod.then hm6
    have hsum : ∀ k, ((nd.ins.take k).map (lv L)).sum ≤ (nd.ins.map (lv L)).sum := by
      intro k
      have e : nd.ins = nd.ins.take k ++ nd.ins.drop k := (List.take_append_drop k nd.ins).symm
      conv => rhs; rw [e, List.map_append, List.sum_append]
      omega
    refine ⟨fun m vs w' => ∃ (k : Nat) (pk : Option Addr) (ck : Nat) (rk : List Nat), m = nd.ins.length - k ∧ k ≤ nd.ins.length ∧ vs = [.slice pk rk.length ck, .int .i64 k] ∧ NatM w' pk ck rk ∧ NormD rk ∧ natV rk = (if nd.kind = 2 then 1 else 0) + ((nd.ins.take k).map (lv L)).sum ∧ (∀ b, At pk b → w2.heap.size ≤ b) ∧ Mod NoB w6 w',
      ⟨_, 0, p6, c6, r6, rfl, Nat.zero_le _, rfl, h6, hn6, by rw [hv6]; rfl, hat6, Mod.refl _ _⟩, ?_⟩
    rintro m pk' nk ck' k' w7 ⟨k, pk, ck, rk, rfl, hk7, hvs, h7, hn7, hv7, hat7, hm7⟩
    simp only [List.cons.injEq, Value.int.injEq, Value.slice.injEq, true_and, and_true] at hvs
    obtain ⟨⟨rfl, rfl, rfl⟩, rfl⟩ := hvs
    have hm47 := hm46.then hm7
    have hks := hsum k
    have hrkl : rk.length ≤ 2 := normD_len hn7 (by unfold W32; omega)
    refine Br_dec (fun hlt2 => ?_) fun hge2 => ?_
    · have hk' : k < nd.ins.length := by omega
      have hv : nd.ins[k]? = some nd.ins[k] := List.getElem?_eq_getElem hk'
      have hvm : nd.ins[k] ∈ nd.ins := List.getElem_mem hk'
      have htk2 : nd.ins.take (k + 1) = nd.ins.take k ++ [nd.ins[k]] := List.take_succ_eq_append_getElem hk'
      generalize nd.ins[k] = v at hv hvm htk2
      have hvl := asc_before hasc hx (hcl _ hxm nd hn v hvm) (hnok.lt v hvm)
      obtain ⟨aq, hqa, hcq⟩ := (hinsx.row.keep hm47 fun _ _ => NoB.not).at (i := k) (v := .int .i64 v) (by rw [ints_get, natI_get, hv]; rfl)
      obtain ⟨g1, g2, g3, g4⟩ := hr4 v hvl
      have hlk := lookup_ok (key_int map_nats) (hmap4.only hm47) (v : Int) (zero_nat w7) false
      rw [getM_zip (fun y => Value.slice (q y) (r y).length (cc y)), if_pos hvl] at hlk
      have hgl : (r v).length ≤ 2 := normD_len g2 (by have := hbig v (hcl _ hxm nd hn v hvm); unfold W32; omega)
      refine optP_intro hqa ⟨⟨by omega, by omega⟩, v, by rw [Int.toNat_natCast, Nat.mul_one]; exact hcq, _, _, _, hlk, ?_⟩
      refine (add_ok h7 (g1.only hm47) (by omega) (by omega)).mono ?_
      rintro e w8 ⟨q8, c8, r8, rfl, h8, hn8, hv8, hat8, hm8⟩
      have hs47 := hm47.size
      refine ⟨q8, _, c8, rfl, nd.ins.length - (k + 1), by omega, k + 1, q8, c8, r8, rfl, hk', by rw [wrap_i64 (by omega) (by omega)]; rfl, h8, hn8, ?_, fun b hb => by have := hat8 b hb; omega, hm7.then hm8⟩
      have e1 : ((nd.ins.take (k + 1)).map (lv L)).sum = ((nd.ins.take k).map (lv L)).sum + lv L v := by
        rw [htk2, List.map_append, List.sum_append]
        simp only [List.map_cons, List.map_nil, List.sum_cons, List.sum_nil, Nat.add_zero]
      rw [hv8, hv7, g3, e1, Nat.add_assoc]
    · have hke : k = nd.ins.length := by omega
      subst hke
      rw [List.take_length, ← hlv] at hv7
      have hb7 := hb6.keep hm7 NoB.not
      refine ⟨(x' : Nat), hb7.cellAt 0 0, ?_⟩
      obtain ⟨w8, hup, hmap8, hm8⟩ := update_ok (key_int map_nats) (hmap4.only hm47) (x' : Int) (.slice pk' rk.length ck')
      rw [putM_none _ (by rw [getM_zip (fun y => Value.slice (q y) (r y).length (cc y)), if_neg hxni])] at hmap8
      refine ⟨w8, hup, ?_⟩
      have hm8' : Mod (· = w.heap.size + 0) w7 w8 := hm8
      have hs47 := hm47.size
      have hs8 := hm8.size
      have hnr : ∀ y ∈ l.take i, y ≠ x' := fun y hy e => hxni (e ▸ hy)
      refine ⟨l.length - (i + 1), by omega, i + 1, (fun y => if y = x' then pk' else q y), (fun y => if y = x' then ck' else cc y), (fun y => if y = x' then rk else r y), _, rfl, by omega, by rw [wrap_i64 (by omega) (by omega)]; rfl, ?_, ?_, ?_, ?_, by omega, ?_, _, _, _, rfl⟩
      · intro j y hj hy
        have hji : j = i := by omega
        rw [hji, hx] at hy
        have hy' : x' = y := Option.some.inj hy
        rw [← hy']
        simp only [if_true]
      · intro y hy
        rw [htk] at hy
        rcases List.mem_append.1 hy with hy | hy
        · obtain ⟨g1, g2, g3, g4⟩ := hr4 y hy
          simp only [if_neg (hnr y hy)]
          exact ⟨(g1.only hm47).keep hm8' fun b hb e => by have := g4 b hb; have e' : b = w.heap.size + 0 := e; omega, g2, g3, g4⟩
        · simp only [List.mem_singleton] at hy
          subst hy
          simp only [if_true]
          exact ⟨h7.keep hm8' fun b hb e => by have := hat7 b hb; have e' : b = w.heap.size + 0 := e; omega, hn7, hv7, hat7⟩
      · rw [htk, List.map_append]
        have e1 : ((l.take i).map fun (y : Nat) => ((y : Int), Value.slice (if y = x' then pk' else q y) (if y = x' then rk else r y).length (if y = x' then ck' else cc y))) = (l.take i).map fun (y : Nat) => ((y : Int), Value.slice (q y) (r y).length (cc y)) := by
          refine List.map_congr_left fun y hy => ?_
          rw [if_neg (hnr y hy), if_neg (hnr y hy), if_neg (hnr y hy)]
        rw [e1]
        simpa using hmap8
      · exact (hcone4.keep hm47 fun _ _ _ => NoB.not).keepT hcone2.lt hm8' fun b hb1 _ e => by have e' : b = w.heap.size + 0 := e; omega
      · exact (hm4.then hm47).new _ hm8' fun b hb e => by have e' : b = w.heap.size + 0 := e; omega
  have hk : (nodeAt L ((x', qx) : Mem).1) = nd := hnA
  show Br ((nodeAt L ((x', qx) : Mem).1).kind == 2) _ _
  rw [hk]
  refine Br_eq (fun h2 => ?_) fun h2 => main w5 none 0 [] (Mod.refl _ _) (natM_nil _ _) ⟨(fun d hd => nomatch hd), rfl⟩ (by rw [if_neg h2]; rfl) fun b hb => (At.none hb).elim
  refine (fromU64_ok 1 (by omega) w5).mono ?_
  rintro e w6 ⟨q6, c6, r6, rfl, h6, hn6, hv6, hat6, hm6⟩
  exact ⟨q6, _, c6, rfl, main w6 q6 c6 r6 hm6 h6 hn6 (by rw [hv6, if_pos h2]) fun b hb => by have := hat6 b hb; omega⟩

end Go.Proofs.YtajfdcbknghipaaGreatDoor
end

section
/- Maps whose keys are structs of plain fields. No condition. -/
namespace Go.Sh
open Go

/-- Keys that are compared one after the other. -/
structure KeyW (P : Program) (t kt : TypeId) (et : TypeId) {κ : Type} [DecidableEq κ] (enc : κ → Value) : Prop where
  mp : P.underlying t = some (.map kt et)
  wide : (match P.underlying kt with | some (.array _ _) | some (.struct _) => true | _ => false) = true
  eq : ∀ a b (w : World), (Op.equal kt (enc a) (enc b)).run P w = .ok (decide (a = b)) w
  check : ∀ (e : Bool) (k : κ) (w : World), (Instr.checkKey e 10000 kt (enc k)).run P w = .ok () w
  bits : ∀ a : κ, Instr.sameBits 10000 (enc a) (enc a) = true

variable {P : Program} {t kt et : TypeId} {κ : Type} [DecidableEq κ] {enc : κ → Value} {w : World} {r : Nat}

theorem findAsking_eq (hk : KeyW P t kt et enc) (k : κ) : ∀ (es : List MapEntry) (m : List (κ × Value)) (i : Nat), es.map (fun e => (e.key, e.val)) = m.map (fun kv => (enc kv.1, kv.2)) →
    (getM m k = none ∧ (Instr.findAsking kt (enc k) es i).run P w = .ok none w ∧ putM m k = fun v => m ++ [(k, v)]) ∨
    (∃ j v, getM m k = some v ∧ (Instr.findAsking kt (enc k) es i).run P w = .ok (some (i + j, v)) w ∧ j < es.length ∧ (∀ u, putM m k u = m.set j (k, u)) ∧ (m[j]?).map (·.1) = some k)
  | [], [], i, _ => .inl ⟨rfl, rfl, rfl⟩
  | [], _ :: _, _, h => by cases h
  | _ :: _, [], _, h => by cases h
  | e :: es, (k', v') :: m, i, h => by
    simp only [List.map_cons, List.cons.injEq, Prod.mk.injEq] at h
    obtain ⟨⟨h1, h2⟩, h3⟩ := h
    unfold Instr.findAsking
    rw [h1]
    simp only [Sem.run_bind, hk.eq, Result.andThen_ok]
    by_cases hkk : k = k'
    · subst hkk
      simp only [decide_true, if_true, Sem.run_pure]
      refine .inr ⟨0, v', by simp [getM], by rw [h2, Nat.add_zero], by simp, fun u => by simp [putM], by simp⟩
    · simp only [decide_eq_false hkk, Bool.false_eq_true, if_false]
      rcases findAsking_eq hk k es m (i + 1) h3 with ⟨a, b, c⟩ | ⟨j, v, a, b, c, d, e2⟩
      · refine .inl ⟨by simp only [getM, if_neg hkk]; exact a, b, ?_⟩
        funext v
        simp only [putM, if_neg hkk, c, List.cons_append]
      · refine .inr ⟨j + 1, v, by simp only [getM, if_neg hkk]; exact a, by rw [b]; congr 3; omega, by simp; omega, fun u => by simp only [putM, if_neg hkk, d u, List.set_cons_succ], by simpa using e2⟩

theorem lookup_okW (hk : KeyW P t kt et enc) {m : List (κ × Value)} (hm : MapM enc w r m) (k : κ) {z : Value} (hz : (zeroValue et).run P w = .ok z w) (ck : Bool) :
    (Instr.lookup t (.map (some r)) (enc k) ck).run P w = .ok (if ck then .tuple #[(getM m k).getD z, .bool (getM m k).isSome] else (getM m k).getD z) w := by
  obtain ⟨es, clock, h1, h2⟩ := hm
  unfold Instr.lookup
  simp only [Sem.run_bind, run_underlying hk.mp, Result.andThen_ok, run_getMap h1, Sem.run_pure, hk.check, run_findKey_eq w hk.wide]
  rcases findAsking_eq (w := w) hk k es.toList m 0 h2 with ⟨a, b, _⟩ | ⟨j, v, a, b, _⟩
  · rw [b, a]
    simp only [Sem.run_pure, Result.andThen_ok, Sem.run_bind, hz]
    cases ck <;> rfl
  · rw [b, a]
    simp only [Sem.run_pure, Result.andThen_ok]
    cases ck <;> rfl

theorem update_okW (hk : KeyW P t kt et enc) {m : List (κ × Value)} (hm : MapM enc w r m) (k : κ) (v : Value) :
    ∃ w', (Instr.mapUpdate t (.map (some r)) (enc k) v).run P w = .ok () w' ∧ MapM enc w' r (putM m k v) ∧ Mod (· = r) w w' := by
  have hlt := hm.lt
  obtain ⟨es, clock, h1, h2⟩ := hm
  have hset : ∀ o : Obj, Mod (· = r) w { w with heap := w.heap.setIfInBounds r o } := fun o =>
    ⟨rfl, rfl, rfl, by simp, fun b _ hn => by simp only [Array.getElem?_setIfInBounds]; rw [if_neg (fun e => hn e.symm)]⟩
  unfold Instr.mapUpdate
  simp only [Sem.run_bind, run_underlying hk.mp, Result.andThen_ok, run_getMap h1, Sem.run_pure, hk.check, run_findKey_eq w hk.wide]
  rcases findAsking_eq (w := w) hk k es.toList m 0 h2 with ⟨a, b, c⟩ | ⟨j, v0, a, b, c, d, e⟩
  · rw [b]
    simp only [Sem.run_pure, Result.andThen_ok, run_setMap h1]
    refine ⟨_, rfl, ⟨es.push { key := enc k, val := v, born := clock }, clock + 1, by simp [hlt], ?_⟩, hset _⟩
    rw [c]
    simp only [Array.toList_push, List.map_append, h2, List.map_cons, List.map_nil]
  · rw [b]
    simp only [Sem.run_pure, Result.andThen_ok, Nat.zero_add, Sem.run_bind]
    have hj : j < es.size := by simpa using c
    have hkey : (es[j]?.map (·.key)).getD (enc k) = enc k := by
      have h3 : (es.toList.map fun e => (e.key, e.val))[j]? = (m.map fun kv => (enc kv.1, kv.2))[j]? := by rw [h2]
      rw [List.getElem?_map, List.getElem?_map] at h3
      cases hmj : m[j]? with
      | none => rw [hmj] at e; cases e
      | some kv =>
        rw [hmj] at e h3
        simp only [Option.map_some, Option.some.injEq] at e h3
        rw [Array.getElem?_toList, Array.getElem?_eq_getElem hj] at h3
        simp only [Option.map_some, Option.some.injEq, Prod.mk.injEq] at h3
        rw [Array.getElem?_eq_getElem hj]
        simp only [Option.map_some, Option.getD_some]
        rw [h3.1, e]
    rw [hkey]
    have hstay : (Instr.keyThatStays (enc k) (enc k)).run P w = .ok (enc k) w := by
      unfold Instr.keyThatStays
      rw [if_pos (hk.bits k)]; rfl
    rw [hstay]
    simp only [Result.andThen_ok, run_setMap h1]
    refine ⟨_, rfl, ⟨es.modify j fun e => { e with key := enc k, val := v }, clock, by simp [hlt], ?_⟩, hset _⟩
    rw [d v, List.map_set, ← h2]
    apply List.ext_getElem?
    intro i
    rw [List.getElem?_map, Array.getElem?_toList, Array.getElem?_modify, List.getElem?_set]
    by_cases hij : j = i
    · subst hij
      simp [hj]
    · simp [hij]
end Go.Sh
end
