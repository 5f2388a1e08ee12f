/- The law TransformCondition of the package credencelaw23 answers true at every input and leaves its arguments as they were (Rows.TransformConditionCardSaid); no condition beyond the card's own: the three listed tables stand as the program's text lays them. Part 6 of 25. -/
import Derived.Test.YtajfdcbknghipaaGreatDoorW04
import Derived.Test.YtajfdcbknghipaaGreatDoorW02
import Derived.Test.YtajfdcbknghipaaGreatDoorW05

section
/- make of a slice, and masks. No condition. -/
namespace Go.Sh
open Go

theorem elem_of {P : Program} {t e : TypeId} {size bytes : Nat} {z : Value} (h1 : P.underlying t = some (.slice e)) (h2 : (P.info? e).map (fun i => (i.zero, i.size, i.bytes)) = some (some z, size, bytes))
    (h3 : z.cells.size = size) (h4 : 0 < size) : ElemOK P t e size bytes z := by
  cases hi : P.info? e with
  | none => rw [hi] at h2; cases h2
  | some i =>
    rw [hi] at h2
    simp only [Option.map_some, Option.some.injEq, Prod.mk.injEq] at h2
    exact ⟨h1, ⟨i, hi, h2.1, h2.2.1, h2.2.2⟩, h3, h4⟩

theorem u64_range (n : Int) : 0 ≤ IntKind.u64.wrap n ∧ IntKind.u64.wrap n ≤ 18446744073709551615 := by
  unfold IntKind.wrap; simp only [IntKind.bits, IntKind.signed]; simp; omega
theorem bitsV_range (op : BinOp) (x y : Int) : 0 ≤ bitsV op .u64 x y ∧ bitsV op .u64 x y ≤ 18446744073709551615 := by
  unfold bitsV; cases op <;> exact u64_range _
theorem and_mask {x : Int} {k : Nat} (h1 : 0 ≤ x) (h2 : x ≤ 18446744073709551615) (hk : k ≤ 63) : bitsV .and .u64 x (2 ^ k - 1) = x % 2 ^ k := by
  obtain ⟨n, rfl⟩ := Int.eq_ofNat_of_zero_le h1
  have hn : n < 2 ^ 64 := by
    have : (2 : Nat) ^ 64 = 18446744073709551616 := by decide
    omega
  have hp : 2 ^ k ≤ 2 ^ 63 := Nat.pow_le_pow_right (by decide) hk
  have h63 : (2 : Nat) ^ 63 = 9223372036854775808 := by decide
  have h64 : (2 : Nat) ^ 64 = 18446744073709551616 := by decide
  have hpos : 0 < 2 ^ k := Nat.pow_pos (by decide)
  have hgo : bitsV .and .u64 (n : Int) (2 ^ k - 1) = IntKind.u64.wrap ((BitVec.ofInt 64 (n : Int) &&& BitVec.ofInt 64 (2 ^ k - 1) : BitVec 64).toNat : Int) := rfl
  rw [hgo]
  have e1 : (BitVec.ofInt 64 (n : Int)).toNat = n := by
    rw [BitVec.toNat_ofInt]
    have : ((n : Int) % ((2 ^ 64 : Nat) : Int)) = n := by rw [h64]; omega
    rw [this]; simp
  have e2 : (BitVec.ofInt 64 ((2 : Int) ^ k - 1)).toNat = 2 ^ k - 1 := by
    rw [BitVec.toNat_ofInt]
    have hc : ((2 : Int) ^ k) = ((2 ^ k : Nat) : Int) := by simp
    rw [hc]
    have : ((((2 ^ k : Nat) : Int) - 1) % ((2 ^ 64 : Nat) : Int)) = ((2 ^ k - 1 : Nat) : Int) := by rw [h64]; omega
    rw [this]; simp
  rw [BitVec.toNat_and, e1, e2, Nat.and_two_pow_sub_one_eq_mod]
  have hm := Nat.mod_lt n hpos
  rw [wrap_u64 (by omega) (by omega)]
  simp

theorem makeSlice_gen {P : Program} {w : World} {t e : TypeId} {size bytes : Nat} {z : Value} (hE : ElemOK P t e size bytes z) (k k' : IntKind) {l n : Nat} (hln : l ≤ n) (hb : (n : Int) * bytes ≤ 140737488355328) (hn : (n : Int) ≤ 140737488355328) :
    ∃ w1, (Instr.makeSlice t (.int k l) (.int k' n)).run P w = .ok (.slice (some ⟨w.heap.size, 0, none⟩) l n) w1 ∧
      Blk w1 w.heap.size ((List.replicate n ()).flatMap fun _ => cellsL z) e ∧ Mod NoB w w1 ∧ w1.heap.size = w.heap.size + 1 := by
  obtain ⟨i, hi, hz, hsz, hby⟩ := hE.info
  subst hsz
  subst hby
  have hwl : IntKind.i64.wrap (l : Int) = l := wrap_i64 (by omega) (by omega)
  have hw : IntKind.i64.wrap (n : Int) = n := wrap_i64 (by omega) (by omega)
  have hmb : (i.bytes : Int) * (n : Int) = ((n : Int) * (i.bytes : Int)) := Int.mul_comm _ _
  refine ⟨w.alloc (.cells ((List.replicate n ()).flatMap fun _ => cellsL z).toArray e), ?_, ?_, ?_, ?_⟩
  · unfold Instr.makeSlice
    have hlarge : ¬ ((i.bytes : Int) * (n : Int) > 2 ^ 48) := by rw [hmb]; have : (2 : Int) ^ 48 = 281474976710656 := by decide
                                                                 omega
    have h48 : decide ((i.bytes : Int) * (n : Int) > 2 ^ 48) = false := decide_eq_false hlarge
    have hneg : decide ((n : Int) < 0) = false := decide_eq_false (by omega)
    have hnegl : decide ((l : Int) < 0) = false := decide_eq_false (by omega)
    have hgt : decide ((l : Int) > (n : Int)) = false := decide_eq_false (by omega)
    simp only [Sem.run_bind, run_underlying hE.sl, Result.andThen_ok, asInt, asIntOf, Sem.run_pure, run_typeInfo hi, hw, hwl, h48, hneg, hnegl, hgt, Bool.or_self, Bool.false_eq_true, if_false, Sem.run_ite]
    simp only [run_askRoom, Result.andThen_ok, run_sizeOf' hi, Int.toNat_natCast]
    have hc := hE.cells
    by_cases h00 : n * i.size = 0
    · have hm0 : n = 0 := by
        rcases Nat.mul_eq_zero.1 h00 with h | h
        · exact h
        · have := hE.pos; omega
      subst hm0
      simp only [Nat.zero_mul, if_true, Sem.run_pure, Result.andThen_ok, newRow, Sem.run_bind, run_newObj', List.replicate_zero, List.flatMap_nil]
      have he : ∀ f : Nat → Value, Array.map f (Array.range 0) = #[] := fun f => Array.eq_empty_of_size_eq_zero (by simp)
      rw [he]
    · simp only [h00, if_false, Sem.run_bind, run_zeroValue hi hz, Result.andThen_ok, Sem.run_pure, newRow, run_newObj']
      have := fresh_cells z n
      rw [hc] at this
      have h2 : ((Array.range (n * i.size)).map fun x => z.cells[x % z.cells.size]!) = ((List.replicate n ()).flatMap fun _ => cellsL z).toArray := by
        rw [hc]; exact this
      rw [h2]
  · have := ext_new w [OB.cells ((List.replicate n ()).flatMap fun _ => cellsL z) e] 0 _ rfl
    rw [Nat.add_zero] at this
    exact this
  · exact ext_mod w [OB.cells ((List.replicate n ()).flatMap fun _ => cellsL z) e]
  · rw [World.size_alloc]
theorem makeSlice_ok {P : Program} {w : World} {t e : TypeId} {size bytes : Nat} {z : Value} (hE : ElemOK P t e size bytes z) {n : Int} (h0 : 0 ≤ n) (hb : n * bytes ≤ 140737488355328) (hn : n ≤ 140737488355328) :
    ∃ w1, (Instr.makeSlice t (.int .i64 n) (.int .i64 n)).run P w = .ok (.slice (some ⟨w.heap.size, 0, none⟩) n.toNat n.toNat) w1 ∧
      Blk w1 w.heap.size ((List.replicate n.toNat ()).flatMap fun _ => cellsL z) e ∧ Mod NoB w w1 ∧ w1.heap.size = w.heap.size + 1 := by
  obtain ⟨m, rfl⟩ := Int.eq_ofNat_of_zero_le h0
  exact makeSlice_gen hE _ _ (Nat.le_refl _) hb hn
/-- A slice of one-cell elements, made: zeros, and room. -/
theorem makeSlice_own {P : Program} {w : World} {t e : TypeId} {bytes : Nat} {z : Value} (hE : ElemOK P t e 1 bytes z) (hz : cellsL z = [z]) (k k' : IntKind) {l n : Nat} (hln : l ≤ n) (hb : (n : Int) * bytes ≤ 140737488355328) (hn : (n : Int) ≤ 140737488355328) :
    ∃ w1, (Instr.makeSlice t (.int k l) (.int k' n)).run P w = .ok (.slice (some ⟨w.heap.size, 0, none⟩) l n) w1 ∧ Own w1 e 1 (some ⟨w.heap.size, 0, none⟩) l n (List.replicate l z) ∧ Mod NoB w w1 ∧ w1.heap.size = w.heap.size + 1 := by
  obtain ⟨w1, h1, h2, h3, h4⟩ := makeSlice_gen (w := w) hE k k' hln hb hn
  refine ⟨w1, h1, ?_, h3, h4⟩
  have e1 : ((List.replicate n ()).flatMap fun _ => cellsL z) = List.replicate l z ++ List.replicate (n - l) z := by
    rw [hz, List.replicate_append_replicate]
    have : l + (n - l) = n := by omega
    rw [this]
    clear h1 h2 h3 h4 hb hn this
    induction n with
    | zero => rfl
    | succ n ih =>
      by_cases hl : l ≤ n
      · rw [List.replicate_succ, List.replicate_succ, List.flatMap_cons, ih hl]; rfl
      · have hi := ih
        rw [List.replicate_succ, List.replicate_succ, List.flatMap_cons]
        have : ∀ m : Nat, ((List.replicate m ()).flatMap fun _ => [z]) = List.replicate m z := by
          intro m
          induction m with
          | zero => rfl
          | succ m ih => rw [List.replicate_succ, List.replicate_succ, List.flatMap_cons, ih]; rfl
        rw [this]; rfl
  rw [e1] at h2
  have hmax : maxLen = 9223372036854775807 := rfl
  exact Own.of_blk h2 hln (by rw [hmax]; omega) (by simp; omega) (by simp)

/-- One element appended, from a literal. -/
theorem append_one {P : Program} {w w1 : World} {t ty e e' : TypeId} {size bytes : Nat} {z : Value} (hE : ElemOK P t e size bytes z) {p : Option Addr} {n c : Nat} {xs vs : List Value} (hown : Own w e size p n c xs) (hvl : vs.length = size)
    (h1 : ∀ u ∈ vs, u.oneCell' = true) (hn : (n + 1) * bytes ≤ 140737488355328) (hn2 : n + 1 ≤ 140737488355328) (hw1 : Ext w [OB.cells vs e'] w1) :
    ∃ w2 p' c', (Builtin.append_ #[t, t] ty #[.slice p n c, .slice (some ⟨w.heap.size + 0, 0, none⟩) 1 1]).run P w1 = .ok (.slice p' (n + 1) c') w2 ∧ Own w2 e size p' (n + 1) c' (xs ++ vs) ∧ Mod (At p) w w2 ∧ (∀ b, At p' b → At p b ∨ w.heap.size ≤ b) := by
  have hmax : maxLen = 9223372036854775807 := rfl
  obtain ⟨p', c', w2, hrun, ho, hm, hat⟩ := append_own (m := 1) (mc := 1) (q := some ⟨w.heap.size + 0, 0, none⟩) (ty := ty) hE (hown.keep hw1.mod fun _ _ h => h) (Row.of_blk (hw1.blk 0 rfl)) (by rw [hvl, Nat.one_mul]) h1 (by rw [hmax]; omega) hn
  refine ⟨w2, p', c', hrun, ho, hw1.mod.to.then hm, fun b hb => ?_⟩
  rcases hat b hb with h | h
  · exact .inl h
  · have := hw1.mod.size
    exact .inr (by omega)

theorem flatMap_one {α : Type} (v : α) : ∀ n : Nat, ((List.replicate n ()).flatMap fun _ => [v]) = List.replicate n v
  | 0 => rfl
  | n + 1 => by rw [List.replicate_succ, List.replicate_succ, List.flatMap_cons, flatMap_one v n]; rfl

end Go.Sh
end

section
/- Open addressing, in plain Lean: a table of numbers of nodes, found by probing. No condition. -/
namespace Go.Fm

/-- A list of distinct numbers below n has at most n elements. -/
theorem nodup_lt : ∀ (n : Nat) (l : List Nat), l.Nodup → (∀ x ∈ l, x < n) → l.length ≤ n
  | 0, l, _, h => by
    cases l with
    | nil => exact Nat.le_refl _
    | cons x l => have := h x List.mem_cons_self; omega
  | n + 1, l, hn, h => by
    have h1 : (l.erase n).length ≤ n := nodup_lt n (l.erase n) (hn.erase n) fun x hx => by
      have hxl := List.mem_of_mem_erase hx
      have := h x hxl
      have hne : x ≠ n := by
        rintro rfl
        exact (List.Nodup.mem_erase_iff hn).1 hx |>.1 rfl
      omega
    by_cases hm : n ∈ l
    · have := List.length_erase_of_mem hm; omega
    · rw [List.erase_of_not_mem hm] at h1; omega

/-- The table T holds the nodes of L from number 2 on, each where probing from its hash finds it. -/
structure Tab (H : Nd → Nat) (L : List Nd) (T : List Int) : Prop where
  pos : 0 < T.length
  ent : ∀ (i : Nat) (t : Int), T[i]? = some t → t = 0 ∨ ∃ (a : Nat) (n : Nd), L[a]? = some n ∧ 2 ≤ a ∧ t = (a : Int) + 1 ∧ ∃ j, i = (H n + j) % T.length ∧ ∀ j', j' < j → T[(H n + j') % T.length]? ≠ some 0
  all : ∀ (a : Nat) (n : Nd), 2 ≤ a → L[a]? = some n → ∃ i : Nat, T[i]? = some ((a : Int) + 1)
  uniq : ∀ (i j : Nat) (t : Int), T[i]? = some t → T[j]? = some t → t ≠ 0 → i = j

theorem Tab.full {H : Nd → Nat} {L : List Nd} {T : List Int} (h : Tab H L T) (hz : ∀ i : Nat, T[i]? ≠ some 0) : T.length ≤ L.length := by
  have hn : (T.map Int.toNat).Nodup := by
    unfold List.Nodup
    rw [List.pairwise_iff_getElem]
    intro i j hi0 hj0 hij
    rw [List.length_map] at hi0 hj0
    have hi : T[i]? = some T[i] := List.getElem?_eq_getElem hi0
    have hj' : T[j]? = some T[j] := List.getElem?_eq_getElem hj0
    simp only [List.getElem_map, ne_eq]
    intro he
    rcases h.ent i _ hi with h0 | ⟨a, n, ha, ha2, hat, _⟩
    · rw [h0] at hi; exact hz i hi
    rcases h.ent j _ hj' with h0 | ⟨b, m, hb, hb2, hbt, _⟩
    · rw [h0] at hj'; exact hz j hj'
    have : T[i] = T[j] := by omega
    rw [← this] at hj'
    have := h.uniq i j _ hi hj' (by omega)
    omega
  have hlt : ∀ x ∈ T.map Int.toNat, x < L.length + 1 := by
    intro x hx
    obtain ⟨t, ht, rfl⟩ := List.mem_map.1 hx
    obtain ⟨i, hi⟩ := List.getElem?_of_mem ht
    rcases h.ent i _ hi with h0 | ⟨a, n, ha, ha2, hat, _⟩
    · subst h0; omega
    · have := (List.getElem?_eq_some_iff.1 ha).1; omega
  have h1 := nodup_lt _ _ hn hlt
  rw [List.length_map] at h1
  -- the number 0 does not occur
  have hn2 : ((T.map Int.toNat) ++ [0]).Nodup := by
    rw [List.nodup_append]
    refine ⟨hn, by simp, ?_⟩
    intro x hx y hy
    have hy0 : y = 0 := by simpa using hy
    subst hy0
    obtain ⟨t, ht, rfl⟩ := List.mem_map.1 hx
    obtain ⟨i, hi⟩ := List.getElem?_of_mem ht
    rcases h.ent i _ hi with h0 | ⟨a, n, ha, ha2, hat, _⟩
    · subst h0; exact absurd hi (hz i)
    · omega
  have h2 := nodup_lt (L.length + 1) _ hn2 (by
    intro x hx
    rcases List.mem_append.1 hx with hx | hx
    · exact hlt x hx
    · have : x = 0 := by simpa using hx
      omega)
  rw [List.length_append, List.length_map] at h2
  simp at h2
  omega

/-- Probing meets an empty place. -/
theorem Tab.hole {H : Nd → Nat} {L : List Nd} {T : List Int} (h : Tab H L T) (hl : L.length < T.length) (h0 : Nat) : ∃ j, j < T.length ∧ T[(h0 + j) % T.length]? = some 0 := by
  have : ∃ i : Nat, T[i]? = some 0 := by
    rcases Classical.em (∃ i : Nat, T[i]? = some 0) with h' | h'
    · exact h'
    · have := h.full (fun i hi => h' ⟨i, hi⟩); omega
  obtain ⟨i, hi⟩ := this
  have hil := (List.getElem?_eq_some_iff.1 hi).1
  refine ⟨(i + T.length - h0 % T.length) % T.length, Nat.mod_lt _ h.pos, ?_⟩
  have hm := Nat.mod_lt h0 h.pos
  have : (h0 + (i + T.length - h0 % T.length) % T.length) % T.length = i := by
    rw [Nat.add_mod, Nat.mod_mod, ← Nat.add_mod]
    have e : h0 + (i + T.length - h0 % T.length) = i + T.length * (1 + h0 / T.length) := by
      have := Nat.div_add_mod h0 T.length
      rw [Nat.mul_add, Nat.mul_one]; omega
    rw [e, Nat.add_mul_mod_self_left, Nat.mod_eq_of_lt hil]
  rw [this]; exact hi

/-- Where probing comes to an empty place without meeting the node, the node is not there. -/
theorem Tab.absent {H : Nd → Nat} {L : List Nd} {T : List Int} (h : Tab H L T) {n : Nd} {j : Nat} (hz : T[(H n + j) % T.length]? = some 0)
    (hb : ∀ j', j' < j → ∀ (a : Nat), T[(H n + j') % T.length]? = some ((a : Int) + 1) → L[a]? ≠ some n) : ∀ a, 2 ≤ a → L[a]? ≠ some n := by
  intro a ha han
  obtain ⟨i, hi⟩ := h.all a n ha han
  rcases h.ent i _ hi with h0 | ⟨b, m, hbm, hb2, hbt, k, hik, hnz⟩
  · omega
  have hab : b = a := by omega
  subst hab
  have hmn : m = n := by rw [han] at hbm; exact (Option.some.inj hbm).symm
  subst hmn
  rcases Nat.lt_trichotomy k j with hkj | rfl | hkj
  · exact hb k hkj b (by rw [← hik]; exact hi) han
  · rw [← hik, hi] at hz
    injection hz with hz
    omega
  · exact hnz j hkj hz

/-- A new node at the first empty place. -/
theorem Tab.insert {H : Nd → Nat} {L : List Nd} {T : List Int} (h : Tab H L T) {n : Nd} {j : Nat} (hL : 2 ≤ L.length) (hz : T[(H n + j) % T.length]? = some 0) (hb : ∀ j', j' < j → T[(H n + j') % T.length]? ≠ some 0) :
    Tab H (L ++ [n]) (T.set ((H n + j) % T.length) ((L.length : Int) + 1)) := by
  have hlt : (H n + j) % T.length < T.length := Nat.mod_lt _ h.pos
  have hget : ∀ i : Nat, (T.set ((H n + j) % T.length) ((L.length : Int) + 1))[i]? = if i = (H n + j) % T.length then some ((L.length : Int) + 1) else T[i]? := by
    intro i
    rw [List.getElem?_set]
    by_cases hi : i = (H n + j) % T.length
    · subst hi; simp [hlt]
    · rw [if_neg (fun e => hi e.symm), if_neg hi]
  have hnz : ∀ i : Nat, T[i]? ≠ some 0 → (T.set ((H n + j) % T.length) ((L.length : Int) + 1))[i]? ≠ some 0 := by
    intro i hi
    rw [hget]
    split
    · intro e; injection e with e; omega
    · exact hi
  have hsome : ∀ (a : Nat) (m : Nd), L[a]? = some m → a ≠ L.length := fun a m ha e => by
    have := (List.getElem?_eq_some_iff.1 ha).1; omega
  refine ⟨by rw [List.length_set]; exact h.pos, ?_, ?_, ?_⟩
  · intro i t hi
    rw [hget] at hi
    rw [List.length_set]
    split at hi
    · rename_i hii
      injection hi with hi
      refine .inr ⟨L.length, n, by simp, by omega, hi.symm, j, hii, fun j' hj' => hnz _ (hb j' hj')⟩
    · rcases h.ent i t hi with h0 | ⟨a, m, ha, ha2, hat, k, hik, hk⟩
      · exact .inl h0
      · exact .inr ⟨a, m, by rw [List.getElem?_append_left (List.getElem?_eq_some_iff.1 ha).1]; exact ha, ha2, hat, k, hik, fun j' hj' => hnz _ (hk j' hj')⟩
  · intro a m ha ham
    by_cases hal : a < L.length
    · rw [List.getElem?_append_left hal] at ham
      obtain ⟨i, hi⟩ := h.all a m ha ham
      refine ⟨i, ?_⟩
      rw [hget, if_neg]
      · exact hi
      · rintro rfl
        rw [hz] at hi
        injection hi with hi
        omega
    · rw [List.getElem?_append_right (by omega)] at ham
      have : a = L.length := by
        have := (List.getElem?_eq_some_iff.1 ham).1
        simp at this; omega
      subst this
      exact ⟨_, by rw [hget, if_pos rfl]⟩
  · intro i k t hi hk ht
    rw [hget] at hi hk
    have hbig : ∀ x : Nat, T[x]? = some t → t ≠ (L.length : Int) + 1 := by
      intro x hx e
      rcases h.ent x t hx with h0 | ⟨a, m, ha, _, hat, _⟩
      · exact ht h0
      · have := (List.getElem?_eq_some_iff.1 ha).1; omega
    split at hi <;> split at hk
    · omega
    · injection hi with hi; exact absurd hi.symm (hbig k hk)
    · injection hk with hk; exact absurd hk.symm (hbig i hi)
    · exact h.uniq i k t hi hk ht

theorem Tab.zeros (H : Nd → Nat) (L : List Nd) (m : Nat) (hm : 0 < m) (hL : L.length ≤ 2) : Tab H L (List.replicate m 0) := by
  refine ⟨by simpa using hm, ?_, ?_, ?_⟩
  · intro i t hi
    rw [List.getElem?_replicate] at hi
    split at hi
    · injection hi with hi; exact .inl hi.symm
    · cases hi
  · intro a n ha han
    have := (List.getElem?_eq_some_iff.1 han).1; omega
  · intro i j t hi _ ht
    rw [List.getElem?_replicate] at hi
    split at hi
    · injection hi with hi; exact absurd hi.symm ht
    · cases hi

end Go.Fm
end

section
/- The hash table of the store: masks, probing, grow. Conditions on memory as stated. -/
namespace Go.Proofs.YtajfdcbknghipaaGreatDoor
open Go Go.Sh Go.Fm

variable {w : World} {s : Addr} {L : List Nd} {d : SD}

theorem elem_i32 : ElemOK Tryz.prog 72 21 1 4 (.int .i32 0) := elem_of (by kernel_rfl) (by kernel_rfl) rfl (by decide)
theorem elem_entry : ElemOK Tryz.prog 71 70 5 16 (.agg #[.int .i64 0, .int .i32 0, .int .i16 0, .int .i8 0, .int .i8 0]) := elem_of (by kernel_rfl) (by kernel_rfl) rfl (by decide)
theorem elem_int : ElemOK Tryz.prog 25 3 1 8 (.int .i64 0) := elem_of (by kernel_rfl) (by kernel_rfl) rfl (by decide)

def hN (n : Nd) : Nat := (hashN n).toNat
theorem mixF_range (x : Int) : 0 ≤ mixF x ∧ mixF x ≤ 18446744073709551615 := by unfold mixF; exact bitsV_range _ _ _
theorem hashL_range {h : Int} : ∀ l : List Nat, 0 ≤ h ∧ h ≤ 18446744073709551615 → 0 ≤ hashL h l ∧ hashL h l ≤ 18446744073709551615
  | [], hr => hr
  | _ :: l, _ => hashL_range l (mixF_range _)
theorem hashN_eq (n : Nd) : hashN n = (hN n : Int) := by
  have := hashL_range n.ins (mixF_range (bitsV .or .u64 (bitsV .or .u64 (IntKind.u64.wrap n.kind) (shlV .u64 (IntKind.u64.wrap (IntKind.i64.wrap (n.alt + 1))) 8)) (shlV .u64 (IntKind.u64.wrap n.block) 16)))
  have h2 : 0 ≤ hashN n := this.1
  unfold hN; omega
theorem hN_lt (n : Nd) : (hN n : Int) ≤ 18446744073709551615 := by
  have := hashL_range n.ins (mixF_range (bitsV .or .u64 (bitsV .or .u64 (IntKind.u64.wrap n.kind) (shlV .u64 (IntKind.u64.wrap (IntKind.i64.wrap (n.alt + 1))) 8)) (shlV .u64 (IntKind.u64.wrap n.block) 16)))
  rw [← hashN_eq]; exact this.2

theorem two_pow_40 {k : Nat} (hk : k ≤ 40) : (2 : Int) ^ k ≤ 1099511627776 ∧ (1 : Int) ≤ 2 ^ k := by
  have h1 : 2 ^ k ≤ 2 ^ 40 := Nat.pow_le_pow_right (by decide) hk
  have h2 : 0 < 2 ^ k := Nat.pow_pos (by decide)
  have hc : ((2 : Int) ^ k) = ((2 ^ k : Nat) : Int) := by simp
  have h40 : (2 : Nat) ^ 40 = 1099511627776 := by decide
  rw [hc]; omega
/-- The mask, as the code computes it. -/
theorem mask_eq {m k : Nat} (hm : m = 2 ^ k) (hk : k ≤ 40) {x : Nat} (hx : (x : Int) ≤ 18446744073709551615) :
    bitsV .and .u64 (x : Int) (IntKind.u64.wrap (IntKind.i64.wrap ((m : Int) - 1))) = ((x % m : Nat) : Int) := by
  have hp := two_pow_40 hk
  have hc : (m : Int) = 2 ^ k := by rw [hm]; simp
  rw [wrap_i64 (by omega) (by omega), wrap_u64 (by omega) (by omega), hc, and_mask (by omega) hx (by omega), ← hc]
  simp
theorem mask_next {m k : Nat} (hm : m = 2 ^ k) (hk : k ≤ 40) (h j : Nat) :
    bitsV .and .u64 (IntKind.u64.wrap ((((h + j) % m : Nat) : Int) + 1)) (IntKind.u64.wrap (IntKind.i64.wrap ((m : Int) - 1))) = (((h + (j + 1)) % m : Nat) : Int) := by
  have hp := two_pow_40 hk
  have hc : (m : Int) = 2 ^ k := by rw [hm]; simp
  have hlt : (h + j) % m < m := Nat.mod_lt _ (by omega)
  rw [wrap_u64 (by omega) (by omega)]
  have : ((((h + j) % m : Nat) : Int) + 1) = (((h + j) % m + 1 : Nat) : Int) := by omega
  rw [this, mask_eq hm hk (by omega), ← Nat.add_assoc, Nat.add_mod (h + j) 1 m]
  congr 1
  rw [Nat.add_mod ((h + j) % m) 1 m, Nat.mod_mod]

theorem tabCell {w : World} {bt : Nat} {T : List Int} {t : TypeId} (h : Blk w bt (T.map fun x => .int .i32 x) t) {i : Nat} {v : Int} (hi : T[i]? = some v) : w.cell? ((⟨bt, 0, none⟩ : Addr).add (i * 1)) = some (.int .i32 v) := by
  rw [own_add, h.cell, Nat.mul_one, Nat.zero_add, List.getElem?_map, hi]; rfl

theorem NdOK_small {i : Nat} {n : Nd} (h : NdOK i n) : IntKind.i64.wrap n.kind = n.kind ∧ IntKind.i64.wrap n.block = n.block ∧ IntKind.i64.wrap n.alt = n.alt :=
  ⟨wrap_i64 (by have := h.k0; omega) (by have := h.k1; omega), wrap_i64 (by have := h.b0; omega) (by have := h.b1; omega), wrap_i64 (by have := h.a0; omega) (by have := h.a1; omega)⟩

/-- A new table in the place of the old one. -/
theorem StM.newTab (h : StM w s L d) {w1 w2 : World} {b : Nat} {T : List Int} (hm : Mod NoB w w1) (hb : Blk w1 b (T.map fun x => .int .i32 x) 21) (hn : w.heap.size ≤ b) (hs : SetC w1 (s.add 2) [.slice (some ⟨b, 0, none⟩) T.length T.length] w2) :
    StM w2 s L { d with bt := b, T := T } := by
  have h1 := h.same hm
  have hlt := h.lt
  have hbs : d.bs < w.heap.size := hlt _ (.inl rfl)
  rw [h.addr, own_add] at hs
  have hmod : Mod (· = d.bs) w1 w2 := hs.mod
  refine ⟨h.addr, hs.blk h1.hdr, h1.ent.keep hmod fun x hx e => ?_, h1.ins.keep hmod fun x hx e => ?_, hb.keep hmod (show b ≠ d.bs by omega), by show d.bs ≠ b; omega, h.ne2, fun hx => ?_, h.ne4, fun hx => ?_, h.ne6⟩
  · subst e; exact h.ne2 hx
  · subst e; exact h.ne4 hx
  · have : b < w.heap.size := h.ent.lt _ hx
    omega
  · have : b < w.heap.size := h.ins.lt _ hx
    omega
/-- A number written into the table. -/
theorem StM.setTab (h : StM w s L d) {w2 : World} {i : Nat} {v : Int} (hs : SetC w ((⟨d.bt, 0, none⟩ : Addr).add (i * 1)) [.int .i32 v] w2) :
    StM w2 s L { d with T := d.T.set i v } ∧ Mod (· = d.bt) w w2 := by
  rw [own_add] at hs
  have hmod : Mod (· = d.bt) w w2 := hs.mod
  have hb := hs.blk h.tab
  refine ⟨⟨h.addr, ?_, h.ent.keep hmod fun x hx e => ?_, h.ins.keep hmod fun x hx e => ?_, ?_, h.ne1, h.ne2, h.ne3, h.ne4, h.ne5, h.ne6⟩, hmod⟩
  · have := h.hdr.keep hmod h.ne1
    simpa using this
  · subst e; exact h.ne3 hx
  · subst e; exact h.ne5 hx
  · rw [Nat.zero_add, Nat.mul_one] at hb
    have e : setAt (d.T.map fun x => Value.int .i32 x) i [.int .i32 v] = (d.T.set i v).map fun x => .int .i32 x := by simp [setAt, List.map_set]
    rw [e] at hb; exact hb
theorem SD.fp_newTab {d : SD} {b : Nat} {T : List Int} : ∀ x, ({ d with bt := b, T := T } : SD).fp x → d.fp x ∨ x = b := by
  rintro x (h | h | h | h)
  · exact .inl (.inl h)
  · exact .inr h
  · exact .inl (.inr (.inr (.inl h)))
  · exact .inl (.inr (.inr (.inr h)))

theorem grow_ok (h : StM w s L d) (hok : ∀ i n, L[i]? = some n → NdOK i n) (hL : L.length ≤ 30000) (h2 : 2 ≤ L.length) {k : Nat} (hT : d.T.length = 2 ^ k) (hk : k ≤ 39) (hlt : L.length < 2 * d.T.length) :
    CallsF Tryz.prog 56 #[.pointer (some s)] w fun e w' => e = .returned (.tuple #[]) ∧ ∃ b T, StM w' s L { d with bt := b, T := T } ∧ Tab hN L T ∧ T.length = 2 * d.T.length ∧ Mod (· = d.bs) w w' ∧ w.heap.size ≤ b := by
  have hins : (insA L).length ≤ 2147483647 := by
    have := WF.insLen hok
    have h3 : L.length * L.length ≤ 30000 * 30000 := Nat.mul_le_mul hL hL
    omega
  have hp := two_pow_40 (k := k) (by omega)
  have hT2 : 2 * d.T.length = 2 ^ (k + 1) := by rw [hT, Nat.pow_succ]; omega
  have hTi : (d.T.length : Int) = 2 ^ k := by rw [hT]; simp
  refine C_formula_Store_grow _ _ _ ?_
  refine ⟨_, _, _, h.c2, ?_⟩
  have e1 : IntKind.i64.wrap ((2 : Int) * (d.T.length : Int)) = ((2 * d.T.length : Nat) : Int) := by rw [wrap_i64 (by omega) (by omega)]; omega
  rw [e1]
  have hT3 : (2 * d.T.length : Nat) ≤ 1099511627776 := by
    have h1 : 2 ^ (k + 1) ≤ 2 ^ 40 := Nat.pow_le_pow_right (by decide) (by omega)
    have h40 : (2 : Nat) ^ 40 = 1099511627776 := by decide
    omega
  obtain ⟨w1, hmk, hb1, hm1, hs1⟩ := makeSlice_ok (w := w) elem_i32 (n := ((2 * d.T.length : Nat) : Int)) (by omega) (by omega) (by omega)
  rw [Int.toNat_natCast] at hmk hb1
  have hz : ((List.replicate (2 * d.T.length) ()).flatMap fun _ => cellsL (.int .i32 0)) = (List.replicate (2 * d.T.length) (0 : Int)).map fun x => .int .i32 x := by
    rw [List.map_replicate]; exact flatMap_one _ _
  rw [hz] at hb1
  have hst1 := h.same hm1
  refine ⟨w1, _, _, _, hmk, ?_, ?_⟩
  · have : CanStore w1 (s.add 2) 0 [.slice (some ⟨w.heap.size, 0, none⟩) (2 * d.T.length) (2 * d.T.length)] := by
      rw [h.addr, own_add]; exact canStore_blk hst1.hdr _ 0 rfl (by simp)
    exact this
  intro w2 hw2
  have hl2 : (List.replicate (2 * d.T.length) (0 : Int)).length = 2 * d.T.length := by simp
  have hst2 : StM w2 s L { d with bt := w.heap.size, T := List.replicate (2 * d.T.length) 0 } := h.newTab hm1 hb1 (Nat.le_refl _) (by rw [hl2]; exact hw2)
  have hm2 : Mod (· = d.bs) w w2 := by
    have := hw2.mod
    rw [h.addr, own_add] at this
    exact hm1.to.then this
  refine ⟨_, _, _, hst2.c2, ?_⟩
  refine ⟨fun m vs w' => ∃ (a : Nat) (T : List Int), 2 ≤ a ∧ a ≤ L.length ∧ m = L.length - a ∧ vs = [.int .i64 a] ∧ StM w' s L { d with bt := w.heap.size, T := T } ∧ Tab hN (L.take a) T ∧ T.length = 2 * d.T.length ∧ Mod (· = d.bs) w w', ?_, ?_⟩
  · refine ⟨_, 2, _, Nat.le_refl _, h2, rfl, rfl, hst2, ?_, hl2, hm2⟩
    exact Tab.zeros _ _ _ (by omega) (by simp; omega)
  rintro m n3 w3 ⟨a, T, ha2, haL, rfl, hvs, hst3, htab, hTl, hm3⟩
  simp only [List.cons.injEq, Value.int.injEq, true_and, and_true] at hvs
  subst hvs
  refine ⟨_, _, _, hst3.c0, ?_⟩
  refine Br_dec (fun hal => ?_) fun hal => ?_
  rotate_left
  · have : a = L.length := by omega
    subst this
    rw [List.take_length] at htab
    exact ⟨rfl, _, T, hst3, htab, hTl, hm3, Nat.le_refl _⟩
  have hal' : a < L.length := by omega
  have hx : L[a]? = some L[a] := List.getElem?_eq_getElem hal'
  generalize L[a] = n at hx
  have hnok := hok a n hx
  obtain ⟨w64a, w64b, w64c⟩ := NdOK_small hnok
  obtain ⟨ad, hpe, hc⟩ := hst3.entry hx
  refine ⟨_, _, _, hst3.c0, ?_⟩
  rw [hpe]
  refine ⟨⟨by omega, by omega⟩, _, _, _, _, _, by rw [Int.toNat_natCast]; exact hc, ?_⟩
  intro w4 hw4
  have hbk := hw4.blk 0 rfl
  have hst4 := hst3.same hw4.mod
  refine (inputsOf_ok hst4 hins hx).mono ?_
  rintro e w5 ⟨p, c, rfl, hrow, hin, hm5⟩
  have hcell : ∀ j, w5.cell? ((⟨w3.heap.size + 0, 0, none⟩ : Addr).add j) = (entC (off L a) n)[j]? := by
    intro j; rw [own_add, (hbk.keep hm5 NoB.not).cell, Nat.zero_add]; rfl
  refine ⟨_, _, _, rfl, n.kind, hcell 3, n.block, hcell 2, n.alt, hcell 4, ?_⟩
  rw [w64a, w64b, w64c]
  intro w6 hw6
  have hbk6 := hw6.blk 0 rfl
  have hm46 : Mod NoB w4 w6 := hm5.then hw6.mod
  have hst6 := hst4.same hm46
  refine (hashNode_ok (n := n) (by have := hnok.len; omega) ?_).mono ?_
  · intro w' hw' i x hi
    refine grow1_ok (c := ⟨w5.heap.size + 0, 0, none⟩) (p := p) (m := n.ins.length) (mc := c) (l := n.ins) ?_ ?_ rfl hi ?_
    · rw [(hbk6.keep hw' NoB.not).cell]; rfl
    · exact (hrow.keep hw6.mod fun _ _ => NoB.not).keep hw' fun _ _ => NoB.not
    · have := hnok.lt x (List.mem_of_getElem? hi); omega
  rintro e w7 ⟨rfl, hm7⟩
  have hst7 := hst6.same hm7
  have hm07 : Mod (· = d.bs) w w7 := ((hm3.then hw4.mod.to).then hm46.to).then hm7.to
  refine ⟨_, rfl, ?_⟩
  rw [hashN_eq]
  have hTk : T.length = 2 ^ (k + 1) := by rw [hTl]; exact hT2
  have hlen : (L.take a).length = a := by rw [List.length_take]; omega
  obtain ⟨j0, _, hj0⟩ := htab.hole (by rw [hlen]; omega) (hN n)
  refine ⟨fun m vs w' => ∃ j : Nat, m = j0 - j ∧ j ≤ j0 ∧ vs = [.int .u64 (((hN n + j) % T.length : Nat) : Int)] ∧ (∀ j', j' < j → T[(hN n + j') % T.length]? ≠ some 0) ∧ Mod NoB w7 w', ⟨_, 0, rfl, Nat.zero_le _, ?_, fun _ h => absurd h (Nat.not_lt_zero _), Mod.refl _ _⟩, ?_⟩
  · show [Value.int .u64 (bitsV .and .u64 (hN n : Int) (IntKind.u64.wrap (IntKind.i64.wrap (((List.replicate (2 * d.T.length) (0 : Int)).length : Int) - 1))))] = _
    rw [hl2, ← hTl, mask_eq hTk (by omega) (hN_lt n), Nat.add_zero]
  rintro m n17 w8 ⟨j, rfl, hjj, hvs, hnz, hm8⟩
  simp only [List.cons.injEq, Value.int.injEq, true_and, and_true] at hvs
  subst hvs
  have hst8 := hst7.same hm8
  refine ⟨_, _, _, hst8.c2, ?_⟩
  have hil : (hN n + j) % T.length < T.length := Nat.mod_lt _ htab.pos
  refine ⟨⟨by omega, by show ((_ : Nat) : Int) < (T.length : Int); omega⟩, T[(hN n + j) % T.length], by rw [Int.toNat_natCast]; exact tabCell hst8.tab (List.getElem?_eq_getElem hil), ?_⟩
  refine Br_ne (fun hne => ?_) fun heq => ?_
  · have hjlt : j ≠ j0 := by
      rintro rfl
      rw [List.getElem?_eq_getElem hil] at hj0
      injection hj0 with hj0
      exact hne hj0
    refine ⟨j0 - (j + 1), by omega, j + 1, rfl, by omega, ?_, ?_, hm8⟩
    · show [Value.int .u64 (bitsV .and .u64 _ (IntKind.u64.wrap (IntKind.i64.wrap (((List.replicate (2 * d.T.length) (0 : Int)).length : Int) - 1))))] = _
      rw [hl2, ← hTl, mask_next hTk (by omega)]
    · intro j' hj'
      by_cases hjj' : j' = j
      · subst hjj'
        rw [List.getElem?_eq_getElem hil]
        intro h0; injection h0 with h0; exact hne h0
      · exact hnz j' (by omega)
  · refine ⟨_, _, _, hst8.c2, ⟨by omega, by show ((_ : Nat) : Int) < (T.length : Int); omega⟩, ?_, ?_⟩
    · rw [own_add]
      refine canStore_blk hst8.tab _ 0 rfl ?_
      simp only [List.length_map, List.length_cons, List.length_nil, Int.toNat_natCast]
      omega
    intro w9 hw9
    rw [Int.toNat_natCast] at hw9
    obtain ⟨hst9, hm9⟩ := hst8.setTab hw9
    have hz : T[(hN n + j) % T.length]? = some 0 := by rw [List.getElem?_eq_getElem hil, heq]
    have hv : IntKind.i32.wrap (IntKind.i64.wrap ((a : Int) + 1)) = (a : Int) + 1 := by rw [wrap_i64 (by omega) (by omega), wrap_i32 (by omega) (by omega)]
    have hins := htab.insert (n := n) (j := j) (by rw [hlen]; exact ha2) hz hnz
    rw [hlen] at hins
    have htake : L.take a ++ [n] = L.take (a + 1) := by
      rw [List.take_add_one, hx]; rfl
    rw [htake] at hins
    have hpe' : d.pe = some ad := hpe
    rw [← hpe']
    refine ⟨L.length - (a + 1), by omega, a + 1, _, by omega, hal', rfl, ?_, hst9, ?_, ?_, ?_⟩
    · rw [wrap_i64 (by omega) (by omega)]; rfl
    · rw [hv]; exact hins
    · show (T.set _ _).length = _
      rw [List.length_set]; exact hTl
    · exact (hm07.then hm8.to).new _ hm9 fun x hx e => by subst e; exact absurd hx (Nat.lt_irrefl _)

end Go.Proofs.YtajfdcbknghipaaGreatDoor
end

section
/- A node is looked up, and appended if it is new. Conditions on memory as stated. -/
namespace Go.Proofs.YtajfdcbknghipaaGreatDoor
open Go Go.Sh Go.Fm

variable {w : World} {s : Addr} {L : List Nd} {d : SD}

/-- A store while a node is being appended: its entries' cells and its inputs' numbers. -/
structure StG (w : World) (s : Addr) (ne : Nat) (es : List Value) (xs : List Nat) (d : SD) : Prop where
  addr : s = ⟨d.bs, 0, none⟩
  hdr : Blk w d.bs [.slice d.pe ne d.ce, .slice d.pi xs.length d.ci, .slice (some ⟨d.bt, 0, none⟩) d.T.length d.T.length] 74
  ent : Own w 70 5 d.pe ne d.ce es
  ins : Own w 21 1 d.pi xs.length d.ci (i32s xs)
  tab : Blk w d.bt (d.T.map fun x => .int .i32 x) 21
  ne1 : d.bs ≠ d.bt
  ne2 : ¬ At d.pe d.bs
  ne3 : ¬ At d.pe d.bt
  ne4 : ¬ At d.pi d.bs
  ne5 : ¬ At d.pi d.bt
  ne6 : ∀ b, At d.pe b → ¬ At d.pi b
theorem StM.toG (h : StM w s L d) : StG w s L.length (ents 0 L) (insA L) d := ⟨h.addr, h.hdr, h.ent, h.ins, h.tab, h.ne1, h.ne2, h.ne3, h.ne4, h.ne5, h.ne6⟩
theorem StG.toM (h : StG w s L.length (ents 0 L) (insA L) d) : StM w s L d := ⟨h.addr, h.hdr, h.ent, h.ins, h.tab, h.ne1, h.ne2, h.ne3, h.ne4, h.ne5, h.ne6⟩
variable {ne : Nat} {es : List Value} {xs : List Nat}
theorem StG.keep {fp : Nat → Prop} {w' : World} (h : StG w s ne es xs d) (hm : Mod fp w w') (hn : ∀ b, d.fp b → ¬ fp b) : StG w' s ne es xs d :=
  ⟨h.addr, h.hdr.keep hm (hn _ (.inl rfl)), h.ent.keep hm fun b hb => hn _ (.inr (.inr (.inl hb))), h.ins.keep hm fun b hb => hn _ (.inr (.inr (.inr hb))), h.tab.keep hm (hn _ (.inr (.inl rfl))), h.ne1, h.ne2, h.ne3, h.ne4, h.ne5, h.ne6⟩
theorem StG.same {w' : World} (h : StG w s ne es xs d) (hm : Mod NoB w w') : StG w' s ne es xs d := h.keep hm fun _ _ => NoB.not
theorem StG.lt (h : StG w s ne es xs d) : ∀ b, d.fp b → b < w.heap.size := by
  rintro b (rfl | rfl | hb | hb)
  · exact h.hdr.lt
  · exact h.tab.lt
  · exact h.ent.lt b hb
  · exact h.ins.lt b hb
theorem StG.c0 (h : StG w s ne es xs d) : w.cell? (s.add 0) = some (.slice d.pe ne d.ce) := by rw [h.addr, own_add, h.hdr.cell]; rfl
theorem StG.c1 (h : StG w s ne es xs d) : w.cell? (s.add 1) = some (.slice d.pi xs.length d.ci) := by rw [h.addr, own_add, h.hdr.cell]; rfl
theorem StG.c2 (h : StG w s ne es xs d) : w.cell? (s.add 2) = some (.slice (some ⟨d.bt, 0, none⟩) d.T.length d.T.length) := by rw [h.addr, own_add, h.hdr.cell]; rfl

theorem StG.pushEnt (h : StG w s ne es xs d) (hb : ne ≤ 1000000) {q : Option Addr} {mc : Nat} {news : List Value} (hr : Row w q news) (hl : news.length = 5) (h1 : ∀ u ∈ news, u.oneCell' = true) :
    ∃ w1 p' c', (Builtin.append_ #[71, 71] 71 #[.slice d.pe ne d.ce, .slice q 1 mc]).run Tryz.prog w = .ok (.slice p' (ne + 1) c') w1 ∧ CanStore w1 (s.add 0) 0 [.slice p' (ne + 1) c'] ∧
      ∀ w2, SetC w1 (s.add 0) [.slice p' (ne + 1) c'] w2 → StG w2 s (ne + 1) (es ++ news) xs { d with pe := p', ce := c' } ∧ Mod (fun b => At d.pe b ∨ b = d.bs) w w2 ∧ (∀ b, At p' b → At d.pe b ∨ b = w.heap.size) := by
  have hmax : maxLen = 9223372036854775807 := rfl
  obtain ⟨p', c', w1, hrun, hown, hm, hat⟩ := append_own elem_entry h.ent hr (m := 1) (mc := mc) (by rw [hl]) h1 (by rw [hmax]; omega) (by omega)
  have hlt := h.lt
  have hdr1 := h.hdr.keep hm h.ne2
  have hbs : d.bs < w.heap.size := hlt _ (.inl rfl)
  have hbt : d.bt < w.heap.size := hlt _ (.inr (.inl rfl))
  refine ⟨w1, p', c', hrun, ?_, ?_⟩
  · rw [h.addr, own_add]; exact canStore_blk hdr1 _ 0 rfl (by simp)
  intro w2 hs
  rw [h.addr, own_add] at hs
  have hm2 : Mod (· = d.bs) w1 w2 := hs.mod
  have hnp : ∀ x, x < w.heap.size → ¬ At d.pe x → ¬ At p' x := by
    intro x hx hnx hpx
    rcases hat x hpx with h' | h'
    · exact hnx h'
    · omega
  refine ⟨⟨h.addr, hs.blk hdr1, hown.keep hm2 fun b hb e => ?_, (h.ins.keep hm fun b hb hb' => h.ne6 b hb' hb).keep hm2 fun b hb e => ?_, (h.tab.keep hm h.ne3).keep hm2 fun e => h.ne1 e.symm, h.ne1, hnp _ hbs h.ne2, hnp _ hbt h.ne3, h.ne4, h.ne5, ?_⟩, ?_, hat⟩
  · subst e; exact hnp _ hbs h.ne2 hb
  · subst e; exact h.ne4 hb
  · intro b hb hb'
    exact hnp _ (h.ins.lt b hb') (fun hx => h.ne6 b hx hb') hb
  · exact hm.trans hm2 (fun x hx => .inl hx) fun x _ hx => .inr hx

theorem StG.pushIns (h : StG w s ne es xs d) (hb : xs.length ≤ 2000000000) {q : Option Addr} {mc x : Nat} (hr : Row w q [.int .i32 x]) :
    ∃ w1 p' c', (Builtin.append_ #[72, 72] 72 #[.slice d.pi xs.length d.ci, .slice q 1 mc]).run Tryz.prog w = .ok (.slice p' (xs.length + 1) c') w1 ∧ CanStore w1 (s.add 1) 0 [.slice p' (xs.length + 1) c'] ∧
      ∀ w2, SetC w1 (s.add 1) [.slice p' (xs.length + 1) c'] w2 → StG w2 s ne es (xs ++ [x]) { d with pi := p', ci := c' } ∧ Mod (fun b => At d.pi b ∨ b = d.bs) w w2 ∧ (∀ b, At p' b → At d.pi b ∨ b = w.heap.size) := by
  have hmax : maxLen = 9223372036854775807 := rfl
  obtain ⟨p', c', w1, hrun, hown, hm, hat⟩ := append_own elem_i32 h.ins hr (m := 1) (mc := mc) rfl (by intro u hu; simp only [List.mem_singleton] at hu; subst hu; rfl) (by rw [hmax]; omega) (by omega)
  have hlt := h.lt
  have hdr1 := h.hdr.keep hm h.ne4
  have hbs : d.bs < w.heap.size := hlt _ (.inl rfl)
  have hbt : d.bt < w.heap.size := hlt _ (.inr (.inl rfl))
  have hxl : (xs ++ [x]).length = xs.length + 1 := by simp
  have hxi : i32s (xs ++ [x]) = i32s xs ++ [.int .i32 x] := by simp [i32s]
  refine ⟨w1, p', c', hrun, ?_, ?_⟩
  · rw [h.addr, own_add]; exact canStore_blk hdr1 _ 0 rfl (by simp)
  intro w2 hs
  rw [h.addr, own_add] at hs
  have hm2 : Mod (· = d.bs) w1 w2 := hs.mod
  have hnp : ∀ x, x < w.heap.size → ¬ At d.pi x → ¬ At p' x := by
    intro x hx hnx hpx
    rcases hat x hpx with h' | h'
    · exact hnx h'
    · omega
  have hown2 : Own w2 21 1 p' (xs ++ [x]).length c' (i32s (xs ++ [x])) := by
    rw [hxl, hxi]
    exact hown.keep hm2 fun b hb e => hnp _ hbs h.ne4 (e ▸ hb)
  refine ⟨⟨h.addr, by rw [hxl]; exact hs.blk hdr1, (h.ent.keep hm fun b hb hb' => h.ne6 b hb hb').keep hm2 fun b hb e => ?_, hown2, (h.tab.keep hm h.ne5).keep hm2 fun e => h.ne1 e.symm, h.ne1, h.ne2, h.ne3, hnp _ hbs h.ne4, hnp _ hbt h.ne5, ?_⟩, ?_, hat⟩
  · subst e; exact h.ne2 hb
  · intro b hb hb'
    exact hnp _ (h.ent.lt b hb) (fun hx => h.ne6 b hb hx) hb'
  · exact hm.trans hm2 (fun x hx => .inl hx) fun x _ hx => .inr hx

/-- A store of the nodes L: well formed, its table true. -/
structure StI (w : World) (s : Addr) (L : List Nd) (d : SD) : Prop where
  m : StM w s L d
  wf : WF L
  tab : Tab hN L d.T
  pow : ∃ k, d.T.length = 2 ^ k
  cap : d.T.length ≤ 64 ∨ d.T.length ≤ 4 * L.length
  load : 2 * L.length ≤ d.T.length
theorem StI.keep {fp : Nat → Prop} {w' : World} (h : StI w s L d) (hm : Mod fp w w') (hn : ∀ b, d.fp b → ¬ fp b) : StI w' s L d := ⟨h.m.keep hm hn, h.wf, h.tab, h.pow, h.cap, h.load⟩
theorem StI.same {w' : World} (h : StI w s L d) (hm : Mod NoB w w') : StI w' s L d := ⟨h.m.same hm, h.wf, h.tab, h.pow, h.cap, h.load⟩
/-- What an operation on the store leaves. -/
def StPost (w : World) (s : Addr) (d : SD) (L' : List Nd) (w' : World) : Prop := ∃ d', StI w' s L' d' ∧ Mod d.fp w w' ∧ ∀ b, d'.fp b → d.fp b ∨ w.heap.size ≤ b
theorem StI.post (h : StI w s L d) {w' : World} (hm : Mod NoB w w') : StPost w s d L w' := ⟨d, h.same hm, hm.to, fun _ hb => .inl hb⟩
theorem insLen_small (hok : ∀ i n, L[i]? = some n → NdOK i n) (hL : L.length ≤ 30000) : (insA L).length ≤ 900000000 := by
  have := WF.insLen hok
  have h3 : L.length * L.length ≤ 30000 * 30000 := Nat.mul_le_mul hL hL
  omega
theorem pow_small {m k : Nat} (h : m = 2 ^ k) (hm : m ≤ 1000000) : k ≤ 20 := by
  rcases Nat.lt_or_ge 20 k with hk | hk
  · have h1 : 2 ^ 21 ≤ 2 ^ k := Nat.pow_le_pow_right (by decide) hk
    have h40 : (2 : Nat) ^ 21 = 2097152 := by decide
    omega
  · exact hk

end Go.Proofs.YtajfdcbknghipaaGreatDoor
end

section
/- intern: the number of a node, appended if it does not exist. Conditions on memory as stated. -/
namespace Go.Proofs.YtajfdcbknghipaaGreatDoor
open Go Go.Sh Go.Fm

variable {w : World} {s : Addr} {L : List Nd} {d : SD}

theorem intern_ok (h : StI w s L d) (hL : L.length < 30000) {n : Nd} (hn : NdOK L.length n) (hk : 2 ≤ n.kind) {p : Option Addr} {c : Nat} (hr : Row w p (ints (natI n.ins))) (hdis : ∀ b, At p b → ¬ d.fp b) :
    CallsF Tryz.prog 33 #[.pointer (some s), .int .i64 n.kind, .int .i64 n.block, .int .i64 n.alt, .slice p n.ins.length c] w fun e w' => e = .returned (.int .i64 (mk L n).2) ∧ StPost w s d (mk L n).1 w' := by
  have hok := h.wf.ok
  have h2 := h.wf.two
  have hins := insLen_small hok (by omega)
  obtain ⟨k, hTk⟩ := h.pow
  have hTs : d.T.length ≤ 1000000 := by rcases h.cap with h1 | h1 <;> omega
  have hk20 := pow_small hTk hTs
  have hnl := hn.len
  refine C_formula_Store_intern _ _ _ _ _ _ _ _ _ ?_
  refine ⟨_, _, _, h.m.c2, ?_⟩
  intro w1 hw1
  have hcap := hw1.blk 0 rfl
  have hm01 : Mod NoB w w1 := hw1.mod
  refine (hashNode_ok (n := n) (by omega) ?_).mono ?_
  · intro w' hw' i x hi
    refine intern1_ok (c := ⟨w.heap.size + 0, 0, none⟩) (p := p) (m := n.ins.length) (mc := c) (l := natI n.ins) ?_ ?_ (by simp [natI]) ?_
    · rw [(hcap.keep hw' NoB.not).cell]; rfl
    · exact hr.keep (hm01.then hw') fun _ _ => NoB.not
    · rw [natI_get, hi]; rfl
  rintro e w2 ⟨rfl, hm2⟩
  refine ⟨_, rfl, ?_⟩
  rw [hashN_eq]
  have hm02 : Mod NoB w w2 := hm01.then hm2
  obtain ⟨j0, _, hj0⟩ := h.tab.hole (by have := h.load; omega) (hN n)
  refine ⟨fun m vs w' => ∃ (a0 : Int) (j : Nat), m = j0 - j ∧ j ≤ j0 ∧ vs = [.int .i64 a0, .int .u64 (((hN n + j) % d.T.length : Nat) : Int)] ∧
    (∀ j', j' < j → ∃ (a : Nat) (m' : Nd), d.T[(hN n + j') % d.T.length]? = some ((a : Int) + 1) ∧ L[a]? = some m' ∧ m' ≠ n) ∧ Mod NoB w2 w', ⟨_, 0, 0, rfl, Nat.zero_le _, ?_, fun _ h => absurd h (Nat.not_lt_zero _), Mod.refl _ _⟩, ?_⟩
  · rw [mask_eq hTk (by omega) (hN_lt n), Nat.add_zero]
  rintro m a0 n4 w3 ⟨a0', j, rfl, hjj, hvs, hprev, hm3⟩
  simp only [List.cons.injEq, Value.int.injEq, true_and, and_true] at hvs
  obtain ⟨rfl, rfl⟩ := hvs
  have hm03 : Mod NoB w w3 := hm02.then hm3
  have hst3 := h.same hm03
  have hcap3 := hcap.keep (hm2.then hm3) NoB.not
  have hil : (hN n + j) % d.T.length < d.T.length := Nat.mod_lt _ h.tab.pos
  have htc := tabCell hst3.m.tab (List.getElem?_eq_getElem hil)
  refine ⟨_, _, _, hst3.m.c2, ⟨by omega, by omega⟩, d.T[(hN n + j) % d.T.length], by rw [Int.toNat_natCast]; exact htc, ?_⟩
  refine Br_ne (fun hne => ?_) fun heq => ?_
  · -- a node stands here
    rcases h.tab.ent _ _ (List.getElem?_eq_getElem hil) with h0 | ⟨a, m', ha, ha2, hat, _⟩
    · exact absurd h0 hne
    refine ⟨_, _, _, hst3.m.c2, ⟨by omega, by omega⟩, _, by rw [Int.toNat_natCast]; exact htc, p, n.ins.length, c, by rw [hcap3.cell]; rfl, ?_⟩
    have hal := (List.getElem?_eq_some_iff.1 ha).1
    have e1 : IntKind.i64.wrap (IntKind.i64.wrap d.T[(hN n + j) % d.T.length] - 1) = (a : Int) := by
      rw [hat, wrap_i64 (n := (a : Int) + 1) (by omega) (by omega), wrap_i64 (by omega) (by omega)]; omega
    rw [e1]
    refine (equal_ok hst3.m (by omega) hok (by omega) ha (hr.keep hm03 fun _ _ => NoB.not)).mono ?_
    rintro e w4 ⟨rfl, hm4⟩
    refine ⟨_, rfl, Br_dec (fun hmn => ?_) fun hmn => ?_⟩
    · subst hmn
      rw [mk_found h.wf.nodup ha]
      exact ⟨rfl, h.post (hm03.then hm4)⟩
    · have hjlt : j ≠ j0 := by
        rintro rfl
        rw [List.getElem?_eq_getElem hil] at hj0
        injection hj0 with hj0
        exact hne hj0
      refine ⟨j0 - (j + 1), by omega, a0, j + 1, rfl, by omega, ?_, ?_, hm3.then hm4⟩
      · rw [mask_next hTk (by omega)]
      · intro j' hj'
        by_cases hjj' : j' = j
        · subst hjj'
          exact ⟨a, m', by rw [List.getElem?_eq_getElem hil, hat], ha, hmn⟩
        · exact hprev j' (by omega)
  -- an empty place: the node is new
  have hz : d.T[(hN n + j) % d.T.length]? = some 0 := by rw [List.getElem?_eq_getElem hil, heq]
  have hnz : ∀ j', j' < j → d.T[(hN n + j') % d.T.length]? ≠ some 0 := by
    intro j' hj' h0
    obtain ⟨a, m', ha, _⟩ := hprev j' hj'
    rw [ha] at h0
    injection h0 with h0
    omega
  have habs : ∀ a : Nat, L[a]? ≠ some n := by
    intro a
    rcases Nat.lt_or_ge a 2 with ha | ha
    · intro han
      have : a = 0 ∨ a = 1 := by omega
      rcases this with rfl | rfl
      · rw [h.wf.ff] at han; injection han with han; rw [← han] at hk; simp at hk
      · rw [h.wf.tt] at han; injection han with han; rw [← han] at hk; simp at hk
    · refine h.tab.absent hz ?_ a ha
      intro j' hj' a ha han
      obtain ⟨a', m', ha', hm', hmn⟩ := hprev j' hj'
      rw [ha] at ha'
      injection ha' with ha'
      have : a = a' := by omega
      subst this
      rw [han] at hm'; injection hm' with hm'
      exact hmn hm'.symm
  rw [mk_new habs]
  refine ⟨_, _, _, hst3.m.c0, Br_false (by rw [decide_eq_false_iff_not]; omega) ?_⟩
  have hm03d : Mod NoB w w3.drew := hm03.then (drew_mod _)
  have hst3d := h.same hm03d
  have hcap3d := hcap3.keep (drew_mod w3) NoB.not
  refine ⟨_, _, _, hst3d.m.c0, _, _, _, hst3d.m.c1, p, n.ins.length, c, by rw [hcap3d.cell]; rfl, ?_⟩
  intro w4 hw4
  have hm04 : Mod NoB w w4 := hm03d.then hw4.mod
  have hst4 := h.m.toG.same hm04
  have hb4 := hw4.blk 0 rfl
  have ew : [Value.int .i64 ((insA L).length : Int), .int .i32 (IntKind.i32.wrap (n.ins.length : Int)), .int .i16 (IntKind.i16.wrap n.block), .int .i8 (IntKind.i8.wrap n.kind), .int .i8 (IntKind.i8.wrap n.alt)] = entC (insA L).length n := by
    have a1 := hn.k0; have a2 := hn.k1; have a3 := hn.b0; have a4 := hn.b1; have a5 := hn.a0; have a6 := hn.a1
    rw [wrap_i32 (by omega) (by omega), wrap_i16 (by omega) (by omega), wrap_i8 (by omega) (by omega), wrap_i8 (by omega) (by omega)]
    rfl
  rw [ew] at hb4
  refine ⟨hst4.c0, ?_⟩
  obtain ⟨w5, p5, c5, hrun5, hcan5, hpost5⟩ := hst4.pushEnt (by omega) (mc := 1) (Row.of_blk hb4) rfl (by intro u hu; simp only [entC, List.mem_cons, List.not_mem_nil, or_false] at hu; rcases hu with rfl | rfl | rfl | rfl | rfl <;> rfl)
  refine ⟨w5, p5, _, c5, hrun5, hcan5, ?_⟩
  intro w6 hw6
  obtain ⟨hst6, hm6, hp5⟩ := hpost5 w6 hw6
  have hlt := h.m.lt
  have hfp : ∀ x, d.fp x → x ≠ w.heap.size + 0 := fun x hx => by have := hlt x hx; omega
  have hm16 : Mod NoB w1 w4 := ((hm2.then hm3).then (drew_mod _)).then hw4.mod
  have hcap6 : Blk w6 (w.heap.size + 0) [.slice p n.ins.length c] 25 := (hcap.keep hm16 NoB.not).keep hm6 fun hx => by
    rcases hx with hx | hx
    · exact hfp _ (.inr (.inr (.inl hx))) rfl
    · exact hfp _ (.inl rfl) hx.symm
  refine ⟨p, n.ins.length, c, by rw [hcap6.cell]; rfl, ?_⟩
  have hm06 : Mod d.fp w w6 := hm04.to.then (hm6.mono fun x _ hx => by
    rcases hx with hx | hx
    · exact .inr (.inr (.inl hx))
    · exact .inl hx)
  have hheap : w.heap.size ≤ w4.heap.size := hm04.size
  refine ⟨fun m vs w' => ∃ (i : Nat) (pi : Option Addr) (ci : Nat), m = n.ins.length - i ∧ i ≤ n.ins.length ∧ vs = [.int .i64 i] ∧
    StG w' s (L.length + 1) (ents 0 L ++ entC (insA L).length n) (insA L ++ n.ins.take i) { d with pe := p5, ce := c5, pi := pi, ci := ci } ∧ Mod d.fp w w' ∧ (∀ b, At pi b → At d.pi b ∨ w.heap.size ≤ b), ⟨_, 0, d.pi, d.ci, rfl, Nat.zero_le _, rfl, ?_, hm06, fun _ hb => .inl hb⟩, ?_⟩
  · simpa using hst6
  rintro m i w7 ⟨i', pi, ci, rfl, hi, hvs, hst7, hm7, hpi⟩
  simp only [List.cons.injEq, Value.int.injEq, true_and, and_true] at hvs
  subst hvs
  refine Br_dec (fun hlti => ?_) fun hgei => ?_
  · have hi' : i' < n.ins.length := by omega
    have hx : n.ins[i']? = some n.ins[i'] := List.getElem?_eq_getElem hi'
    obtain ⟨ap, rfl, hcp⟩ := (hr.keep hm7 fun a ha => hdis _ ⟨a, ha, rfl⟩).at (i := i') (v := .int .i64 n.ins[i']) (by rw [ints_get, natI_get, hx]; rfl)
    have hxl := hn.lt _ (List.getElem_mem hi')
    refine ⟨⟨by omega, by omega⟩, _, by rw [Int.toNat_natCast, Nat.mul_one]; exact hcp, _, _, _, hst7.c1, ?_⟩
    intro w8 hw8
    have hst8 := hst7.same hw8.mod
    have hb8 := hw8.blk 0 rfl
    rw [wrap_i32 (by omega) (by omega)] at hb8
    have hl8 : (insA L ++ n.ins.take i').length ≤ 2000000000 := by rw [List.length_append, List.length_take]; omega
    obtain ⟨w9, p9, c9, hrun9, hcan9, hpost9⟩ := hst8.pushIns hl8 (mc := 1) (Row.of_blk hb8)
    refine ⟨w9, p9, _, c9, hrun9, hcan9, ?_⟩
    intro w10 hw10
    obtain ⟨hst10, hm10, hp9⟩ := hpost9 w10 hw10
    refine ⟨n.ins.length - (i' + 1), by omega, i' + 1, p9, c9, rfl, hi', ?_, ?_, ?_, ?_⟩
    · rw [wrap_i64 (by omega) (by omega)]; rfl
    · rw [List.take_succ_eq_append_getElem hi', ← List.append_assoc]; exact hst10
    · refine (hm7.then hw8.mod.to).new _ hm10 fun x hx hf => ?_
      rcases hf with hf | hf
      · rcases hpi x hf with h' | h'
        · exact .inr (.inr (.inr h'))
        · omega
      · exact .inl hf
    · intro b hb
      have hs7 : w.heap.size ≤ w8.heap.size := Nat.le_trans hm7.size hw8.mod.size
      rcases hp9 b hb with h' | h'
      · exact hpi b h'
      · exact .inr (by omega)
  -- the node stands in the store
  have hie : i' = n.ins.length := by omega
  subst hie
  rw [List.take_length, ← insA_snoc] at hst7
  have hes : ents 0 L ++ entC (insA L).length n = ents 0 (L ++ [n]) := by rw [ents_snoc, Nat.zero_add]
  have hlen : (L ++ [n]).length = L.length + 1 := by simp
  rw [hes, ← hlen] at hst7
  have hst7m := hst7.toM.same (drew_mod w7)
  refine ⟨_, _, _, hst7m.c2, _, _, _, hst7m.c0, ⟨by omega, by show ((_ : Nat) : Int) < (d.T.length : Int); omega⟩, ?_, ?_⟩
  · rw [own_add]
    refine canStore_blk hst7m.tab _ 0 rfl ?_
    simp only [List.length_map, List.length_cons, List.length_nil, Int.toNat_natCast]
    omega
  intro w8 hw8
  rw [Int.toNat_natCast] at hw8
  obtain ⟨hst8, hm8⟩ := hst7m.setTab hw8
  have hv : IntKind.i32.wrap (((L ++ [n]).length : Nat) : Int) = (L.length : Int) + 1 := by rw [hlen, wrap_i32 (by omega) (by omega)]; omega
  rw [hv] at hst8
  have htab := h.tab.insert (n := n) (j := j) h2 hz hnz
  have hmd : Mod d.fp w w8 := (hm7.then (drew_mod w7).to).new _ hm8 fun x _ hx => .inr (.inl hx)
  have hwf := h.wf.snoc hn habs
  have hst8d := hst8.same (drew_mod w8)
  refine ⟨_, _, _, hst8.c0, _, _, _, hst8d.c0, _, _, _, hst8d.c2, ?_⟩
  have eret : IntKind.i64.wrap ((((L ++ [n]).length : Nat) : Int) - 1) = (L.length : Int) := by rw [hlen, wrap_i64 (by omega) (by omega)]; omega
  have e2 : IntKind.i64.wrap (2 * (((L ++ [n]).length : Nat) : Int)) = 2 * ((L.length : Int) + 1) := by rw [hlen, wrap_i64 (by omega) (by omega)]; omega
  have hTl : (d.T.set ((hN n + j) % d.T.length) ((L.length : Int) + 1)).length = d.T.length := List.length_set ..
  have hfp5 : ∀ b, At p5 b → d.fp b ∨ w.heap.size ≤ b := by
    intro b hb
    rcases hp5 b hb with h' | h'
    · exact .inl (.inr (.inr (.inl h')))
    · exact .inr (by omega)
  have hfpi : ∀ b, At pi b → d.fp b ∨ w.heap.size ≤ b := by
    intro b hb
    rcases hpi b hb with h' | h'
    · exact .inl (.inr (.inr (.inr h')))
    · exact .inr h'
  have hload := h.load
  intro J hJ
  rw [eret] at hJ
  rw [e2]
  refine Br_dec (fun hgt => ?_) fun hle => ?_
  · have hgt' : d.T.length < 2 * (L.length + 1) := by
      have hg : (2 * ((L.length : Int) + 1)) > ((d.T.set ((hN n + j) % d.T.length) ((L.length : Int) + 1)).length : Int) := hgt
      rw [hTl] at hg; omega
    have hpk : (d.T.set ((hN n + j) % d.T.length) ((L.length : Int) + 1)).length = 2 ^ k := by rw [hTl, hTk]
    refine (grow_ok hst8d hwf.ok (by omega) (by omega) (k := k) hpk (by omega) (by rw [hlen]; show _ < 2 * (d.T.set _ _).length; rw [hTl]; omega)).mono ?_
    rintro e w9 ⟨rfl, b, T', hst9, htab9, hT9, hm9, hb9⟩
    have hT9' : T'.length = 2 * d.T.length := by rw [hT9]; show 2 * (d.T.set _ _).length = _; rw [hTl]
    refine ⟨rfl, hJ _ ⟨rfl, _, ⟨hst9, hwf, htab9, ⟨k + 1, by show T'.length = _; rw [hT9', hTk, Nat.pow_succ]; omega⟩, ?_, ?_⟩, ?_, ?_⟩⟩
    · show T'.length ≤ 64 ∨ T'.length ≤ _
      rw [hT9', hlen]; omega
    · show _ ≤ T'.length
      rw [hT9', hlen]; omega
    · exact (hmd.then (drew_mod w8).to).new _ hm9 fun x _ hx => .inl hx
    · have hsz : w.heap.size ≤ w8.drew.heap.size := Nat.le_trans hmd.size (drew_mod w8).size
      rintro x (hx | hx | hx | hx)
      · exact .inl (.inl hx)
      · exact .inr (by have hx' : x = b := hx; omega)
      · exact hfp5 x hx
      · exact hfpi x hx
  · have hle' : 2 * (L.length + 1) ≤ d.T.length := by
      have hg : ¬ (2 * ((L.length : Int) + 1)) > ((d.T.set ((hN n + j) % d.T.length) ((L.length : Int) + 1)).length : Int) := hle
      rw [hTl] at hg; omega
    refine hJ _ ⟨rfl, _, ⟨hst8d, hwf, htab, ⟨k, by show (d.T.set _ _).length = _; rw [hTl, hTk]⟩, ?_, ?_⟩, hmd.then (drew_mod w8).to, ?_⟩
    · show (d.T.set _ _).length ≤ 64 ∨ (d.T.set _ _).length ≤ _
      rw [hTl, hlen]
      rcases h.cap with h1 | h1 <;> omega
    · show _ ≤ (d.T.set _ _).length
      rw [hTl, hlen]; omega
    · rintro x (hx | hx | hx | hx)
      · exact .inl (.inl hx)
      · exact .inl (.inr (.inl hx))
      · exact hfp5 x hx
      · exact hfpi x hx

end Go.Proofs.YtajfdcbknghipaaGreatDoor
end
