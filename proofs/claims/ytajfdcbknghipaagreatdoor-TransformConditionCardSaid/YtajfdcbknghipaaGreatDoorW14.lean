/- The law TransformCondition of the package credencelaw23 answers true at every input and leaves its arguments as they were (Rows.TransformConditionCardSaid); no condition beyond the card's own: the three listed tables stand as the program's text lays them. Part 14 of 25. -/
import Derived.KernelRfl
import Derived.Test.YtajfdcbknghipaaGreatDoorW13
import Derived.Test.YtajfdcbknghipaaGreatDoorW04
import Derived.Test.YtajfdcbknghipaaGreatDoorProg

section
/- More on memory: blocks read whole, made maps, blocks of new slices. No condition. -/
namespace Go.Sh
open Go

theorem Blk.cellsFrom {w : World} {b : Nat} {cs : List Value} {t : TypeId} (h : Blk w b cs t) (off : Nat) : ∀ (vs : List Value) (i : Nat), (∀ j v, vs[j]? = some v → cs[off + i + j]? = some v) → CellsAre w ⟨b, off, none⟩ i vs
  | [], _, _ => trivial
  | v :: vs, i, hv => by
    refine ⟨?_, Blk.cellsFrom h off vs (i + 1) fun j u hu => by have := hv (j + 1) u (by simpa using hu); rw [← this]; congr 1; omega⟩
    rw [own_add, h.cell]
    exact hv 0 v rfl
theorem Blk.cellsAre {w : World} {b : Nat} {cs : List Value} {t : TypeId} (h : Blk w b cs t) : CellsAre w ⟨b, 0, none⟩ 0 cs :=
  h.cellsFrom 0 cs 0 fun j v hj => by rw [Nat.zero_add]; exact hj
theorem Blk.can {w : World} {b : Nat} {cs vs : List Value} {t : TypeId} (h : Blk w b cs t) (h1 : oneAll vs = true) (hl : vs.length ≤ cs.length) : CanStore w ⟨b, 0, none⟩ 0 vs :=
  canStore_blk h vs 0 h1 (by omega)
/-- A block that is written over whole. -/
theorem SetC.whole {w w1 : World} {b : Nat} {vs cs : List Value} {t : TypeId} (h : SetC w ⟨b, 0, none⟩ vs w1) (hb : Blk w b cs t) (hl : vs.length = cs.length) : Blk w1 b vs t := by
  have := h.blk hb
  have key : ∀ (vs cs pre : List Value), vs.length = cs.length → setAt (pre ++ cs) pre.length vs = pre ++ vs := by
    intro vs
    induction vs with
    | nil => intro cs pre hl; cases cs with | nil => rfl | cons _ _ => simp at hl
    | cons v vs ih =>
      intro cs pre hl
      cases cs with
      | nil => simp at hl
      | cons c cs =>
        rw [setAt, List.set_append_right _ _ (Nat.le_refl _), Nat.sub_self, List.set_cons_zero]
        have := ih cs (pre ++ [v]) (by simpa using hl)
        simpa using this
  have hk := key vs cs [] hl
  simp only [List.nil_append, List.length_nil] at hk
  rw [hk] at this
  exact this
/-- Cell j of a block whose start lies at 'off'. -/
theorem Blk.cellAt {w : World} {b : Nat} {cs : List Value} {t : TypeId} (h : Blk w b cs t) (off j : Nat) : w.cell? ((⟨b, off, none⟩ : Addr).add j) = cs[off + j]? := by
  rw [own_add, h.cell]
theorem Ext.mapM {κ : Type} [DecidableEq κ] {w w1 : World} {os : List OB} (h : Ext w os w1) (i : Nat) {c : Nat} (ho : nthOB os i = some (.obj (.map #[] c))) (enc : κ → Value) : MapM enc w1 (w.heap.size + i) [] :=
  ⟨#[], c, h.obj i ho, rfl⟩
theorem MapM.only {κ : Type} [DecidableEq κ] {enc : κ → Value} {w w' : World} {r : Nat} {m : List (κ × Value)} (h : MapM enc w r m) (hm : Mod NoB w w') : MapM enc w' r m := h.keep hm fun h => h
theorem At.none {b : Nat} : ¬ At Option.none b := by rintro ⟨a, ha, _⟩; cases ha
theorem at_some {g o b : Nat} {l : Option Nat} : At (some ⟨g, o, l⟩) b ↔ b = g := by
  constructor
  · rintro ⟨a, ha, rfl⟩; injection ha with ha; subst ha; rfl
  · rintro rfl; exact ⟨_, rfl, rfl⟩
theorem makeMap_ok {P : Program} {t kt et : TypeId} {w : World} (hm : P.underlying t = some (.map kt et)) {κ : Type} [DecidableEq κ] (enc : κ → Value) (k : IntKind) (n : Int) :
    ∃ w1, (Instr.makeMap t (some (.int k n))).run P w = .ok (.map (some w.heap.size)) w1 ∧ MapM enc w1 w.heap.size [] ∧ Mod NoB w w1 ∧ w1.heap.size = w.heap.size + 1 := by
  refine ⟨w.alloc (.map #[] 0), ?_, ?_, ?_, ?_⟩
  · unfold Instr.makeMap
    simp only [Sem.run_bind, run_underlying hm, Result.andThen_ok, asInt, asIntOf, Sem.run_pure, run_newObj']
  · have := ext_new w [OB.obj (.map #[] 0)] 0 _ rfl
    rw [Nat.add_zero] at this
    exact ⟨#[], 0, this, rfl⟩
  · exact ext_mod w [OB.obj (.map #[] 0)]
  · rw [World.size_alloc]
end Go.Sh
namespace Go.Sh
open Go
theorem zero_of {P : Program} {e : TypeId} {z : Value} (h : (P.info? e).map (·.zero) = some (some z)) (w : World) : (zeroValue e).run P w = .ok z w := by
  cases hi : P.info? e with
  | none => rw [hi] at h; cases h
  | some i =>
    rw [hi] at h
    simp only [Option.map_some, Option.some.injEq] at h
    exact run_zeroValue hi h w
theorem putM_none {κ : Type} [DecidableEq κ] : ∀ {m : List (κ × Value)} {k : κ} (v : Value), getM m k = none → putM m k v = m ++ [(k, v)]
  | [], _, _, _ => rfl
  | (k', v') :: m, k, v, h => by
    unfold getM at h
    split at h
    · cases h
    · rename_i hk
      unfold putM
      rw [if_neg hk, putM_none v h]; rfl
/-- A map that is a set of numbers. -/
def setM (l : List Nat) : List (Int × Value) := l.map fun (x : Nat) => ((x : Int), Value.bool true)
theorem getM_setM (l : List Nat) (x : Nat) : getM (setM l) (x : Int) = if x ∈ l then some (.bool true) else none := by
  induction l with
  | nil => rfl
  | cons y l ih =>
    show getM (((y : Int), Value.bool true) :: setM l) (x : Int) = _
    unfold getM
    by_cases h : x = y
    · subst h; simp
    · rw [if_neg (by omega), ih]
      simp [h]
theorem putM_setM {l : List Nat} {x : Nat} (h : x ∉ l) : putM (setM l) (x : Int) (.bool true) = setM (l ++ [x]) := by
  rw [putM_none _ (by rw [getM_setM, if_neg h])]
  unfold setM
  rw [List.map_append]; rfl
/-- A map from numbers to values, as a list of pairs. -/
theorem getM_zip (f : Nat → Value) (l : List Nat) (x : Nat) : getM (l.map fun (y : Nat) => ((y : Int), f y)) (x : Int) = if x ∈ l then some (f x) else none := by
  induction l with
  | nil => rfl
  | cons y l ih =>
    show getM (((y : Int), f y) :: l.map fun (y : Nat) => ((y : Int), f y)) (x : Int) = _
    unfold getM
    by_cases h : x = y
    · subst h; simp
    · rw [if_neg (by omega), ih]
      simp [h]
end Go.Sh
namespace Go.Sh
open Go
theorem setAt_mid : ∀ (vs pre old post : List Value), vs.length = old.length → setAt (pre ++ (old ++ post)) pre.length vs = pre ++ (vs ++ post)
  | [], pre, [], post, _ => rfl
  | [], pre, _ :: _, post, h => by simp at h
  | _ :: _, pre, [], post, h => by simp at h
  | v :: vs, pre, o :: old, post, h => by
    rw [setAt, List.set_append_right _ _ (Nat.le_refl _), Nat.sub_self, List.cons_append, List.set_cons_zero]
    have := setAt_mid vs (pre ++ [v]) old post (by simpa using h)
    simpa using this
theorem setAt_at {vs pre old post : List Value} {i : Nat} (hi : i = pre.length) (h : vs.length = old.length) : setAt (pre ++ (old ++ post)) i vs = pre ++ (vs ++ post) := by
  subst hi; exact setAt_mid vs pre old post h
end Go.Sh
namespace Go.Sh
open Go
theorem optP_intro {p : Option Addr} {a : Addr} {K : Addr → Prop} (h : p = some a) (hK : K a) : optP p K := by rw [h]; exact hK
theorem addr_inj {g g' o o' : Nat} {l l' : Option Nat} (h : (some (⟨g, o, l⟩ : Addr)) = some ⟨g', o', l'⟩) : g = g' := by
  have := Option.some.inj h
  exact congrArg Addr.block this
end Go.Sh
namespace Go.Sh
open Go
theorem Row.tail {w : World} {p : Option Addr} {v : Value} {vs : List Value} {c : Nat} (h : Row w p (v :: vs)) (hc : vs.length + 1 ≤ c) : Row w (sliceA p c 1 1) vs := by
  unfold sliceA
  split
  · rename_i h1
    subst h1
    have : vs = [] := List.eq_nil_of_length_eq_zero (by omega)
    subst this; exact .inl rfl
  · rcases h with h | ⟨a, rfl, h⟩
    · cases h
    · refine .inr ⟨a.add (1 * 1), rfl, fun i u hi => ?_⟩
      rw [add_add]
      have := h (i + 1) u (by simpa using hi)
      rw [show 1 * 1 + i = i + 1 by omega]; exact this
theorem Row.skip {w : World} {p : Option Addr} {cs : List Value} {c k : Nat} (h : Row w p cs) (hc : cs.length ≤ c) : Row w (sliceA p c k 1) (cs.drop k) := by
  unfold sliceA
  split
  · rename_i h1
    subst h1
    exact .inl (List.drop_eq_nil_of_le hc)
  · rcases h with rfl | ⟨a, rfl, h⟩
    · exact .inl (by simp)
    · refine .inr ⟨a.add (k * 1), rfl, fun i u hi => ?_⟩
      rw [add_add]
      rw [List.getElem?_drop] at hi
      rw [Nat.mul_one]
      exact h _ u hi
theorem at_sliceA {p : Option Addr} {c k b : Nat} (h : At (sliceA p c k 1) b) : At p b := by
  unfold sliceA at h
  split at h
  · exact h
  · obtain ⟨a, ha, hb⟩ := h
    cases p with
    | none => cases ha
    | some x =>
      simp only [Option.map_some, Option.some.injEq] at ha
      subst ha
      rw [add_block] at hb
      exact ⟨x, rfl, hb⟩
end Go.Sh
namespace Go.Sh
open Go
theorem add_zero' (a : Addr) : a.add 0 = a := by unfold Addr.add; simp
theorem sliceA_zero (p : Option Addr) (c : Nat) : sliceA p c 0 1 = p := by
  unfold sliceA
  split
  · rfl
  · cases p with
    | none => rfl
    | some a => simp only [Option.map_some, Nat.zero_mul, add_zero']
end Go.Sh
end

section
/- The walks of some functions, as propositions on memory. Written by a program. No condition. -/
namespace Go.Proofs.YtajfdcbknghipaaGreatDoor
open Go Go.Sh
set_option maxRecDepth 100000
theorem A1G3mixed : Tryz.prog.follows .mixedOrders = true := by kernel_rfl
/-- (*credence/formula.Store).cone -/
def S_formula_Store_cone (x : Addr) (y : Int) (w : World) (R : Ending → World → Prop) : Prop :=
 ∀ (w1 : World), Ext w [OB.obj (Obj.map (Array.mk []) (0 : Nat))] w1 → ∃ (w1_1 : World), Sem.run Tryz.prog (Instr.mapUpdate (105 : Nat) (Value.map (some (w.heap.size + (0 : Nat)))) (Value.int IntKind.i64 y) (Value.bool true)) w1 = Result.ok () w1_1 ∧ ∀ (w1 : World), Ext w1_1 [OB.cells [Value.int IntKind.i64 y] (3 : Nat)] w1 → ∃ (I : Nat → List Value → World → Prop), (∃ (n : Nat), I n [Value.int IntKind.i64 (0 : Int), Value.slice (some (Addr.mk (w1_1.heap.size + (0 : Nat)) (0 : Nat) none)) (1 : Nat) (1 : Nat), Value.slice none (0 : Nat) (0 : Nat), Value.bool false, Value.int IntKind.i64 (0 : Int)] w1) ∧ ∀ (n : Nat) (n_1 : Int) (p : Option Addr) (n_2 c : Nat) (p_1 : Option Addr) (n_3 c_1 : Nat) (b : Bool) (n_4 : Int) (w1 : World), I n [Value.int IntKind.i64 n_1, Value.slice p n_2 c, Value.slice p_1 n_3 c_1, Value.bool b, Value.int IntKind.i64 n_4] w1 → Br (decide (n_4 < (↑n_2 : Int))) (optP p fun (a : Addr) => ((0 : Int) ≤ n_4 ∧ n_4 < (↑n_2 : Int)) ∧ ∃ (n_5 : Int), w1.cell? (a.add (n_4.toNat * (1 : Nat))) = some (Value.int IntKind.i64 n_5) ∧ CallsF Tryz.prog (36 : Nat) (Array.mk [Value.pointer (some x), Value.int IntKind.i64 n_5]) w1 fun (e : Ending) (w_1 : World) => ∃ (p_2 : Option Addr), ∃ (n_6 : Nat), ∃ (c_2 : Nat), e = Ending.returned (Value.slice p_2 n_6 c_2) ∧ ∃ (I_1 : Nat → List Value → World → Prop), (∃ (n : Nat), I_1 n [Value.slice p n_2 c, Value.int IntKind.i64 (0 : Int)] w_1) ∧ ∀ (n_7 : Nat) (p : Option Addr) (n_8 c : Nat) (n_9 : Int) (w1 : World), I_1 n_7 [Value.slice p n_8 c, Value.int IntKind.i64 n_9] w1 → Br (decide (n_9 < (↑n_6 : Int))) (optP p_2 fun (a : Addr) => ((0 : Int) ≤ n_9 ∧ n_9 < (↑n_6 : Int)) ∧ ∃ (n : Int), w1.cell? (a.add (n_9.toNat * (1 : Nat))) = some (Value.int IntKind.i32 n) ∧ ∃ (b : Bool), Sem.run Tryz.prog (Instr.lookup (105 : Nat) (Value.map (some (w.heap.size + (0 : Nat)))) (Value.int IntKind.i64 (IntKind.i64.wrap n)) false) w1 = Result.ok (Value.bool b) w1 ∧ ∀ (J : List Value → World → Prop), (∀ (p : Option Addr) (n c : Nat) (w1 : World), (∃ (n' : Nat), n' < n_7 ∧ I_1 n' [Value.slice p n c, Value.int IntKind.i64 (IntKind.i64.wrap (n_9 + (1 : Int)))] w1) → J [Value.slice p n c] w1) → Br (!b) (∃ (w1_2 : World), Sem.run Tryz.prog (Instr.mapUpdate (105 : Nat) (Value.map (some (w.heap.size + (0 : Nat)))) (Value.int IntKind.i64 (IntKind.i64.wrap n)) (Value.bool true)) w1 = Result.ok () w1_2 ∧ ∀ (w1 : World), Ext w1_2 [OB.cells [Value.int IntKind.i64 (IntKind.i64.wrap n)] (3 : Nat)] w1 → ∃ (w1_3 : World), ∃ (p_3 : Option Addr), ∃ (n : Nat), ∃ (c_3 : Nat), Sem.run Tryz.prog (Builtin.append_ (Array.mk [(25 : Nat), (25 : Nat)]) (25 : Nat) (Array.mk [Value.slice p n_8 c, Value.slice (some (Addr.mk (w1_2.heap.size + (0 : Nat)) (0 : Nat) none)) (1 : Nat) (1 : Nat)])) w1 = Result.ok (Value.slice p_3 n c_3) w1_3 ∧ J [Value.slice p_3 n c_3] w1_3) (J [Value.slice p n_8 c] w1)) (∀ (J : List Value → World → Prop), (∀ (b_1 : Bool) (w1 : World), Br b_1 (R (Ending.returned (Value.tuple #[Value.slice none (0 : Nat) (0 : Nat), Value.bool false])) w1) (∃ (n' : Nat), n' < n ∧ I n' [Value.int IntKind.i64 (IntKind.i64.wrap (n_1 + (↑n_6 : Int))), Value.slice p n_8 c, Value.slice p_1 n_3 c_1, Value.bool b, Value.int IntKind.i64 (IntKind.i64.wrap (n_4 + (1 : Int)))] w1) → J [Value.bool b_1] w1) → Br (decide (IntKind.i64.wrap (n_1 + (↑n_6 : Int)) > (33554432 : Int))) (J [Value.bool true] w1) (J [Value.bool (decide ((↑n_8 : Int) > (65536 : Int)))] w1))) (CallsF Tryz.prog (28 : Nat) (Array.mk [Value.slice p n_2 c]) w1 fun (e : Ending) (w : World) => e = Ending.returned (Value.tuple #[]) ∧ R (Ending.returned (Value.tuple #[Value.slice p n_2 c, Value.bool true])) w)
theorem E_formula_Store_cone (x : Addr) (y : Int) (w : World) (R : Ending → World → Prop) : shFn Tryz.prog Tryz.f51.ntmps Tryz.f51.results.toList (Tryz.f51.body.getD .skip) [Value.pointer (some x), Value.int IntKind.i64 y] w R = S_formula_Store_cone x y w R := by kernel_rfl
theorem C_formula_Store_cone (x : Addr) (y : Int) (w : World) (R : Ending → World → Prop) (h : S_formula_Store_cone x y w R) : CallsF Tryz.prog 51 #[Value.pointer (some x), Value.int IntKind.i64 y] w R :=
 ⟨Tryz.call51, calls_of_sh A1G3mixed Tryz.func51 rfl (Nat.le_of_ble_eq_true rfl) ((E_formula_Store_cone x y w R).mpr h)⟩

/-- (*credence/formula.Store).Export -/
def S_formula_Store_Export (x : Addr) (y : Int) (w : World) (R : Ending → World → Prop) : Prop :=
 ∀ (w1 : World), Ext w [OB.cells [Value.slice none (0 : Nat) (0 : Nat)] (24 : Nat)] w1 → CallsF Tryz.prog (35 : Nat) (Array.mk [Value.pointer (some x), Value.int IntKind.i64 y]) w1 fun (e : Ending) (w_1 : World) => ∃ (b : Bool), e = Ending.returned (Value.bool b) ∧ Br (!b) (CanStore w_1 (Addr.mk (w.heap.size + (0 : Nat)) (0 : Nat) none) (0 : Nat) [Value.slice none (0 : Nat) (0 : Nat)] ∧ ∀ (w1 : World), SetC w_1 (Addr.mk (w.heap.size + (0 : Nat)) (0 : Nat) none) [Value.slice none (0 : Nat) (0 : Nat)] w1 → ∃ (p : Option Addr), ∃ (n : Nat), ∃ (c : Nat), CellsAre w1 (Addr.mk (w.heap.size + (0 : Nat)) (0 : Nat) none) (0 : Nat) [Value.slice p n c] ∧ R (Ending.returned (Value.tuple #[Value.agg #[Value.slice p n c], Value.int IntKind.i64 (6 : Int)])) w1) (CallsF Tryz.prog (51 : Nat) (Array.mk [Value.pointer (some x), Value.int IntKind.i64 y]) w_1 fun (e : Ending) (w_2 : World) => ∃ (p : Option Addr), ∃ (n : Nat), ∃ (c : Nat), ∃ (b : Bool), e = Ending.returned (Value.tuple #[Value.slice p n c, Value.bool b]) ∧ Br (!b) (CanStore w_2 (Addr.mk (w.heap.size + (0 : Nat)) (0 : Nat) none) (0 : Nat) [Value.slice none (0 : Nat) (0 : Nat)] ∧ ∀ (w1 : World), SetC w_2 (Addr.mk (w.heap.size + (0 : Nat)) (0 : Nat) none) [Value.slice none (0 : Nat) (0 : Nat)] w1 → ∃ (p : Option Addr), ∃ (n : Nat), ∃ (c : Nat), CellsAre w1 (Addr.mk (w.heap.size + (0 : Nat)) (0 : Nat) none) (0 : Nat) [Value.slice p n c] ∧ R (Ending.returned (Value.tuple #[Value.agg #[Value.slice p n c], Value.int IntKind.i64 (4 : Int)])) w1) (∃ (w1 : World), ∃ (r : Option Nat), Sem.run Tryz.prog (Instr.makeMap (54 : Nat) (some (Value.int IntKind.i64 (↑n : Int)))) w_2 = Result.ok (Value.map r) w1 ∧ ∃ (w1_1 : World), ∃ (p_1 : Option Addr), ∃ (n_1 : Nat), ∃ (c : Nat), Sem.run Tryz.prog (Instr.makeSlice (22 : Nat) (Value.int IntKind.i64 (↑n : Int)) (Value.int IntKind.i64 (↑n : Int))) w1 = Result.ok (Value.slice p_1 n_1 c) w1_1 ∧ ∃ (I : Nat → List Value → World → Prop), (∃ (n : Nat), I n [Value.int IntKind.i64 (0 : Int)] w1_1) ∧ ∀ (n_2 : Nat) (n_3 : Int) (w1 : World), I n_2 [Value.int IntKind.i64 n_3] w1 → Br (decide (n_3 < (↑n : Int))) (optP p fun (a : Addr) => ((0 : Int) ≤ n_3 ∧ n_3 < (↑n : Int)) ∧ ∃ (n : Int), w1.cell? (a.add (n_3.toNat * (1 : Nat))) = some (Value.int IntKind.i64 n) ∧ ∃ (w1_2 : World), Sem.run Tryz.prog (Instr.mapUpdate (54 : Nat) (Value.map r) (Value.int IntKind.i64 n) (Value.int IntKind.i64 n_3)) w1 = Result.ok () w1_2 ∧ CallsF Tryz.prog (37 : Nat) (Array.mk [Value.pointer (some x), Value.int IntKind.i64 n]) w1_2 fun (e : Ending) (w : World) => ∃ (n : Int), ∃ (n_4 : Int), ∃ (n_5 : Int), ∃ (p : Option Addr), ∃ (n_6 : Nat), ∃ (c : Nat), ∃ (b : Bool), e = Ending.returned (Value.tuple #[Value.agg #[Value.int IntKind.i64 n, Value.int IntKind.i64 n_4, Value.int IntKind.i64 n_5, Value.slice p n_6 c], Value.bool b]) ∧ optP p_1 fun (a : Addr) => ((0 : Int) ≤ n_3 ∧ n_3 < (↑n_1 : Int)) ∧ CanStore w (a.add (n_3.toNat * (4 : Nat))) (0 : Nat) [Value.int IntKind.i64 n, Value.int IntKind.i64 n_4, Value.int IntKind.i64 n_5, Value.slice p n_6 c] ∧ ∀ (w1 : World), SetC w (a.add (n_3.toNat * (4 : Nat))) [Value.int IntKind.i64 n, Value.int IntKind.i64 n_4, Value.int IntKind.i64 n_5, Value.slice p n_6 c] w1 → optP p_1 fun (a : Addr) => ((0 : Int) ≤ n_3 ∧ n_3 < (↑n_1 : Int)) ∧ ∃ (p : Option Addr), ∃ (n : Nat), ∃ (c : Nat), w1.cell? ((a.add (n_3.toNat * (4 : Nat))).add (3 : Nat)) = some (Value.slice p n c) ∧ ∃ (I_1 : Nat → List Value → World → Prop), (∃ (n : Nat), I_1 n [Value.int IntKind.i64 (0 : Int)] w1) ∧ ∀ (n_7 : Nat) (n_8 : Int) (w1 : World), I_1 n_7 [Value.int IntKind.i64 n_8] w1 → Br (decide (n_8 < (↑n : Int))) (optP p fun (a : Addr) => ((0 : Int) ≤ n_8 ∧ n_8 < (↑n : Int)) ∧ ∃ (n : Int), w1.cell? (a.add (n_8.toNat * (1 : Nat))) = some (Value.int IntKind.i64 n) ∧ optP p_1 fun (a : Addr) => ((0 : Int) ≤ n_3 ∧ n_3 < (↑n_1 : Int)) ∧ ∃ (p : Option Addr), ∃ (n_9 : Nat), ∃ (c : Nat), w1.drew.cell? ((a.add (n_3.toNat * (4 : Nat))).add (3 : Nat)) = some (Value.slice p n_9 c) ∧ ∃ (n_10 : Int), Sem.run Tryz.prog (Instr.lookup (54 : Nat) (Value.map r) (Value.int IntKind.i64 n) false) w1.drew = Result.ok (Value.int IntKind.i64 n_10) w1.drew ∧ optP p fun (a : Addr) => ((0 : Int) ≤ n_8 ∧ n_8 < (↑n_9 : Int)) ∧ CanStore w1.drew (a.add (n_8.toNat * (1 : Nat))) (0 : Nat) [Value.int IntKind.i64 n_10] ∧ ∀ (w1_3 : World), SetC w1.drew (a.add (n_8.toNat * (1 : Nat))) [Value.int IntKind.i64 n_10] w1_3 → ∃ (n' : Nat), n' < n_7 ∧ I_1 n' [Value.int IntKind.i64 (IntKind.i64.wrap (n_8 + (1 : Int)))] w1_3) (∃ (n' : Nat), n' < n_2 ∧ I n' [Value.int IntKind.i64 (IntKind.i64.wrap (n_3 + (1 : Int)))] w1)) (CanStore w1 (Addr.mk (w.heap.size + (0 : Nat)) (0 : Nat) none) (0 : Nat) [Value.slice p_1 n_1 c] ∧ ∀ (w1_2 : World), SetC w1 (Addr.mk (w.heap.size + (0 : Nat)) (0 : Nat) none) [Value.slice p_1 n_1 c] w1_2 → ∃ (p : Option Addr), ∃ (n : Nat), ∃ (c : Nat), CellsAre w1_2 (Addr.mk (w.heap.size + (0 : Nat)) (0 : Nat) none) (0 : Nat) [Value.slice p n c] ∧ R (Ending.returned (Value.tuple #[Value.agg #[Value.slice p n c], Value.int IntKind.i64 (0 : Int)])) w1_2)))
theorem E_formula_Store_Export (x : Addr) (y : Int) (w : World) (R : Ending → World → Prop) : shFn Tryz.prog Tryz.f30.ntmps Tryz.f30.results.toList (Tryz.f30.body.getD .skip) [Value.pointer (some x), Value.int IntKind.i64 y] w R = S_formula_Store_Export x y w R := by kernel_rfl
theorem C_formula_Store_Export (x : Addr) (y : Int) (w : World) (R : Ending → World → Prop) (h : S_formula_Store_Export x y w R) : CallsF Tryz.prog 30 #[Value.pointer (some x), Value.int IntKind.i64 y] w R :=
 ⟨Tryz.call30, calls_of_sh A1G3mixed Tryz.func30 rfl (Nat.le_of_ble_eq_true rfl) ((E_formula_Store_Export x y w R).mpr h)⟩

/-- credence/formula.nodeValue -/
def S_formula_nodeValue (x0 : Int) (x1 : Int) (x2 : Int) (x3 : Option Addr) (x3n : Nat) (x3c : Nat) (y : Option Addr) (yn : Nat) (yc : Nat) (z : Option Addr) (zn : Nat) (zc : Nat) (w : World) (R : Ending → World → Prop) : Prop :=
 Br (x0 == (1 : Int)) (∀ (w1 : World), Ext w [OB.cells [Value.int IntKind.i64 x0, Value.int IntKind.i64 x1, Value.int IntKind.i64 x2, Value.slice x3 x3n x3c] (58 : Nat)] w1 → R (Ending.returned (Value.bool true)) w1) (Br (x0 == (2 : Int)) (∀ (w1 : World), Ext w [OB.cells [Value.int IntKind.i64 x0, Value.int IntKind.i64 x1, Value.int IntKind.i64 x2, Value.slice x3 x3n x3c] (58 : Nat)] w1 → ∀ (J : List Value → World → Prop), (∀ (b : Bool) (w1 : World), R (Ending.returned (Value.bool b)) w1 → J [Value.bool b] w1) → ∃ (n : Int), w1.drew.cell? ((Addr.mk (w.heap.size + (0 : Nat)) (0 : Nat) none).add (1 : Nat)) = some (Value.int IntKind.i64 n) ∧ Br (decide (n < (↑zn : Int))) (∃ (n : Int), w1.drew.cell? ((Addr.mk (w.heap.size + (0 : Nat)) (0 : Nat) none).add (1 : Nat)) = some (Value.int IntKind.i64 n) ∧ optP z fun (a : Addr) => ((0 : Int) ≤ n ∧ n < (↑zn : Int)) ∧ ∃ (n_1 : Int), w1.drew.cell? (a.add (n.toNat * (1 : Nat))) = some (Value.int IntKind.i64 n_1) ∧ ∃ (n : Int), w1.drew.cell? ((Addr.mk (w.heap.size + (0 : Nat)) (0 : Nat) none).add (2 : Nat)) = some (Value.int IntKind.i64 n) ∧ J [Value.bool (n_1 == n)] w1.drew) (J [Value.bool false] w1.drew)) (Br (x0 == (3 : Int)) (optP x3 fun (a : Addr) => ((0 : Int) ≤ (0 : Int) ∧ (0 : Int) < (↑x3n : Int)) ∧ ∃ (n : Int), w.cell? (a.add (0 : Nat)) = some (Value.int IntKind.i64 n) ∧ optP y fun (a : Addr) => ((0 : Int) ≤ n ∧ n < (↑yn : Int)) ∧ ∃ (b : Bool), w.cell? (a.add (n.toNat * (1 : Nat))) = some (Value.bool b) ∧ ∀ (w1 : World), Ext w [OB.cells [Value.int IntKind.i64 x0, Value.int IntKind.i64 x1, Value.int IntKind.i64 x2, Value.slice x3 x3n x3c] (58 : Nat)] w1 → R (Ending.returned (Value.bool !b)) w1) (Br (x0 == (4 : Int)) (∀ (w1 : World), Ext w [OB.cells [Value.int IntKind.i64 x0, Value.int IntKind.i64 x1, Value.int IntKind.i64 x2, Value.slice x3 x3n x3c] (58 : Nat)] w1 → ∃ (I : Nat → List Value → World → Prop), (∃ (n : Nat), I n [Value.bool false, Value.int IntKind.i64 (0 : Int)] w1) ∧ ∀ (n : Nat) (b : Bool) (n_1 : Int) (w1 : World), I n [Value.bool b, Value.int IntKind.i64 n_1] w1 → Br (decide (n_1 < (↑x3n : Int))) (optP x3 fun (a : Addr) => ((0 : Int) ≤ n_1 ∧ n_1 < (↑x3n : Int)) ∧ ∃ (n_2 : Int), w1.cell? (a.add (n_1.toNat * (1 : Nat))) = some (Value.int IntKind.i64 n_2) ∧ optP y fun (a : Addr) => ((0 : Int) ≤ n_2 ∧ n_2 < (↑yn : Int)) ∧ ∃ (b_1 : Bool), w1.cell? (a.add (n_2.toNat * (1 : Nat))) = some (Value.bool b_1) ∧ Br (!b_1) (R (Ending.returned (Value.bool false)) w1) (∃ (n' : Nat), n' < n ∧ I n' [Value.bool b, Value.int IntKind.i64 (IntKind.i64.wrap (n_1 + (1 : Int)))] w1)) (R (Ending.returned (Value.bool true)) w1)) (∀ (w1 : World), Ext w [OB.cells [Value.int IntKind.i64 x0, Value.int IntKind.i64 x1, Value.int IntKind.i64 x2, Value.slice x3 x3n x3c] (58 : Nat)] w1 → ∀ (J : List Value → World → Prop), (∀ (b : Bool) (w1 : World), R (Ending.returned (Value.bool false)) w1 → J [Value.bool b] w1) → Br (x0 == (5 : Int)) (∃ (p : Option Addr), ∃ (n : Nat), ∃ (c : Nat), w1.cell? ((Addr.mk (w.heap.size + (0 : Nat)) (0 : Nat) none).add (3 : Nat)) = some (Value.slice p n c) ∧ ∃ (I : Nat → List Value → World → Prop), (∃ (n : Nat), I n [Value.bool false, Value.int IntKind.i64 (0 : Int)] w1) ∧ ∀ (n_1 : Nat) (b : Bool) (n_2 : Int) (w1 : World), I n_1 [Value.bool b, Value.int IntKind.i64 n_2] w1 → Br (decide (n_2 < (↑n : Int))) (optP p fun (a : Addr) => ((0 : Int) ≤ n_2 ∧ n_2 < (↑n : Int)) ∧ ∃ (n : Int), w1.cell? (a.add (n_2.toNat * (1 : Nat))) = some (Value.int IntKind.i64 n) ∧ optP y fun (a : Addr) => ((0 : Int) ≤ n ∧ n < (↑yn : Int)) ∧ ∃ (b_1 : Bool), w1.cell? (a.add (n.toNat * (1 : Nat))) = some (Value.bool b_1) ∧ Br b_1 (R (Ending.returned (Value.bool true)) w1) (∃ (n' : Nat), n' < n_1 ∧ I n' [Value.bool b, Value.int IntKind.i64 (IntKind.i64.wrap (n_2 + (1 : Int)))] w1)) (J [Value.bool b] w1)) (J [Value.bool false] w1)))))
theorem E_formula_nodeValue (x0 : Int) (x1 : Int) (x2 : Int) (x3 : Option Addr) (x3n : Nat) (x3c : Nat) (y : Option Addr) (yn : Nat) (yc : Nat) (z : Option Addr) (zn : Nat) (zc : Nat) (w : World) (R : Ending → World → Prop) : shFn Tryz.prog Tryz.f52.ntmps Tryz.f52.results.toList (Tryz.f52.body.getD .skip) [Value.agg #[Value.int IntKind.i64 x0, Value.int IntKind.i64 x1, Value.int IntKind.i64 x2, Value.slice x3 x3n x3c], Value.slice y yn yc, Value.slice z zn zc] w R = S_formula_nodeValue x0 x1 x2 x3 x3n x3c y yn yc z zn zc w R := by kernel_rfl
theorem C_formula_nodeValue (x0 : Int) (x1 : Int) (x2 : Int) (x3 : Option Addr) (x3n : Nat) (x3c : Nat) (y : Option Addr) (yn : Nat) (yc : Nat) (z : Option Addr) (zn : Nat) (zc : Nat) (w : World) (R : Ending → World → Prop) (h : S_formula_nodeValue x0 x1 x2 x3 x3n x3c y yn yc z zn zc w R) : CallsF Tryz.prog 52 #[Value.agg #[Value.int IntKind.i64 x0, Value.int IntKind.i64 x1, Value.int IntKind.i64 x2, Value.slice x3 x3n x3c], Value.slice y yn yc, Value.slice z zn zc] w R :=
 ⟨Tryz.call52, calls_of_sh A1G3mixed Tryz.func52 rfl (Nat.le_of_ble_eq_true rfl) ((E_formula_nodeValue x0 x1 x2 x3 x3n x3c y yn yc z zn zc w R).mpr h)⟩

/-- credence/formula.Holds -/
def S_formula_Holds (x0 : Option Addr) (x0n : Nat) (x0c : Nat) (y : Option Addr) (yn : Nat) (yc : Nat) (w : World) (R : Ending → World → Prop) : Prop :=
 ∀ (w1 : World), Ext w [OB.cells [Value.slice x0 x0n x0c] (24 : Nat)] w1 → ∀ (J : List Value → World → Prop), (∀ (b : Bool) (w1 : World), Br b (R (Ending.returned (Value.bool false)) w1) (∃ (p : Option Addr), ∃ (n : Nat), ∃ (c : Nat), w1.cell? ((Addr.mk (w.heap.size + (0 : Nat)) (0 : Nat) none).add (0 : Nat)) = some (Value.slice p n c) ∧ ∃ (w1_1 : World), ∃ (p : Option Addr), ∃ (n_1 : Nat), ∃ (c : Nat), Sem.run Tryz.prog (Instr.makeSlice (112 : Nat) (Value.int IntKind.i64 (↑n : Int)) (Value.int IntKind.i64 (↑n : Int))) w1 = Result.ok (Value.slice p n_1 c) w1_1 ∧ ∃ (p_1 : Option Addr), ∃ (n : Nat), ∃ (c_1 : Nat), w1_1.cell? ((Addr.mk (w.heap.size + (0 : Nat)) (0 : Nat) none).add (0 : Nat)) = some (Value.slice p_1 n c_1) ∧ ∃ (I : Nat → List Value → World → Prop), (∃ (n : Nat), I n [Value.int IntKind.i64 (0 : Int)] w1_1) ∧ ∀ (n_2 : Nat) (n_3 : Int) (w1 : World), I n_2 [Value.int IntKind.i64 n_3] w1 → Br (decide (n_3 < (↑n : Int))) (optP p_1 fun (a : Addr) => ((0 : Int) ≤ n_3 ∧ n_3 < (↑n : Int)) ∧ ∃ (n : Int), ∃ (n_4 : Int), ∃ (n_5 : Int), ∃ (p_2 : Option Addr), ∃ (n_6 : Nat), ∃ (c_2 : Nat), CellsAre w1 (a.add (n_3.toNat * (4 : Nat))) (0 : Nat) [Value.int IntKind.i64 n, Value.int IntKind.i64 n_4, Value.int IntKind.i64 n_5, Value.slice p_2 n_6 c_2] ∧ ∀ (w1_2 : World), Ext w1 [OB.cells [Value.int IntKind.i64 n, Value.int IntKind.i64 n_4, Value.int IntKind.i64 n_5, Value.slice p_2 n_6 c_2] (58 : Nat)] w1_2 → CallsF Tryz.prog (52 : Nat) (Array.mk [Value.agg (Array.mk [Value.int IntKind.i64 n, Value.int IntKind.i64 n_4, Value.int IntKind.i64 n_5, Value.slice p_2 n_6 c_2]), Value.slice p n_1 c, Value.slice y yn yc]) w1_2 fun (e : Ending) (w : World) => ∃ (b : Bool), e = Ending.returned (Value.bool b) ∧ optP p fun (a : Addr) => ((0 : Int) ≤ n_3 ∧ n_3 < (↑n_1 : Int)) ∧ CanStore w (a.add (n_3.toNat * (1 : Nat))) (0 : Nat) [Value.bool b] ∧ ∀ (w1 : World), SetC w (a.add (n_3.toNat * (1 : Nat))) [Value.bool b] w1 → ∃ (n' : Nat), n' < n_2 ∧ I n' [Value.int IntKind.i64 (IntKind.i64.wrap (n_3 + (1 : Int)))] w1) (optP p fun (a : Addr) => ((0 : Int) ≤ IntKind.i64.wrap ((↑n_1 : Int) - (1 : Int)) ∧ IntKind.i64.wrap ((↑n_1 : Int) - (1 : Int)) < (↑n_1 : Int)) ∧ ∃ (b : Bool), w1.cell? (a.add ((IntKind.i64.wrap ((↑n_1 : Int) - (1 : Int))).toNat * (1 : Nat))) = some (Value.bool b) ∧ R (Ending.returned (Value.bool b)) w1)) → J [Value.bool b] w1) → ∃ (p : Option Addr), ∃ (n : Nat), ∃ (c : Nat), w1.cell? ((Addr.mk (w.heap.size + (0 : Nat)) (0 : Nat) none).add (0 : Nat)) = some (Value.slice p n c) ∧ Br ((↑n : Int) == (0 : Int)) (J [Value.bool true] w1) (∃ (p : Option Addr), ∃ (n : Nat), ∃ (c : Nat), CellsAre w1 (Addr.mk (w.heap.size + (0 : Nat)) (0 : Nat) none) (0 : Nat) [Value.slice p n c] ∧ CallsF Tryz.prog (44 : Nat) (Array.mk [Value.agg (Array.mk [Value.slice p n c])]) w1 fun (e : Ending) (w : World) => ∃ (b : Bool), e = Ending.returned (Value.bool b) ∧ J [Value.bool !b] w)
theorem E_formula_Holds (x0 : Option Addr) (x0n : Nat) (x0c : Nat) (y : Option Addr) (yn : Nat) (yc : Nat) (w : World) (R : Ending → World → Prop) : shFn Tryz.prog Tryz.f31.ntmps Tryz.f31.results.toList (Tryz.f31.body.getD .skip) [Value.agg #[Value.slice x0 x0n x0c], Value.slice y yn yc] w R = S_formula_Holds x0 x0n x0c y yn yc w R := by kernel_rfl
theorem C_formula_Holds (x0 : Option Addr) (x0n : Nat) (x0c : Nat) (y : Option Addr) (yn : Nat) (yc : Nat) (w : World) (R : Ending → World → Prop) (h : S_formula_Holds x0 x0n x0c y yn yc w R) : CallsF Tryz.prog 31 #[Value.agg #[Value.slice x0 x0n x0c], Value.slice y yn yc] w R :=
 ⟨Tryz.call31, calls_of_sh A1G3mixed Tryz.func31 rfl (Nat.le_of_ble_eq_true rfl) ((E_formula_Holds x0 x0n x0c y yn yc w R).mpr h)⟩


end Go.Proofs.YtajfdcbknghipaaGreatDoor
end

section
/- Node: a node of the store, as a value with inputs of its own. Conditions on memory as stated. -/
namespace Go.Proofs.YtajfdcbknghipaaGreatDoor
open Go Go.Sh Go.Fm

variable {w : World} {s : Addr} {L : List Nd} {d : SD}

/-- A node of a formula, as a node of the model. -/
def FNode.nd (x : FNode) : Nd := ⟨x.kind, x.block, x.alt, x.ins.map Int.toNat⟩
/-- A node's cells, its inputs at p. -/
def ndC (n : Nd) (p : Option Addr) : List Value := [.int .i64 n.kind, .int .i64 n.block, .int .i64 n.alt, .slice p n.ins.length n.ins.length]
/-- The inputs at p are the call's own, in a block at or behind B. -/
structure InsM (B : Nat) (w : World) (p : Option Addr) (l : List Nat) : Prop where
  own : OwnN w p l.length l
  ge : ∀ b, At p b → B ≤ b
theorem InsM.keep {B : Nat} {p : Option Addr} {l : List Nat} {fp : Nat → Prop} {w' : World} (h : InsM B w p l) (hm : Mod fp w w') (hn : ∀ b, At p b → ¬ fp b) : InsM B w' p l := ⟨Own.keep h.own hm hn, h.ge⟩
theorem InsM.row {B : Nat} {p : Option Addr} {l : List Nat} (h : InsM B w p l) : Row w p (ints (natI l)) := Own.row h.own
theorem InsM.up {B B' : Nat} {p : Option Addr} {l : List Nat} (h : InsM B w p l) (hB : B' ≤ B) : InsM B' w p l := ⟨h.own, fun b hb => Nat.le_trans hB (h.ge b hb)⟩
/-- Where there are inputs, their block, whole. -/
theorem InsM.blk {B : Nat} {p : Option Addr} {l : List Nat} (h : InsM B w p l) (hl : l ≠ []) : ∃ g, p = some ⟨g, 0, none⟩ ∧ B ≤ g ∧ Blk w g (ints (natI l)) 3 := by
  rcases Own.form h.own with ⟨_, h0, _, _⟩ | ⟨g, rest, rfl, _⟩
  · exact absurd (List.eq_nil_of_length_eq_zero h0) hl
  · exact ⟨g, rfl, h.ge g ⟨_, rfl, rfl⟩, Own.full h.own⟩

theorem nd_wraps {i : Nat} {n : Nd} (h : NdOK i n) : IntKind.i64.wrap n.kind = n.kind ∧ IntKind.i64.wrap n.block = n.block ∧ IntKind.i64.wrap n.alt = n.alt := by
  have h1 := h.k0; have h2 := h.k1; have h3 := h.b0; have h4 := h.b1; have h5 := h.a0; have h6 := h.a1
  exact ⟨wrap_i64 (by omega) (by omega), wrap_i64 (by omega) (by omega), wrap_i64 (by omega) (by omega)⟩

theorem node_ok (h : StM w s L d) (hok : ∀ i n, L[i]? = some n → NdOK i n) (hL : L.length ≤ 30000) {a : Nat} {n : Nd} (ha : L[a]? = some n) :
    CallsF Tryz.prog 37 #[.pointer (some s), .int .i64 a] w fun e w' => ∃ p, e = .returned (.tuple #[.agg (ndC n p).toArray, .bool true]) ∧ InsM w.heap.size w' p n.ins ∧ Mod NoB w w' := by
  have hn := hok a n ha
  have hlt := (List.getElem?_eq_some_iff.1 ha).1
  have hil := insLen_small hok hL
  have hlen := hn.len
  obtain ⟨k1, k2, k3⟩ := nd_wraps hn
  refine C_formula_Store_Node _ _ _ _ ?_
  intro w1 hw1
  have hb1 := hw1.blk 0 rfl
  have h1 := h.same hw1.mod
  refine (has_ok h1 a).mono ?_
  rintro e w2 ⟨rfl, hm2⟩
  refine ⟨_, rfl, Br_false (by rw [Bool.not_eq_false', decide_eq_true_iff]; omega) ?_⟩
  have h2 := h1.same hm2
  have hb2 := hb1.keep hm2 NoB.not
  have hs1 := hw1.size
  have hs2 := hm2.size
  simp only [List.length_cons, List.length_nil] at hs1
  obtain ⟨ad, hpe, hc⟩ := h2.entry ha
  refine ⟨_, _, _, h2.c0, ?_⟩
  rw [hpe]
  refine ⟨⟨by omega, by omega⟩, _, _, _, _, _, by rw [Int.toNat_natCast]; exact hc, ?_⟩
  intro w3 hw3
  rw [k1, k2, k3] at hw3
  have hbe := hw3.blk 0 rfl
  have hbn : Blk w3 (w2.heap.size + 1) [.int .i64 n.kind, .int .i64 n.block, .int .i64 n.alt, .slice none 0 0] 58 := hw3.blk 1 rfl
  have hbr := hb2.keep hw3.mod NoB.not
  have hs3 := hw3.size
  simp only [List.length_cons, List.length_nil] at hs3
  have hm03 : Mod NoB w w3 := (hw1.mod.then hm2).then hw3.mod
  intro J hJ
  have fin : ∀ w4 p, Mod (fun b => w2.heap.size ≤ b) w3 w4 → Blk w4 (w2.heap.size + 1) (ndC n p) 58 → InsM w2.heap.size w4 p n.ins → J [] w4 := by
    intro w4 p hm4 hbn4 hins
    refine hJ _ ?_
    have hbr4 := hbr.keep hm4 (by omega)
    refine ⟨_, _, _, _, _, _, hbn4.cellsAre, hbr4.can rfl (Nat.le_refl _), ?_⟩
    intro w5 hw5
    have hm5 : Mod (· = w.heap.size + 0) w4 w5 := hw5.mod
    have hb5 := hw5.whole hbr4 rfl
    refine ⟨_, _, _, _, _, _, hb5.cellsAre, p, rfl, (hins.keep hm5 fun b hb e => ?_).up (by omega), ?_⟩
    · have := hins.ge b hb
      have e' : b = w.heap.size + 0 := e
      omega
    · refine (hm03.new _ hm4 fun x hx h => ?_).new _ hm5 fun x hx e => ?_
      · have h' : w2.heap.size ≤ x := h
        omega
      · have e' : x = w.heap.size + 0 := e
        omega
  refine Br_dec (fun hpos => ?_) fun hz => ?_
  rotate_left
  · have hnil : n.ins = [] := List.eq_nil_of_length_eq_zero (by omega)
    refine fin w3 none (Mod.refl _ _) ?_ ⟨?_, fun b hb => (At.none hb).elim⟩
    · unfold ndC; rw [hnil]; exact hbn
    · rw [hnil]; exact Own.none _ _ _
  have hne : n.ins ≠ [] := fun e => by rw [e] at hpos; simp at hpos
  refine ⟨(n.ins.length : Nat), by rw [hbe.cellAt]; rfl, ?_⟩
  obtain ⟨w4, hmk, ho4, hm4, hs4⟩ := makeSlice_own (w := w3) elem_int rfl .i32 .i32 (l := n.ins.length) (n := n.ins.length) (Nat.le_refl _) (by omega) (by omega)
  refine ⟨w4, _, _, _, hmk, ?_, ?_⟩
  · show CanStore w4 ((⟨w2.heap.size + 1, 0, none⟩ : Addr).add 3) 0 _
    rw [own_add]
    exact canStore_blk (hbn.keep hm4 NoB.not) _ 0 rfl (by simp)
  intro w5 hw5
  have hw5' : SetC w4 ((⟨w2.heap.size + 1, 0, none⟩ : Addr).add 3) [.slice (some ⟨w3.heap.size, 0, none⟩) n.ins.length n.ins.length] w5 := hw5
  rw [own_add] at hw5'
  have hbn5 := hw5'.blk (hbn.keep hm4 NoB.not)
  have hm5 : Mod (· = w2.heap.size + 1) w4 w5 := hw5'.mod
  have hb40 : Blk w4 w3.heap.size (List.replicate n.ins.length (.int .i64 0)) 3 := ho4.full
  have hb5 := hb40.keep hm5 (by omega)
  have hsz5 := hm5.size
  have hm35 : Mod (fun b => w2.heap.size ≤ b) w3 w5 := hm4.to.then (hm5.mono fun x _ e => by have e' : x = w2.heap.size + 1 := e; omega)
  have h5 : StM w5 s L d := ((h2.same hw3.mod).keep hm35 fun b hb h => by have := h2.lt b hb; have h' : w2.heap.size ≤ b := h; omega)
  refine (inputsOf_ok h5 (by omega) ha).mono ?_
  rintro e w6 ⟨p, c, rfl, hrow6, hat6, hm6⟩
  refine ⟨p, n.ins.length, c, rfl, ?_⟩
  have hb6 := hb5.keep hm6 NoB.not
  have hs6 := hm6.size
  refine ⟨fun m vs w' => ∃ k : Nat, m = n.ins.length - k ∧ k ≤ n.ins.length ∧ vs = [.int .i64 k] ∧ Blk w' w3.heap.size (ints (natI (n.ins.take k)) ++ List.replicate (n.ins.length - k) (.int .i64 0)) 3 ∧ Mod (· = w3.heap.size) w6 w', ⟨_, 0, rfl, Nat.zero_le _, rfl, hb6, Mod.refl _ _⟩, ?_⟩
  rintro m k' w7 ⟨k, rfl, hk, hvs, hb7, hm7⟩
  simp only [List.cons.injEq, Value.int.injEq, true_and, and_true] at hvs
  subst hvs
  have hbn7 : Blk w7 (w2.heap.size + 1) (ndC n (some ⟨w3.heap.size, 0, none⟩)) 58 := (hbn5.keep hm6 NoB.not).keep hm7 (by omega)
  refine Br_dec (fun hlt => ?_) fun hge => ?_
  · have hk' : k < n.ins.length := by omega
    have hv : n.ins[k]? = some n.ins[k] := List.getElem?_eq_getElem hk'
    have hvr := hn.lt _ (List.getElem_mem hk')
    have htk : n.ins.take (k + 1) = n.ins.take k ++ [n.ins[k]] := List.take_succ_eq_append_getElem hk'
    generalize n.ins[k] = v at hv hvr htk
    have hrow7 : Row w7 p (i32s n.ins) := hrow6.keep hm7 fun a' ha' e => by
      have := h5.lt _ (hat6 _ ⟨a', ha', rfl⟩)
      have hh := h.lt _ (hat6 _ ⟨a', ha', rfl⟩)
      have e' : a'.block = w3.heap.size := e
      omega
    obtain ⟨ap, hpa, hcp⟩ := hrow7.at (i := k) (v := .int .i32 v) (by unfold i32s; rw [List.getElem?_map, hv]; rfl)
    rw [hpa]
    refine ⟨⟨by omega, by omega⟩, v, by rw [Int.toNat_natCast, Nat.mul_one]; exact hcp, some ⟨w3.heap.size, 0, none⟩, n.ins.length, n.ins.length, ?_, ?_⟩
    · show w7.cell? ((⟨w2.heap.size + 1, 0, none⟩ : Addr).add 3) = _
      rw [hbn7.cellAt]; rfl
    have hltk : (ints (natI (n.ins.take k))).length = k := by rw [ints_len, natI_len, List.length_take]; omega
    refine ⟨⟨by omega, by omega⟩, ?_, ?_⟩
    · rw [own_add]
      refine canStore_blk hb7 _ 0 rfl ?_
      simp only [List.length_append, hltk, List.length_replicate, List.length_cons, List.length_nil, Int.toNat_natCast]
      omega
    intro w8 hw8
    rw [own_add, Int.toNat_natCast, wrap_i64 (by omega) (by omega)] at hw8
    have hb8 := hw8.blk hb7
    refine ⟨n.ins.length - (k + 1), by omega, k + 1, rfl, hk', by rw [wrap_i64 (by omega) (by omega)]; rfl, ?_, hm7.then hw8.mod⟩
    have es : setAt (ints (natI (n.ins.take k)) ++ List.replicate (n.ins.length - k) (.int .i64 0)) (0 + k * 1) [.int .i64 v] = ints (natI (n.ins.take (k + 1))) ++ List.replicate (n.ins.length - (k + 1)) (.int .i64 0) := by
      rw [htk, natI_append, ints_append]
      have hrep : List.replicate (n.ins.length - k) (Value.int .i64 0) = .int .i64 0 :: List.replicate (n.ins.length - (k + 1)) (.int .i64 0) := by
        have : n.ins.length - k = (n.ins.length - (k + 1)) + 1 := by omega
        rw [this, List.replicate_succ]
      simp only [setAt, Nat.zero_add, Nat.mul_one]
      rw [hrep, List.set_append_right _ _ (by omega), hltk, Nat.sub_self, List.set_cons_zero, List.append_assoc]
      rfl
    rw [es] at hb8
    exact hb8
  · have hke : k = n.ins.length := by omega
    subst hke
    rw [List.take_length, Nat.sub_self, List.replicate_zero, List.append_nil] at hb7
    refine fin w7 _ ?_ hbn7 ⟨?_, ?_⟩
    · refine (hm35.then hm6.to).then (hm7.mono fun x _ e => ?_)
      have e' : x = w3.heap.size := e
      omega
    · exact Own.of_blk (rest := []) (by rw [List.append_nil]; exact hb7) (Nat.le_refl _) (by have hmax : maxLen = 9223372036854775807 := rfl; rw [hmax]; omega) (by rw [List.append_nil, ints_len, natI_len, Nat.mul_one]) (by rw [ints_len, natI_len, Nat.mul_one])
    · intro b hb
      rw [at_some] at hb
      omega

/-! Maps whose keys are whole numbers. -/
def encI (n : Int) : Value := .int .i64 n
theorem key_int {t et : TypeId} (h : Tryz.prog.underlying t = some (.map 3 et)) : KeyOK Tryz.prog t 3 et (.int .i64) encI := by
  have hu : Tryz.prog.underlying 3 = some (.int .i64) := by kernel_rfl
  refine ⟨h, hu, fun a b => ?_, fun e k w => ?_, fun a => ?_⟩
  · unfold Instr.sameNow encI
    by_cases hab : a = b
    · subst hab; simp
    · simp [hab]
  · unfold Instr.checkKey
    simp only [Sem.run_bind, run_underlying hu, Result.andThen_ok]
    rfl
  · unfold Instr.sameBits encI
    simp

end Go.Proofs.YtajfdcbknghipaaGreatDoor
end

section
/- cone: the nodes that a node uses. Conditions on memory as stated. -/
namespace Go.Proofs.YtajfdcbknghipaaGreatDoor
open Go Go.Sh Go.Fm

variable {w : World} {s : Addr} {L : List Nd} {d : SD}

theorem sortN {l : List Nat} {l' : List Int} (hp : l'.Perm (natI l)) (hs : l'.Pairwise (· ≤ ·)) (hn : l.Nodup) : l' = natI (srt l) := by
  have hnn : ∀ x ∈ l', 0 ≤ x := by
    intro x hx
    obtain ⟨y, _, rfl⟩ := mem_natI.1 (hp.mem_iff.1 hx)
    omega
  have hnd : (natI l).Nodup := by
    unfold natI List.Nodup
    rw [List.pairwise_map]
    exact hn.imp fun h e => h (by omega)
  have hnd' : l'.Nodup := hp.nodup_iff.2 hnd
  have hlt : l'.Pairwise (· < ·) := by
    have := hs.and hnd'
    exact this.imp fun h => by have h1 := h.1; have h2 := h.2; omega
  have e : natI (l'.map Int.toNat) = l' := natI_toNat hnn
  have e2 : l'.map Int.toNat = srt l := by
    refine srt_eq ?_ fun x => ?_
    · rw [← natI_asc, e]; exact hlt
    · rw [List.mem_map]
      constructor
      · rintro ⟨y, hy, rfl⟩
        obtain ⟨z, hz, rfl⟩ := mem_natI.1 (hp.mem_iff.1 hy)
        simpa using hz
      · intro hx
        exact ⟨(x : Int), hp.mem_iff.2 (mem_natI.2 ⟨x, hx, rfl⟩), by simp⟩
  rw [← e, e2]

theorem nodup_lenLe {l : List Nat} {n : Nat} (h : l.Nodup) (hl : ∀ x ∈ l, x < n) : l.length ≤ n := nodup_lt n l h hl

theorem map_seen : Tryz.prog.underlying 105 = some (.map 3 4) := by kernel_rfl
theorem zero_bool (w : World) : (zeroValue 4).run Tryz.prog w = .ok (.bool false) w := zero_of (by kernel_rfl) w
theorem seen_look {w : World} {r : Nat} {l : List Nat} (h : MapM encI w r (setM l)) (x : Nat) : (Instr.lookup 105 (.map (some r)) (.int .i64 x) false).run Tryz.prog w = .ok (.bool (decide (x ∈ l))) w := by
  have := lookup_ok (key_int map_seen) h (x : Int) (zero_bool w) false
  rw [getM_setM] at this
  show (Instr.lookup 105 (.map (some r)) (encI x) false).run Tryz.prog w = _
  rw [this]
  by_cases hx : x ∈ l <;> simp [hx]
theorem seen_add {w : World} {r : Nat} {l : List Nat} (h : MapM encI w r (setM l)) {x : Nat} (hx : x ∉ l) : ∃ w', (Instr.mapUpdate 105 (.map (some r)) (.int .i64 x) (.bool true)).run Tryz.prog w = .ok () w' ∧ MapM encI w' r (setM (l ++ [x])) ∧ Mod (· = r) w w' := by
  obtain ⟨w', h1, h2, h3⟩ := update_ok (key_int map_seen) h (x : Int) (.bool true)
  rw [putM_setM hx] at h2
  exact ⟨w', h1, h2, h3⟩

theorem cone_ok (h : StM w s L d) (hok : ∀ i n, L[i]? = some n → NdOK i n) (hL : L.length ≤ 5000) {a : Nat} (ha : a < L.length) :
    CallsF Tryz.prog 51 #[.pointer (some s), .int .i64 a] w fun e w' => ∃ p c, e = .returned (.tuple #[.slice p (coneL L a).length c, .bool true]) ∧ OwnN w' p c (coneL L a) ∧ (∀ b, At p b → w.heap.size ≤ b) ∧ Mod NoB w w' := by
  have hil := insLen_small hok (by omega)
  refine C_formula_Store_cone _ _ _ _ ?_
  intro w1 hw1
  have hm1 : MapM encI w1 (w.heap.size + 0) (setM []) := hw1.mapM 0 rfl encI
  have hs1 := hw1.size
  simp only [List.length_cons, List.length_nil] at hs1
  obtain ⟨w2, hup, hm2, hmod2⟩ := seen_add hm1 (x := a) (by simp)
  refine ⟨w2, hup, ?_⟩
  intro w3 hw3
  have hs2 := hmod2.size
  have hs3 := hw3.size
  simp only [List.length_cons, List.length_nil] at hs3
  have hmod3 : Mod NoB w w3 := (hw1.mod.new _ hmod2 fun x hx e => by have e' : x = w.heap.size + 0 := e; omega).then hw3.mod
  have hown3 : OwnN w3 (some ⟨w2.heap.size + 0, 0, none⟩) 1 [a] := Own.fresh hw3 0 1 1 rfl rfl (by decide)
  have hm3 : MapM encI w3 (w.heap.size + 0) (setM [a]) := hm2.only hw3.mod
  -- the work list: its length is never above that of the store
  refine ⟨fun m vs w' => ∃ (l : List Nat) (next : Nat) (p : Option Addr) (c : Nat) (t : Nat), m = L.length - next ∧ next ≤ l.length ∧ vs = [.int .i64 t, .slice p l.length c, .slice none 0 0, .bool false, .int .i64 next] ∧
      OwnN w' p c l ∧ (∀ b, At p b → w.heap.size < b) ∧ MapM encI w' (w.heap.size + 0) (setM l) ∧ l.Nodup ∧ (∀ x ∈ l, x ∈ coneL L a) ∧ a ∈ l ∧ (∀ j x, j < next → l[j]? = some x → ∀ n, L[x]? = some n → ∀ y ∈ n.ins, y ∈ l) ∧ t ≤ next * 5000 ∧ Mod NoB w w',
    ⟨_, [a], 0, some ⟨w2.heap.size + 0, 0, none⟩, 1, 0, rfl, Nat.zero_le _, rfl, hown3, fun b hb => by rw [at_some] at hb; omega, hm3, by simp, fun x hx => by simp only [List.mem_singleton] at hx; subst hx; exact cone_self hok ha, by simp, fun j x hj => by omega, by omega, hmod3⟩, ?_⟩
  rintro m t' p n' c p1 n1 c1 b1 next' w4 ⟨l, next, p', c', t, rfl, hnext, hvs, hown4, hat4, hmap4, hnd, hsub, hal, hcl, ht, hmod4⟩
  simp only [List.cons.injEq, Value.int.injEq, Value.slice.injEq, Value.bool.injEq, true_and, and_true] at hvs
  obtain ⟨rfl, ⟨rfl, rfl, rfl⟩, ⟨rfl, rfl, rfl⟩, rfl, rfl⟩ := hvs
  have hltL : ∀ x ∈ l, x < L.length := fun x hx => by have := cone_le hok a ha (hsub x hx); omega
  have hlen : l.length ≤ L.length := nodup_lenLe hnd hltL
  refine Br_dec (fun hlt => ?_) fun hge => ?_
  rotate_left
  · have hnl : next = l.length := by omega
    subst hnl
    refine (sortI_ok (l := natI l) (t := 3) hown4 (by omega)).mono ?_
    rintro e w5 ⟨rfl, l', hperm, hsort, hown5, hmod5⟩
    have e1 := sortN hperm hsort hnd
    have e2 : srt l = coneL L a := cone_of_closed hok ha hal (fun x hx m hm y hy => by
      obtain ⟨j, hj⟩ := List.getElem?_of_mem hx
      exact hcl j x (List.getElem?_eq_some_iff.1 hj).1 hj m hm y hy) hsub
    have e3 : (coneL L a).length = l.length := by
      have := hperm.length_eq
      rw [e1, natI_len, natI_len, e2] at this
      exact this
    rw [e1, e2] at hown5
    refine ⟨rfl, p, c, by rw [e3], ?_, fun b hb => Nat.le_of_lt (hat4 b hb), hmod4.new _ hmod5 fun x hx hp => by have := hat4 x hp; omega⟩
    unfold OwnN
    rw [e3]; exact hown5
  have hx : l[next]? = some (l[next]'(by omega)) := List.getElem?_eq_getElem (by omega)
  have hxm : l[next]'(by omega) ∈ l := List.getElem_mem _
  generalize l[next]'(by omega) = x at hx hxm
  have hxL := hltL x hxm
  have hn : L[x]? = some L[x] := List.getElem?_eq_getElem hxL
  generalize L[x] = nd at hn
  have hnok := hok x nd hn
  have hnlen := hnok.len
  obtain ⟨ap, hpa, hcp⟩ := hown4.row.at (i := next) (v := .int .i64 x) (by rw [ints_get, natI_get, hx]; rfl)
  rw [hpa]
  refine ⟨⟨by omega, by omega⟩, x, by rw [Int.toNat_natCast, Nat.mul_one]; exact hcp, ?_⟩
  rw [← hpa]
  refine (inputsOf_ok (h.same hmod4) (by omega) hn).mono ?_
  rintro e w5 ⟨q, cq, rfl, hrow5, hatq, hmod5⟩
  refine ⟨q, nd.ins.length, cq, rfl, ?_⟩
  refine ⟨fun m vs w' => ∃ (l2 : List Nat) (k : Nat) (p2 : Option Addr) (c2 : Nat), m = nd.ins.length - k ∧ k ≤ nd.ins.length ∧ vs = [.slice p2 l2.length c2, .int .i64 k] ∧ (∃ e, l2 = l ++ e) ∧
      OwnN w' p2 c2 l2 ∧ (∀ b, At p2 b → w.heap.size < b) ∧ MapM encI w' (w.heap.size + 0) (setM l2) ∧ l2.Nodup ∧ (∀ x ∈ l2, x ∈ coneL L a) ∧ (∀ j y, j < k → nd.ins[j]? = some y → y ∈ l2) ∧ Mod (fun b => w.heap.size ≤ b) w5 w',
    ⟨_, l, 0, p, c, rfl, Nat.zero_le _, rfl, ⟨[], by simp⟩, hown4.keep hmod5 fun _ _ => NoB.not, hat4, hmap4.only hmod5, hnd, hsub, fun j y hj => by omega, Mod.refl _ _⟩, ?_⟩
  rintro m p2' n2 c2' k' w6 ⟨l2, k, p2, c2, rfl, hk, hvs, ⟨ex, rfl⟩, hown6, hat6, hmap6, hnd6, hsub6, hk6, hmod6⟩
  simp only [List.cons.injEq, Value.int.injEq, Value.slice.injEq, true_and, and_true] at hvs
  obtain ⟨⟨rfl, rfl, rfl⟩, rfl⟩ := hvs
  have hmod46 : Mod NoB w w6 := (hmod4.then hmod5).new _ hmod6 fun b hb h' => by
    have h2 : w.heap.size ≤ b := h'
    omega
  have hlen6 : (l ++ ex).length ≤ L.length := nodup_lenLe hnd6 fun x hx => by have := cone_le hok a ha (hsub6 x hx); omega
  refine Br_dec (fun hlt2 => ?_) fun hge2 => ?_
  rotate_left
  · -- all inputs of this node have been looked at
    have hkl : k = nd.ins.length := by omega
    subst hkl
    have hw : IntKind.i64.wrap ((t : Int) + (nd.ins.length : Nat)) = ((t + nd.ins.length : Nat) : Int) := by rw [wrap_i64 (by omega) (by omega)]; omega
    have hw2 : IntKind.i64.wrap ((next : Int) + 1) = ((next + 1 : Nat) : Int) := by rw [wrap_i64 (by omega) (by omega)]; omega
    have hnx : next < 5000 := by omega
    have ht5 : t + nd.ins.length ≤ (next + 1) * 5000 := by rw [Nat.succ_mul]; omega
    have ht6 : (next + 1) * 5000 ≤ 5000 * 5000 := Nat.mul_le_mul_right _ (by omega)
    intro J hJ
    have main : J [.bool false] w6 := by
      refine hJ _ _ (Br_false rfl ?_)
      rw [hw, hw2]
      refine ⟨L.length - (next + 1), by omega, l ++ ex, next + 1, p2', c2', t + nd.ins.length, rfl, by rw [List.length_append]; omega, rfl, hown6, hat6, hmap6, hnd6, hsub6, List.mem_append_left _ hal, ?_, ht5, hmod46⟩
      intro j y hj hy m' hm' z hz
      by_cases hjn : j = next
      · subst hjn
        rw [List.getElem?_append_left (by omega), hx] at hy
        injection hy with hy
        subst hy
        rw [hn] at hm'
        injection hm' with hm'
        subst hm'
        obtain ⟨i, hi⟩ := List.getElem?_of_mem hz
        exact hk6 i z (List.getElem?_eq_some_iff.1 hi).1 hi
      · rw [List.getElem?_append_left (by omega)] at hy
        exact List.mem_append_left _ (hcl j y (by omega) hy m' hm' z hz)
    refine Br_false (by rw [decide_eq_false_iff_not, hw]; omega) ?_
    have : decide (((l ++ ex).length : Int) > 65536) = false := by rw [decide_eq_false_iff_not]; omega
    rw [this]; exact main
  have hk' : k < nd.ins.length := by omega
  have hv : nd.ins[k]? = some nd.ins[k] := List.getElem?_eq_getElem hk'
  have hvm : nd.ins[k] ∈ nd.ins := List.getElem_mem hk'
  generalize nd.ins[k] = v at hv hvm
  have hvx := hnok.lt v hvm
  have hvc : v ∈ coneL L a := cone_trans hok a ha (hsub x hxm) hn hvm
  have hrow6 : Row w6 q (i32s nd.ins) := hrow5.keep hmod6 fun a' ha' e => by
    have := h.lt _ (hatq _ ⟨a', ha', rfl⟩)
    have e' : w.heap.size ≤ a'.block := e
    omega
  obtain ⟨aq, hqa, hcq⟩ := hrow6.at (i := k) (v := .int .i32 v) (by unfold i32s; rw [List.getElem?_map, hv]; rfl)
  rw [hqa]
  have hwv : IntKind.i64.wrap (v : Int) = v := wrap_i64 (by omega) (by omega)
  have hwk : IntKind.i64.wrap ((k : Int) + 1) = ((k + 1 : Nat) : Int) := by rw [wrap_i64 (by omega) (by omega)]; omega
  refine ⟨⟨by omega, by omega⟩, v, by rw [Int.toNat_natCast, Nat.mul_one]; exact hcq, ?_⟩
  rw [hwv, hwk]
  refine ⟨_, seen_look hmap6 v, ?_⟩
  intro J hJ
  refine Br_intro (fun hnot => ?_) fun hin => ?_
  · have hvl : v ∉ l ++ ex := by rw [Bool.not_eq_true', decide_eq_false_iff_not] at hnot; exact hnot
    obtain ⟨w7, hup7, hmap7, hmod7⟩ := seen_add hmap6 hvl
    refine ⟨w7, hup7, ?_⟩
    intro w8 hw8
    have hown7 : OwnN w7 p2' c2' (l ++ ex) := hown6.keep hmod7 fun b hb e => by
      have := hat6 b hb
      have e' : b = w.heap.size + 0 := e
      omega
    obtain ⟨w9, p9, c9, hrun, hown9, hmod9, hat9⟩ := hown7.push (x := v) (by omega) hw8
    have hs7 := hmod7.size
    have hs46 := hmod46.size
    refine ⟨w9, p9, _, c9, hrun, hJ _ _ _ _ ?_⟩
    have hl1 : (l ++ ex ++ [v]).length = (l ++ ex).length + 1 := by rw [List.length_append]; rfl
    rw [← hl1]
    have hgt : ∀ b, At p9 b → w.heap.size < b := by
      intro b hb
      rcases hat9 b hb with h' | h'
      · exact hat6 b h'
      · have := hmap7.lt; omega
    refine ⟨nd.ins.length - (k + 1), by omega, l ++ ex ++ [v], k + 1, p9, c9, rfl, hk', rfl, ⟨ex ++ [v], by rw [List.append_assoc]⟩, hown9, hgt, ?_, ?_, ?_, ?_, ?_⟩
    · exact hmap7.keep hmod9 fun hp => by have := hat6 _ hp; omega
    · rw [List.nodup_append]
      refine ⟨hnd6, by simp, ?_⟩
      intro y hy z hz e
      simp only [List.mem_singleton] at hz
      subst hz; subst e
      exact hvl hy
    · intro y hy
      rcases List.mem_append.1 hy with hy | hy
      · exact hsub6 y hy
      · simp only [List.mem_singleton] at hy
        subst hy; exact hvc
    · intro j y hj hy
      by_cases hjk : j = k
      · subst hjk
        rw [hv] at hy
        injection hy with hy
        subst hy
        exact List.mem_append_right _ (by simp)
      · exact List.mem_append_left _ (hk6 j y (by omega) hy)
    · refine (hmod6.then (hmod7.mono fun b _ e => ?_)).then (hmod9.mono fun b _ hp => Nat.le_of_lt (hat6 b hp))
      have e' : b = w.heap.size + 0 := e
      show w.heap.size ≤ b
      omega
  · have hvl : v ∈ l ++ ex := by rw [Bool.not_eq_false', decide_eq_true_iff] at hin; exact hin
    refine hJ _ _ _ _ ⟨nd.ins.length - (k + 1), by omega, l ++ ex, k + 1, p2', c2', rfl, hk', rfl, ⟨ex, rfl⟩, hown6, hat6, hmap6, hnd6, hsub6, fun j y hj hy => ?_, hmod6⟩
    by_cases hjk : j = k
    · subst hjk
      rw [hv] at hy
      injection hy with hy
      subst hy
      exact hvl
    · exact hk6 j y (by omega) hy

end Go.Proofs.YtajfdcbknghipaaGreatDoor
end
