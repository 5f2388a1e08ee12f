/- The law TransformCondition of the package credencelaw23 answers true at every input and leaves its arguments as they were (Rows.TransformConditionCardSaid); no condition beyond the card's own: the three listed tables stand as the program's text lays them. Part 11 of 25. -/
import Derived.KernelRfl
import Derived.Test.YtajfdcbknghipaaGreatDoorW04
import Derived.Test.YtajfdcbknghipaaGreatDoorProg

section
/- The walks of some functions, as propositions on memory. Written by a program. No condition. -/
namespace Go.Proofs.YtajfdcbknghipaaGreatDoor
open Go Go.Sh
set_option maxRecDepth 100000
theorem A1G2mixed : Tryz.prog.follows .mixedOrders = true := by kernel_rfl
/-- credence/formula.NewStore -/
def S_formula_NewStore (w : World) (R : Ending → World → Prop) : Prop :=
 ∀ (w1 : World), Ext w [OB.cells [Value.int IntKind.i64 (0 : Int), Value.int IntKind.i32 (0 : Int), Value.int IntKind.i16 (0 : Int), Value.int IntKind.i8 (0 : Int), Value.int IntKind.i8 (0 : Int), Value.int IntKind.i64 (0 : Int), Value.int IntKind.i32 (0 : Int), Value.int IntKind.i16 (0 : Int), Value.int IntKind.i8 (1 : Int), Value.int IntKind.i8 (0 : Int)] (70 : Nat)] w1 → ∃ (w1_1 : World), ∃ (p : Option Addr), ∃ (n : Nat), ∃ (c : Nat), Sem.run Tryz.prog (Instr.makeSlice (72 : Nat) (Value.int IntKind.i64 (64 : Int)) (Value.int IntKind.i64 (64 : Int))) w1 = Result.ok (Value.slice p n c) w1_1 ∧ ∀ (w1 : World), Ext w1_1 [OB.cells [Value.slice (some (Addr.mk (w.heap.size + (0 : Nat)) (0 : Nat) none)) (2 : Nat) (2 : Nat), Value.slice none (0 : Nat) (0 : Nat), Value.slice p n c] (74 : Nat)] w1 → R (Ending.returned (Value.pointer (some (Addr.mk (w1_1.heap.size + (0 : Nat)) (0 : Nat) none)))) w1
theorem E_formula_NewStore (w : World) (R : Ending → World → Prop) : shFn Tryz.prog Tryz.f13.ntmps Tryz.f13.results.toList (Tryz.f13.body.getD .skip) [] w R = S_formula_NewStore w R := by kernel_rfl
theorem C_formula_NewStore (w : World) (R : Ending → World → Prop) (h : S_formula_NewStore w R) : CallsF Tryz.prog 13 #[] w R :=
 ⟨Tryz.call13, calls_of_sh A1G2mixed Tryz.func13 rfl (Nat.le_of_ble_eq_true rfl) ((E_formula_NewStore w R).mpr h)⟩

/-- credence/formula.Valid -/
def S_formula_Valid (x0 : Option Addr) (x0n : Nat) (x0c : Nat) (w : World) (R : Ending → World → Prop) : Prop :=
 Br (decide ((↑x0n : Int) > (65536 : Int))) (∀ (w1 : World), Ext w [OB.cells [Value.slice x0 x0n x0c] (24 : Nat)] w1 → R (Ending.returned (Value.bool false)) w1) (∀ (w1 : World), Ext w [OB.cells [Value.slice x0 x0n x0c] (24 : Nat)] w1 → ∃ (I : Nat → List Value → World → Prop), (∃ (n : Nat), I n [Value.int IntKind.i64 (0 : Int), Value.bool false, Value.int IntKind.i64 (0 : Int)] w1) ∧ ∀ (n : Nat) (n_1 : Int) (b : Bool) (n_2 : Int) (w1 : World), I n [Value.int IntKind.i64 n_1, Value.bool b, Value.int IntKind.i64 n_2] w1 → Br (decide (n_2 < (↑x0n : Int))) (optP x0 fun (a : Addr) => ((0 : Int) ≤ n_2 ∧ n_2 < (↑x0n : Int)) ∧ ∃ (n_3 : Int), ∃ (n_4 : Int), ∃ (n_5 : Int), ∃ (p : Option Addr), ∃ (n_6 : Nat), ∃ (c : Nat), CellsAre w1 (a.add (n_2.toNat * (4 : Nat))) (0 : Nat) [Value.int IntKind.i64 n_3, Value.int IntKind.i64 n_4, Value.int IntKind.i64 n_5, Value.slice p n_6 c] ∧ ∀ (w1_1 : World), Ext w1 [OB.cells [Value.int IntKind.i64 n_3, Value.int IntKind.i64 n_4, Value.int IntKind.i64 n_5, Value.slice p n_6 c] (58 : Nat)] w1_1 → ∀ (J : List Value → World → Prop), (∀ (b_1 : Bool) (w1_2 : World), Br b_1 (R (Ending.returned (Value.bool false)) w1_2) (∃ (p : Option Addr), ∃ (n_7 : Nat), ∃ (c : Nat), w1_2.cell? ((Addr.mk (w1.heap.size + (0 : Nat)) (0 : Nat) none).add (3 : Nat)) = some (Value.slice p n_7 c) ∧ ∃ (I_1 : Nat → List Value → World → Prop), (∃ (n : Nat), I_1 n [Value.bool b, Value.int IntKind.i64 (0 : Int)] w1_2) ∧ ∀ (n_8 : Nat) (b : Bool) (n_9 : Int) (w1 : World), I_1 n_8 [Value.bool b, Value.int IntKind.i64 n_9] w1 → Br (decide (n_9 < (↑n_7 : Int))) (optP p fun (a : Addr) => ((0 : Int) ≤ n_9 ∧ n_9 < (↑n_7 : Int)) ∧ ∃ (n : Int), w1.cell? (a.add (n_9.toNat * (1 : Nat))) = some (Value.int IntKind.i64 n) ∧ ∀ (J : List Value → World → Prop), (∀ (b_2 : Bool) (w1 : World), Br b_2 (R (Ending.returned (Value.bool false)) w1) (∃ (n' : Nat), n' < n_8 ∧ I_1 n' [Value.bool b, Value.int IntKind.i64 (IntKind.i64.wrap (n_9 + (1 : Int)))] w1) → J [Value.bool b_2] w1) → Br (decide (n < (0 : Int))) (J [Value.bool true] w1) (J [Value.bool (decide (n ≥ n_2))] w1)) (∃ (n' : Nat), n' < n ∧ I n' [Value.int IntKind.i64 (IntKind.i64.wrap (n_1 + (↑n_6 : Int))), Value.bool b, Value.int IntKind.i64 (IntKind.i64.wrap (n_2 + (1 : Int)))] w1)) → J [Value.bool b_1] w1_2) → Br (decide (IntKind.i64.wrap (n_1 + (↑n_6 : Int)) > (33554432 : Int))) (J [Value.bool true] w1_1) (∃ (n : Int), ∃ (n_7 : Int), ∃ (n_8 : Int), ∃ (p : Option Addr), ∃ (n_9 : Nat), ∃ (c : Nat), CellsAre w1_1 (Addr.mk (w1.heap.size + (0 : Nat)) (0 : Nat) none) (0 : Nat) [Value.int IntKind.i64 n, Value.int IntKind.i64 n_7, Value.int IntKind.i64 n_8, Value.slice p n_9 c] ∧ CallsF Tryz.prog (62 : Nat) (Array.mk [Value.agg (Array.mk [Value.int IntKind.i64 n, Value.int IntKind.i64 n_7, Value.int IntKind.i64 n_8, Value.slice p n_9 c])]) w1_1 fun (e : Ending) (w : World) => ∃ (b : Bool), e = Ending.returned (Value.bool b) ∧ J [Value.bool !b] w)) (R (Ending.returned (Value.bool true)) w1))
theorem E_formula_Valid (x0 : Option Addr) (x0n : Nat) (x0c : Nat) (w : World) (R : Ending → World → Prop) : shFn Tryz.prog Tryz.f44.ntmps Tryz.f44.results.toList (Tryz.f44.body.getD .skip) [Value.agg #[Value.slice x0 x0n x0c]] w R = S_formula_Valid x0 x0n x0c w R := by kernel_rfl
theorem C_formula_Valid (x0 : Option Addr) (x0n : Nat) (x0c : Nat) (w : World) (R : Ending → World → Prop) (h : S_formula_Valid x0 x0n x0c w R) : CallsF Tryz.prog 44 #[Value.agg #[Value.slice x0 x0n x0c]] w R :=
 ⟨Tryz.call44, calls_of_sh A1G2mixed Tryz.func44 rfl (Nat.le_of_ble_eq_true rfl) ((E_formula_Valid x0 x0n x0c w R).mpr h)⟩

/-- credence/formula.validForm -/
def S_formula_validForm (x0 : Int) (x1 : Int) (x2 : Int) (x3 : Option Addr) (x3n : Nat) (x3c : Nat) (w : World) (R : Ending → World → Prop) : Prop :=
 ∀ (w1 : World), Ext w [OB.cells [Value.int IntKind.i64 x0, Value.int IntKind.i64 x1, Value.int IntKind.i64 x2, Value.slice x3 x3n x3c] (58 : Nat)] w1 → ∀ (J : List Value → World → Prop), (∀ (b : Bool) (w1 : World), Br b (∀ (J : List Value → World → Prop), (∀ (b : Bool) (w1 : World), R (Ending.returned (Value.bool b)) w1 → J [Value.bool b] w1) → ∃ (n : Int), w1.cell? ((Addr.mk (w.heap.size + (0 : Nat)) (0 : Nat) none).add (1 : Nat)) = some (Value.int IntKind.i64 n) ∧ Br (n == (0 : Int)) (∃ (n : Int), w1.cell? ((Addr.mk (w.heap.size + (0 : Nat)) (0 : Nat) none).add (2 : Nat)) = some (Value.int IntKind.i64 n) ∧ Br (n == (0 : Int)) (∃ (p : Option Addr), ∃ (n : Nat), ∃ (c : Nat), w1.cell? ((Addr.mk (w.heap.size + (0 : Nat)) (0 : Nat) none).add (3 : Nat)) = some (Value.slice p n c) ∧ J [Value.bool ((↑n : Int) == (0 : Int))] w1) (J [Value.bool false] w1)) (J [Value.bool false] w1)) (Br (x0 == (2 : Int)) (∀ (J : List Value → World → Prop), (∀ (b : Bool) (w1 : World), R (Ending.returned (Value.bool b)) w1 → J [Value.bool b] w1) → ∃ (n : Int), w1.cell? ((Addr.mk (w.heap.size + (0 : Nat)) (0 : Nat) none).add (1 : Nat)) = some (Value.int IntKind.i64 n) ∧ ∃ (n_1 : Int), w1.cell? ((Addr.mk (w.heap.size + (0 : Nat)) (0 : Nat) none).add (2 : Nat)) = some (Value.int IntKind.i64 n_1) ∧ CallsF Tryz.prog (32 : Nat) (Array.mk [Value.int IntKind.i64 n, Value.int IntKind.i64 n_1]) w1 fun (e : Ending) (w_1 : World) => ∃ (b : Bool), e = Ending.returned (Value.bool b) ∧ Br b (∃ (p : Option Addr), ∃ (n : Nat), ∃ (c : Nat), w_1.cell? ((Addr.mk (w.heap.size + (0 : Nat)) (0 : Nat) none).add (3 : Nat)) = some (Value.slice p n c) ∧ J [Value.bool ((↑n : Int) == (0 : Int))] w_1) (J [Value.bool false] w_1)) (Br (x0 == (3 : Int)) (∀ (J : List Value → World → Prop), (∀ (b : Bool) (w1 : World), R (Ending.returned (Value.bool b)) w1 → J [Value.bool b] w1) → ∃ (n : Int), w1.cell? ((Addr.mk (w.heap.size + (0 : Nat)) (0 : Nat) none).add (1 : Nat)) = some (Value.int IntKind.i64 n) ∧ Br (n == (0 : Int)) (∃ (n : Int), w1.cell? ((Addr.mk (w.heap.size + (0 : Nat)) (0 : Nat) none).add (2 : Nat)) = some (Value.int IntKind.i64 n) ∧ Br (n == (0 : Int)) (∃ (p : Option Addr), ∃ (n : Nat), ∃ (c : Nat), w1.cell? ((Addr.mk (w.heap.size + (0 : Nat)) (0 : Nat) none).add (3 : Nat)) = some (Value.slice p n c) ∧ J [Value.bool ((↑n : Int) == (1 : Int))] w1) (J [Value.bool false] w1)) (J [Value.bool false] w1)) (∀ (J : List Value → World → Prop), (∀ (b : Bool) (w1 : World), Br b (∀ (J : List Value → World → Prop), (∀ (b : Bool) (w1 : World), R (Ending.returned (Value.bool b)) w1 → J [Value.bool b] w1) → ∃ (n : Int), w1.cell? ((Addr.mk (w.heap.size + (0 : Nat)) (0 : Nat) none).add (1 : Nat)) = some (Value.int IntKind.i64 n) ∧ Br (n == (0 : Int)) (∃ (n : Int), w1.cell? ((Addr.mk (w.heap.size + (0 : Nat)) (0 : Nat) none).add (2 : Nat)) = some (Value.int IntKind.i64 n) ∧ J [Value.bool (n == (0 : Int))] w1) (J [Value.bool false] w1)) (R (Ending.returned (Value.bool false)) w1) → J [Value.bool b] w1) → Br (x0 == (4 : Int)) (J [Value.bool (x0 == (4 : Int))] w1) (J [Value.bool (x0 == (5 : Int))] w1)))) → J [Value.bool b] w1) → Br (x0 == (0 : Int)) (J [Value.bool (x0 == (0 : Int))] w1) (J [Value.bool (x0 == (1 : Int))] w1)
theorem E_formula_validForm (x0 : Int) (x1 : Int) (x2 : Int) (x3 : Option Addr) (x3n : Nat) (x3c : Nat) (w : World) (R : Ending → World → Prop) : shFn Tryz.prog Tryz.f62.ntmps Tryz.f62.results.toList (Tryz.f62.body.getD .skip) [Value.agg #[Value.int IntKind.i64 x0, Value.int IntKind.i64 x1, Value.int IntKind.i64 x2, Value.slice x3 x3n x3c]] w R = S_formula_validForm x0 x1 x2 x3 x3n x3c w R := by kernel_rfl
theorem C_formula_validForm (x0 : Int) (x1 : Int) (x2 : Int) (x3 : Option Addr) (x3n : Nat) (x3c : Nat) (w : World) (R : Ending → World → Prop) (h : S_formula_validForm x0 x1 x2 x3 x3n x3c w R) : CallsF Tryz.prog 62 #[Value.agg #[Value.int IntKind.i64 x0, Value.int IntKind.i64 x1, Value.int IntKind.i64 x2, Value.slice x3 x3n x3c]] w R :=
 ⟨Tryz.call62, calls_of_sh A1G2mixed Tryz.func62 rfl (Nat.le_of_ble_eq_true rfl) ((E_formula_validForm x0 x1 x2 x3 x3n x3c w R).mpr h)⟩

/-- (*credence/formula.Store).flatten -/
def S_formula_Store_flatten (x : Addr) (y : Int) (z : Int) (u : Option Addr) (un : Nat) (uc : Nat) (w : World) (R : Ending → World → Prop) : Prop :=
 CallsF Tryz.prog (78 : Nat) (Array.mk [Value.slice u un uc]) w fun (e : Ending) (w : World) => ∃ (p : Option Addr), ∃ (n : Nat), ∃ (c : Nat), e = Ending.returned (Value.slice p n c) ∧ CallsF Tryz.prog (28 : Nat) (Array.mk [Value.slice p n c]) w fun (e : Ending) (w : World) => e = Ending.returned (Value.tuple #[]) ∧ CallsF Tryz.prog (29 : Nat) (Array.mk [Value.slice p n c]) w fun (e : Ending) (w : World) => ∃ (p : Option Addr), ∃ (n : Nat), ∃ (c : Nat), e = Ending.returned (Value.slice p n c) ∧ ∃ (w1 : World), ∃ (p_1 : Option Addr), ∃ (n_1 : Nat), ∃ (c : Nat), Sem.run Tryz.prog (Instr.makeSlice (25 : Nat) (Value.int IntKind.i64 (0 : Int)) (Value.int IntKind.i64 (↑n : Int))) w = Result.ok (Value.slice p_1 n_1 c) w1 ∧ ∃ (I : Nat → List Value → World → Prop), (∃ (n : Nat), I n [Value.bool false, Value.slice p_1 n_1 c, Value.int IntKind.i64 (0 : Int)] w1) ∧ ∀ (n_2 : Nat) (b : Bool) (p_2 : Option Addr) (n_3 c : Nat) (n_4 : Int) (w1 : World), I n_2 [Value.bool b, Value.slice p_2 n_3 c, Value.int IntKind.i64 n_4] w1 → Br (decide (n_4 < (↑n : Int))) (optP p fun (a : Addr) => ((0 : Int) ≤ n_4 ∧ n_4 < (↑n : Int)) ∧ ∃ (n : Int), w1.cell? (a.add (n_4.toNat * (1 : Nat))) = some (Value.int IntKind.i64 n) ∧ ∃ (p : Option Addr), ∃ (n_5 : Nat), ∃ (c_1 : Nat), w1.cell? (x.add (0 : Nat)) = some (Value.slice p n_5 c_1) ∧ optP p fun (a : Addr) => ((0 : Int) ≤ n ∧ n < (↑n_5 : Int)) ∧ ∃ (n_6 : Int), w1.cell? ((a.add (n.toNat * (5 : Nat))).add (3 : Nat)) = some (Value.int IntKind.i8 n_6) ∧ ∀ (J : List Value → World → Prop), (∀ (b : Bool) (p : Option Addr) (n c : Nat) (w1 : World), (∃ (n' : Nat), n' < n_2 ∧ I n' [Value.bool b, Value.slice p n c, Value.int IntKind.i64 (IntKind.i64.wrap (n_4 + (1 : Int)))] w1) → J [Value.bool b, Value.slice p n c] w1) → Br (IntKind.i64.wrap n_6 == y) (CallsF Tryz.prog (36 : Nat) (Array.mk [Value.pointer (some x), Value.int IntKind.i64 n]) w1 fun (e : Ending) (w : World) => ∃ (p : Option Addr), ∃ (n : Nat), ∃ (c_2 : Nat), e = Ending.returned (Value.slice p n c_2) ∧ ∃ (I : Nat → List Value → World → Prop), (∃ (n : Nat), I n [Value.slice p_2 n_3 c, Value.int IntKind.i64 (0 : Int)] w) ∧ ∀ (n_7 : Nat) (p_3 : Option Addr) (n_8 c : Nat) (n_9 : Int) (w1 : World), I n_7 [Value.slice p_3 n_8 c, Value.int IntKind.i64 n_9] w1 → Br (decide (n_9 < (↑n : Int))) (optP p fun (a : Addr) => ((0 : Int) ≤ n_9 ∧ n_9 < (↑n : Int)) ∧ ∃ (n : Int), w1.cell? (a.add (n_9.toNat * (1 : Nat))) = some (Value.int IntKind.i32 n) ∧ ∀ (w1_1 : World), Ext w1 [OB.cells [Value.int IntKind.i64 (IntKind.i64.wrap n)] (3 : Nat)] w1_1 → ∃ (w1_2 : World), ∃ (p : Option Addr), ∃ (n : Nat), ∃ (c_3 : Nat), Sem.run Tryz.prog (Builtin.append_ (Array.mk [(25 : Nat), (25 : Nat)]) (25 : Nat) (Array.mk [Value.slice p_3 n_8 c, Value.slice (some (Addr.mk (w1.heap.size + (0 : Nat)) (0 : Nat) none)) (1 : Nat) (1 : Nat)])) w1_1 = Result.ok (Value.slice p n c_3) w1_2 ∧ ∃ (n' : Nat), n' < n_7 ∧ I n' [Value.slice p n c_3, Value.int IntKind.i64 (IntKind.i64.wrap (n_9 + (1 : Int)))] w1_2) (J [Value.bool true, Value.slice p_3 n_8 c] w1)) (∀ (J_1 : List Value → World → Prop), (∀ (p : Option Addr) (n c : Nat) (w1 : World), J [Value.bool b, Value.slice p n c] w1 → J_1 [Value.slice p n c] w1) → Br (n != z) (∀ (w1_1 : World), Ext w1 [OB.cells [Value.int IntKind.i64 n] (3 : Nat)] w1_1 → ∃ (w1_2 : World), ∃ (p : Option Addr), ∃ (n : Nat), ∃ (c_2 : Nat), Sem.run Tryz.prog (Builtin.append_ (Array.mk [(25 : Nat), (25 : Nat)]) (25 : Nat) (Array.mk [Value.slice p_2 n_3 c, Value.slice (some (Addr.mk (w1.heap.size + (0 : Nat)) (0 : Nat) none)) (1 : Nat) (1 : Nat)])) w1_1 = Result.ok (Value.slice p n c_2) w1_2 ∧ J_1 [Value.slice p n c_2] w1_2) (J_1 [Value.slice p_2 n_3 c] w1))) (∀ (J : List Value → World → Prop), (∀ (p : Option Addr) (n c : Nat) (w1 : World), R (Ending.returned (Value.slice p n c)) w1 → J [Value.slice p n c] w1) → Br b (CallsF Tryz.prog (28 : Nat) (Array.mk [Value.slice p_2 n_3 c]) w1 fun (e : Ending) (w : World) => e = Ending.returned (Value.tuple #[]) ∧ CallsF Tryz.prog (29 : Nat) (Array.mk [Value.slice p_2 n_3 c]) w fun (e : Ending) (w : World) => ∃ (p : Option Addr), ∃ (n : Nat), ∃ (c : Nat), e = Ending.returned (Value.slice p n c) ∧ J [Value.slice p n c] w) (J [Value.slice p_2 n_3 c] w1))
theorem E_formula_Store_flatten (x : Addr) (y : Int) (z : Int) (u : Option Addr) (un : Nat) (uc : Nat) (w : World) (R : Ending → World → Prop) : shFn Tryz.prog Tryz.f57.ntmps Tryz.f57.results.toList (Tryz.f57.body.getD .skip) [Value.pointer (some x), Value.int IntKind.i64 y, Value.int IntKind.i64 z, Value.slice u un uc] w R = S_formula_Store_flatten x y z u un uc w R := by kernel_rfl
theorem C_formula_Store_flatten (x : Addr) (y : Int) (z : Int) (u : Option Addr) (un : Nat) (uc : Nat) (w : World) (R : Ending → World → Prop) (h : S_formula_Store_flatten x y z u un uc w R) : CallsF Tryz.prog 57 #[Value.pointer (some x), Value.int IntKind.i64 y, Value.int IntKind.i64 z, Value.slice u un uc] w R :=
 ⟨Tryz.call57, calls_of_sh A1G2mixed Tryz.func57 rfl (Nat.le_of_ble_eq_true rfl) ((E_formula_Store_flatten x y z u un uc w R).mpr h)⟩

/-- (*credence/formula.Store).complementary -/
def S_formula_Store_complementary (x : Addr) (y : Option Addr) (yn : Nat) (yc : Nat) (w : World) (R : Ending → World → Prop) : Prop :=
 ∃ (I : Nat → List Value → World → Prop), (∃ (n : Nat), I n [Value.bool false, Value.int IntKind.i64 (0 : Int)] w) ∧ ∀ (n : Nat) (b : Bool) (n_1 : Int) (w1 : World), I n [Value.bool b, Value.int IntKind.i64 n_1] w1 → Br (decide (n_1 < (↑yn : Int))) (∀ (J : List Value → World → Prop), (∀ (b : Bool) (w1 : World), (∃ (n' : Nat), n' < n ∧ I n' [Value.bool b, Value.int IntKind.i64 (IntKind.i64.wrap (n_1 + (1 : Int)))] w1) → J [Value.bool b] w1) → optP y fun (a : Addr) => ((0 : Int) ≤ n_1 ∧ n_1 < (↑yn : Int)) ∧ ∃ (n : Int), w1.cell? (a.add (n_1.toNat * (1 : Nat))) = some (Value.int IntKind.i64 n) ∧ ∃ (p : Option Addr), ∃ (n_2 : Nat), ∃ (c : Nat), w1.cell? (x.add (0 : Nat)) = some (Value.slice p n_2 c) ∧ optP p fun (a : Addr) => ((0 : Int) ≤ n ∧ n < (↑n_2 : Int)) ∧ ∃ (n_3 : Int), w1.cell? ((a.add (n.toNat * (5 : Nat))).add (3 : Nat)) = some (Value.int IntKind.i8 n_3) ∧ Br (n_3 != (3 : Int)) (J [Value.bool b] w1) (CallsF Tryz.prog (36 : Nat) (Array.mk [Value.pointer (some x), Value.int IntKind.i64 n]) w1 fun (e : Ending) (w : World) => ∃ (p : Option Addr), ∃ (n : Nat), ∃ (c : Nat), e = Ending.returned (Value.slice p n c) ∧ optP p fun (a : Addr) => ((0 : Int) ≤ (0 : Int) ∧ (0 : Int) < (↑n : Int)) ∧ ∃ (n : Int), w.cell? (a.add (0 : Nat)) = some (Value.int IntKind.i32 n) ∧ CallsF Tryz.prog (79 : Nat) (Array.mk [Value.slice y yn yc, Value.int IntKind.i64 (IntKind.i64.wrap n)]) w fun (e : Ending) (w : World) => ∃ (n : Int), ∃ (b_1 : Bool), e = Ending.returned (Value.tuple #[Value.int IntKind.i64 n, Value.bool b_1]) ∧ Br b_1 (R (Ending.returned (Value.bool true)) w) (J [Value.bool b] w))) (R (Ending.returned (Value.bool false)) w1)
theorem E_formula_Store_complementary (x : Addr) (y : Option Addr) (yn : Nat) (yc : Nat) (w : World) (R : Ending → World → Prop) : shFn Tryz.prog Tryz.f58.ntmps Tryz.f58.results.toList (Tryz.f58.body.getD .skip) [Value.pointer (some x), Value.slice y yn yc] w R = S_formula_Store_complementary x y yn yc w R := by kernel_rfl
theorem C_formula_Store_complementary (x : Addr) (y : Option Addr) (yn : Nat) (yc : Nat) (w : World) (R : Ending → World → Prop) (h : S_formula_Store_complementary x y yn yc w R) : CallsF Tryz.prog 58 #[Value.pointer (some x), Value.slice y yn yc] w R :=
 ⟨Tryz.call58, calls_of_sh A1G2mixed Tryz.func58 rfl (Nat.le_of_ble_eq_true rfl) ((E_formula_Store_complementary x y yn yc w R).mpr h)⟩

/-- (*credence/formula.Store).exclusive -/
def S_formula_Store_exclusive (x : Addr) (y : Int) (z : Option Addr) (zn : Nat) (zc : Nat) (w : World) (R : Ending → World → Prop) : Prop :=
 ∃ (I : Nat → List Value → World → Prop), (∃ (n : Nat), I n [Value.slice none (0 : Nat) (0 : Nat), Value.int IntKind.i64 (0 : Int)] w) ∧ ∀ (n : Nat) (p : Option Addr) (n_1 c : Nat) (n_2 : Int) (w1 : World), I n [Value.slice p n_1 c, Value.int IntKind.i64 n_2] w1 → Br (decide (n_2 < (↑zn : Int))) (∀ (J : List Value → World → Prop), (∀ (p : Option Addr) (n_3 c : Nat) (w1 : World), (∃ (n' : Nat), n' < n ∧ I n' [Value.slice p n_3 c, Value.int IntKind.i64 (IntKind.i64.wrap (n_2 + (1 : Int)))] w1) → J [Value.slice p n_3 c] w1) → optP z fun (a : Addr) => ((0 : Int) ≤ n_2 ∧ n_2 < (↑zn : Int)) ∧ ∃ (n : Int), w1.cell? (a.add (n_2.toNat * (1 : Nat))) = some (Value.int IntKind.i64 n) ∧ ∀ (J_1 : List Value → World → Prop), (∀ (n : Int) (w1 : World), (∃ (p_1 : Option Addr), ∃ (n_3 : Nat), ∃ (c_1 : Nat), w1.cell? (x.add (0 : Nat)) = some (Value.slice p_1 n_3 c_1) ∧ optP p_1 fun (a : Addr) => ((0 : Int) ≤ n ∧ n < (↑n_3 : Int)) ∧ ∃ (n_4 : Int), w1.cell? ((a.add (n.toNat * (5 : Nat))).add (3 : Nat)) = some (Value.int IntKind.i8 n_4) ∧ ∀ (J_2 : List Value → World → Prop), (∀ (p : Option Addr) (n c : Nat) (w1 : World), J [Value.slice p n c] w1 → J_2 [Value.slice p n c] w1) → Br (n_4 == (2 : Int)) (∃ (p_2 : Option Addr), ∃ (n_5 : Nat), ∃ (c_2 : Nat), w1.cell? (x.add (0 : Nat)) = some (Value.slice p_2 n_5 c_2) ∧ optP p_2 fun (a : Addr) => ((0 : Int) ≤ n ∧ n < (↑n_5 : Int)) ∧ ∃ (n_6 : Int), w1.cell? ((a.add (n.toNat * (5 : Nat))).add (2 : Nat)) = some (Value.int IntKind.i16 n_6) ∧ ∀ (w1_1 : World), Ext w1 [OB.cells [Value.int IntKind.i16 n_6] (68 : Nat)] w1_1 → ∃ (w1_2 : World), ∃ (p_3 : Option Addr), ∃ (n : Nat), ∃ (c_3 : Nat), Sem.run Tryz.prog (Builtin.append_ (Array.mk [(133 : Nat), (133 : Nat)]) (133 : Nat) (Array.mk [Value.slice p n_1 c, Value.slice (some (Addr.mk (w1.heap.size + (0 : Nat)) (0 : Nat) none)) (1 : Nat) (1 : Nat)])) w1_1 = Result.ok (Value.slice p_3 n c_3) w1_2 ∧ J_2 [Value.slice p_3 n c_3] w1_2) (J_2 [Value.slice p n_1 c] w1)) → J_1 [Value.int IntKind.i64 n] w1) → Br (y == (5 : Int)) (∃ (p_1 : Option Addr), ∃ (n_3 : Nat), ∃ (c_1 : Nat), w1.cell? (x.add (0 : Nat)) = some (Value.slice p_1 n_3 c_1) ∧ optP p_1 fun (a : Addr) => ((0 : Int) ≤ n ∧ n < (↑n_3 : Int)) ∧ ∃ (n_4 : Int), w1.cell? ((a.add (n.toNat * (5 : Nat))).add (3 : Nat)) = some (Value.int IntKind.i8 n_4) ∧ Br (n_4 != (3 : Int)) (J [Value.slice p n_1 c] w1) (CallsF Tryz.prog (36 : Nat) (Array.mk [Value.pointer (some x), Value.int IntKind.i64 n]) w1 fun (e : Ending) (w : World) => ∃ (p : Option Addr), ∃ (n : Nat), ∃ (c : Nat), e = Ending.returned (Value.slice p n c) ∧ optP p fun (a : Addr) => ((0 : Int) ≤ (0 : Int) ∧ (0 : Int) < (↑n : Int)) ∧ ∃ (n : Int), w.cell? (a.add (0 : Nat)) = some (Value.int IntKind.i32 n) ∧ J_1 [Value.int IntKind.i64 (IntKind.i64.wrap n)] w)) (J_1 [Value.int IntKind.i64 n] w1)) (CallsF Tryz.prog (80 : Nat) (Array.mk [Value.slice p n_1 c]) w1 fun (e : Ending) (w : World) => e = Ending.returned (Value.tuple #[]) ∧ ∃ (I : Nat → List Value → World → Prop), (∃ (n : Nat), I n [Value.bool false, Value.int IntKind.i64 (1 : Int)] w) ∧ ∀ (n : Nat) (b : Bool) (n_3 : Int) (w1 : World), I n [Value.bool b, Value.int IntKind.i64 n_3] w1 → Br (decide (n_3 < (↑n_1 : Int))) (optP p fun (a : Addr) => ((0 : Int) ≤ n_3 ∧ n_3 < (↑n_1 : Int)) ∧ ∃ (n_4 : Int), w1.drew.cell? (a.add (n_3.toNat * (1 : Nat))) = some (Value.int IntKind.i16 n_4) ∧ optP p fun (a : Addr) => ((0 : Int) ≤ IntKind.i64.wrap (n_3 - (1 : Int)) ∧ IntKind.i64.wrap (n_3 - (1 : Int)) < (↑n_1 : Int)) ∧ ∃ (n_5 : Int), w1.drew.cell? (a.add ((IntKind.i64.wrap (n_3 - (1 : Int))).toNat * (1 : Nat))) = some (Value.int IntKind.i16 n_5) ∧ Br (n_4 == n_5) (R (Ending.returned (Value.bool true)) w1.drew) (∃ (n' : Nat), n' < n ∧ I n' [Value.bool b, Value.int IntKind.i64 (IntKind.i64.wrap (n_3 + (1 : Int)))] w1.drew)) (R (Ending.returned (Value.bool false)) w1))
theorem E_formula_Store_exclusive (x : Addr) (y : Int) (z : Option Addr) (zn : Nat) (zc : Nat) (w : World) (R : Ending → World → Prop) : shFn Tryz.prog Tryz.f59.ntmps Tryz.f59.results.toList (Tryz.f59.body.getD .skip) [Value.pointer (some x), Value.int IntKind.i64 y, Value.slice z zn zc] w R = S_formula_Store_exclusive x y z zn zc w R := by kernel_rfl
theorem C_formula_Store_exclusive (x : Addr) (y : Int) (z : Option Addr) (zn : Nat) (zc : Nat) (w : World) (R : Ending → World → Prop) (h : S_formula_Store_exclusive x y z zn zc w R) : CallsF Tryz.prog 59 #[Value.pointer (some x), Value.int IntKind.i64 y, Value.slice z zn zc] w R :=
 ⟨Tryz.call59, calls_of_sh A1G2mixed Tryz.func59 rfl (Nat.le_of_ble_eq_true rfl) ((E_formula_Store_exclusive x y z zn zc w R).mpr h)⟩

/-- (*credence/formula.Store).combine -/
def S_formula_Store_combine (x : Addr) (y : Int) (z : Option Addr) (zn : Nat) (zc : Nat) (w : World) (R : Ending → World → Prop) : Prop :=
 ∃ (I : Nat → List Value → World → Prop), (∃ (n : Nat), I n [Value.int IntKind.i64 (0 : Int), Value.int IntKind.i64 (0 : Int)] w) ∧ ∀ (n : Nat) (n_1 n_2 : Int) (w1 : World), I n [Value.int IntKind.i64 n_1, Value.int IntKind.i64 n_2] w1 → Br (decide (n_2 < (↑zn : Int))) (optP z fun (a : Addr) => ((0 : Int) ≤ n_2 ∧ n_2 < (↑zn : Int)) ∧ ∃ (n_3 : Int), w1.cell? (a.add (n_2.toNat * (1 : Nat))) = some (Value.int IntKind.i64 n_3) ∧ CallsF Tryz.prog (35 : Nat) (Array.mk [Value.pointer (some x), Value.int IntKind.i64 n_3]) w1 fun (e : Ending) (w : World) => ∃ (b : Bool), e = Ending.returned (Value.bool b) ∧ Br (!b) (R (Ending.returned (Value.int IntKind.i64 (-1 : Int))) w) (∃ (n' : Nat), n' < n ∧ I n' [Value.int IntKind.i64 n_1, Value.int IntKind.i64 (IntKind.i64.wrap (n_2 + (1 : Int)))] w)) (∀ (J : List Value → World → Prop), (∀ (n n_3 : Int) (w1 : World), (CallsF Tryz.prog (57 : Nat) (Array.mk [Value.pointer (some x), Value.int IntKind.i64 y, Value.int IntKind.i64 n, Value.slice z zn zc]) w1 fun (e : Ending) (w : World) => ∃ (p : Option Addr), ∃ (n_4 : Nat), ∃ (c : Nat), e = Ending.returned (Value.slice p n_4 c) ∧ ∀ (J : List Value → World → Prop), (∀ (b : Bool) (w1 : World), Br b (R (Ending.returned (Value.int IntKind.i64 n_3)) w1) (Br ((↑n_4 : Int) == (0 : Int)) (R (Ending.returned (Value.int IntKind.i64 n)) w1) (Br ((↑n_4 : Int) == (1 : Int)) (optP p fun (a : Addr) => ((0 : Int) ≤ (0 : Int) ∧ (0 : Int) < (↑n_4 : Int)) ∧ ∃ (n : Int), w1.cell? (a.add (0 : Nat)) = some (Value.int IntKind.i64 n) ∧ R (Ending.returned (Value.int IntKind.i64 n)) w1) (CallsF Tryz.prog (33 : Nat) (Array.mk [Value.pointer (some x), Value.int IntKind.i64 y, Value.int IntKind.i64 (0 : Int), Value.int IntKind.i64 (0 : Int), Value.slice p n_4 c]) w1 fun (e : Ending) (w : World) => ∃ (n : Int), e = Ending.returned (Value.int IntKind.i64 n) ∧ R (Ending.returned (Value.int IntKind.i64 n)) w))) → J [Value.bool b] w1) → Br (decide ((↑n_4 : Int) > (0 : Int))) (optP p fun (a : Addr) => ((0 : Int) ≤ (0 : Int) ∧ (0 : Int) < (↑n_4 : Int)) ∧ ∃ (n : Int), w.cell? (a.add (0 : Nat)) = some (Value.int IntKind.i64 n) ∧ Br (n == n_3) (J [Value.bool true] w) (CallsF Tryz.prog (58 : Nat) (Array.mk [Value.pointer (some x), Value.slice p n_4 c]) w fun (e : Ending) (w : World) => ∃ (b : Bool), e = Ending.returned (Value.bool b) ∧ Br b (J [Value.bool true] w) (CallsF Tryz.prog (59 : Nat) (Array.mk [Value.pointer (some x), Value.int IntKind.i64 y, Value.slice p n_4 c]) w fun (e : Ending) (w : World) => ∃ (b : Bool), e = Ending.returned (Value.bool b) ∧ J [Value.bool b] w))) (CallsF Tryz.prog (58 : Nat) (Array.mk [Value.pointer (some x), Value.slice p n_4 c]) w fun (e : Ending) (w : World) => ∃ (b : Bool), e = Ending.returned (Value.bool b) ∧ Br b (J [Value.bool true] w) (CallsF Tryz.prog (59 : Nat) (Array.mk [Value.pointer (some x), Value.int IntKind.i64 y, Value.slice p n_4 c]) w fun (e : Ending) (w : World) => ∃ (b : Bool), e = Ending.returned (Value.bool b) ∧ J [Value.bool b] w))) → J [Value.int IntKind.i64 n, Value.int IntKind.i64 n_3] w1) → Br (y == (5 : Int)) (J [Value.int IntKind.i64 (0 : Int), Value.int IntKind.i64 (1 : Int)] w1) (J [Value.int IntKind.i64 (1 : Int), Value.int IntKind.i64 (0 : Int)] w1))
theorem E_formula_Store_combine (x : Addr) (y : Int) (z : Option Addr) (zn : Nat) (zc : Nat) (w : World) (R : Ending → World → Prop) : shFn Tryz.prog Tryz.f34.ntmps Tryz.f34.results.toList (Tryz.f34.body.getD .skip) [Value.pointer (some x), Value.int IntKind.i64 y, Value.slice z zn zc] w R = S_formula_Store_combine x y z zn zc w R := by kernel_rfl
theorem C_formula_Store_combine (x : Addr) (y : Int) (z : Option Addr) (zn : Nat) (zc : Nat) (w : World) (R : Ending → World → Prop) (h : S_formula_Store_combine x y z zn zc w R) : CallsF Tryz.prog 34 #[Value.pointer (some x), Value.int IntKind.i64 y, Value.slice z zn zc] w R :=
 ⟨Tryz.call34, calls_of_sh A1G2mixed Tryz.func34 rfl (Nat.le_of_ble_eq_true rfl) ((E_formula_Store_combine x y z zn zc w R).mpr h)⟩

/-- (*credence/formula.Store).And -/
def S_formula_Store_And (x : Addr) (y : Option Addr) (yn : Nat) (yc : Nat) (w : World) (R : Ending → World → Prop) : Prop :=
 CallsF Tryz.prog (34 : Nat) (Array.mk [Value.pointer (some x), Value.int IntKind.i64 (4 : Int), Value.slice y yn yc]) w fun (e : Ending) (w : World) => ∃ (n : Int), e = Ending.returned (Value.int IntKind.i64 n) ∧ R (Ending.returned (Value.int IntKind.i64 n)) w
theorem E_formula_Store_And (x : Addr) (y : Option Addr) (yn : Nat) (yc : Nat) (w : World) (R : Ending → World → Prop) : shFn Tryz.prog Tryz.f15.ntmps Tryz.f15.results.toList (Tryz.f15.body.getD .skip) [Value.pointer (some x), Value.slice y yn yc] w R = S_formula_Store_And x y yn yc w R := by kernel_rfl
theorem C_formula_Store_And (x : Addr) (y : Option Addr) (yn : Nat) (yc : Nat) (w : World) (R : Ending → World → Prop) (h : S_formula_Store_And x y yn yc w R) : CallsF Tryz.prog 15 #[Value.pointer (some x), Value.slice y yn yc] w R :=
 ⟨Tryz.call15, calls_of_sh A1G2mixed Tryz.func15 rfl (Nat.le_of_ble_eq_true rfl) ((E_formula_Store_And x y yn yc w R).mpr h)⟩

/-- (*credence/formula.Store).Or -/
def S_formula_Store_Or (x : Addr) (y : Option Addr) (yn : Nat) (yc : Nat) (w : World) (R : Ending → World → Prop) : Prop :=
 CallsF Tryz.prog (34 : Nat) (Array.mk [Value.pointer (some x), Value.int IntKind.i64 (5 : Int), Value.slice y yn yc]) w fun (e : Ending) (w : World) => ∃ (n : Int), e = Ending.returned (Value.int IntKind.i64 n) ∧ R (Ending.returned (Value.int IntKind.i64 n)) w
theorem E_formula_Store_Or (x : Addr) (y : Option Addr) (yn : Nat) (yc : Nat) (w : World) (R : Ending → World → Prop) : shFn Tryz.prog Tryz.f18.ntmps Tryz.f18.results.toList (Tryz.f18.body.getD .skip) [Value.pointer (some x), Value.slice y yn yc] w R = S_formula_Store_Or x y yn yc w R := by kernel_rfl
theorem C_formula_Store_Or (x : Addr) (y : Option Addr) (yn : Nat) (yc : Nat) (w : World) (R : Ending → World → Prop) (h : S_formula_Store_Or x y yn yc w R) : CallsF Tryz.prog 18 #[Value.pointer (some x), Value.slice y yn yc] w R :=
 ⟨Tryz.call18, calls_of_sh A1G2mixed Tryz.func18 rfl (Nat.le_of_ble_eq_true rfl) ((E_formula_Store_Or x y yn yc w R).mpr h)⟩

/-- (*credence/formula.Store).importNode -/
def S_formula_Store_importNode (x : Addr) (y0 : Int) (y1 : Int) (y2 : Int) (y3 : Option Addr) (y3n : Nat) (y3c : Nat) (z : Option Addr) (zn : Nat) (zc : Nat) (w : World) (R : Ending → World → Prop) : Prop :=
 Br (y0 == (1 : Int)) (∀ (w1 : World), Ext w [OB.cells [Value.int IntKind.i64 y0, Value.int IntKind.i64 y1, Value.int IntKind.i64 y2, Value.slice y3 y3n y3c] (58 : Nat)] w1 → R (Ending.returned (Value.int IntKind.i64 (1 : Int))) w1) (Br (y0 == (2 : Int)) (∀ (w1 : World), Ext w [OB.cells [Value.int IntKind.i64 y0, Value.int IntKind.i64 y1, Value.int IntKind.i64 y2, Value.slice y3 y3n y3c] (58 : Nat)] w1 → CallsF Tryz.prog (14 : Nat) (Array.mk [Value.pointer (some x), Value.int IntKind.i64 y1, Value.int IntKind.i64 y2]) w1 fun (e : Ending) (w : World) => ∃ (n : Int), e = Ending.returned (Value.int IntKind.i64 n) ∧ R (Ending.returned (Value.int IntKind.i64 n)) w) (Br (y0 == (3 : Int)) (optP y3 fun (a : Addr) => ((0 : Int) ≤ (0 : Int) ∧ (0 : Int) < (↑y3n : Int)) ∧ ∃ (n : Int), w.cell? (a.add (0 : Nat)) = some (Value.int IntKind.i64 n) ∧ optP z fun (a : Addr) => ((0 : Int) ≤ n ∧ n < (↑zn : Int)) ∧ ∃ (n_1 : Int), w.cell? (a.add (n.toNat * (1 : Nat))) = some (Value.int IntKind.i64 n_1) ∧ ∀ (w1 : World), Ext w [OB.cells [Value.int IntKind.i64 y0, Value.int IntKind.i64 y1, Value.int IntKind.i64 y2, Value.slice y3 y3n y3c] (58 : Nat)] w1 → CallsF Tryz.prog (16 : Nat) (Array.mk [Value.pointer (some x), Value.int IntKind.i64 n_1]) w1 fun (e : Ending) (w : World) => ∃ (n : Int), e = Ending.returned (Value.int IntKind.i64 n) ∧ R (Ending.returned (Value.int IntKind.i64 n)) w) (∀ (w1 : World), Ext w [OB.cells [Value.int IntKind.i64 y0, Value.int IntKind.i64 y1, Value.int IntKind.i64 y2, Value.slice y3 y3n y3c] (58 : Nat)] w1 → ∀ (J : List Value → World → Prop), (∀ (b : Bool) (w1 : World), Br b (∃ (p : Option Addr), ∃ (n : Nat), ∃ (c : Nat), w1.cell? ((Addr.mk (w.heap.size + (0 : Nat)) (0 : Nat) none).add (3 : Nat)) = some (Value.slice p n c) ∧ ∃ (w1_1 : World), ∃ (p : Option Addr), ∃ (n_1 : Nat), ∃ (c : Nat), Sem.run Tryz.prog (Instr.makeSlice (25 : Nat) (Value.int IntKind.i64 (↑n : Int)) (Value.int IntKind.i64 (↑n : Int))) w1 = Result.ok (Value.slice p n_1 c) w1_1 ∧ ∃ (p_1 : Option Addr), ∃ (n : Nat), ∃ (c_1 : Nat), w1_1.cell? ((Addr.mk (w.heap.size + (0 : Nat)) (0 : Nat) none).add (3 : Nat)) = some (Value.slice p_1 n c_1) ∧ ∃ (I : Nat → List Value → World → Prop), (∃ (n : Nat), I n [Value.int IntKind.i64 (0 : Int)] w1_1) ∧ ∀ (n_2 : Nat) (n_3 : Int) (w1 : World), I n_2 [Value.int IntKind.i64 n_3] w1 → Br (decide (n_3 < (↑n : Int))) (optP p_1 fun (a : Addr) => ((0 : Int) ≤ n_3 ∧ n_3 < (↑n : Int)) ∧ ∃ (n : Int), w1.cell? (a.add (n_3.toNat * (1 : Nat))) = some (Value.int IntKind.i64 n) ∧ optP z fun (a : Addr) => ((0 : Int) ≤ n ∧ n < (↑zn : Int)) ∧ ∃ (n_4 : Int), w1.cell? (a.add (n.toNat * (1 : Nat))) = some (Value.int IntKind.i64 n_4) ∧ optP p fun (a : Addr) => ((0 : Int) ≤ n_3 ∧ n_3 < (↑n_1 : Int)) ∧ CanStore w1 (a.add (n_3.toNat * (1 : Nat))) (0 : Nat) [Value.int IntKind.i64 n_4] ∧ ∀ (w1_2 : World), SetC w1 (a.add (n_3.toNat * (1 : Nat))) [Value.int IntKind.i64 n_4] w1_2 → ∃ (n' : Nat), n' < n_2 ∧ I n' [Value.int IntKind.i64 (IntKind.i64.wrap (n_3 + (1 : Int)))] w1_2) (∃ (n : Int), w1.cell? ((Addr.mk (w.heap.size + (0 : Nat)) (0 : Nat) none).add (0 : Nat)) = some (Value.int IntKind.i64 n) ∧ CallsF Tryz.prog (34 : Nat) (Array.mk [Value.pointer (some x), Value.int IntKind.i64 n, Value.slice p n_1 c]) w1 fun (e : Ending) (w : World) => ∃ (n : Int), e = Ending.returned (Value.int IntKind.i64 n) ∧ R (Ending.returned (Value.int IntKind.i64 n)) w)) (R (Ending.returned (Value.int IntKind.i64 (0 : Int))) w1) → J [Value.bool b] w1) → Br (y0 == (4 : Int)) (J [Value.bool (y0 == (4 : Int))] w1) (J [Value.bool (y0 == (5 : Int))] w1))))
theorem E_formula_Store_importNode (x : Addr) (y0 : Int) (y1 : Int) (y2 : Int) (y3 : Option Addr) (y3n : Nat) (y3c : Nat) (z : Option Addr) (zn : Nat) (zc : Nat) (w : World) (R : Ending → World → Prop) : shFn Tryz.prog Tryz.f45.ntmps Tryz.f45.results.toList (Tryz.f45.body.getD .skip) [Value.pointer (some x), Value.agg #[Value.int IntKind.i64 y0, Value.int IntKind.i64 y1, Value.int IntKind.i64 y2, Value.slice y3 y3n y3c], Value.slice z zn zc] w R = S_formula_Store_importNode x y0 y1 y2 y3 y3n y3c z zn zc w R := by kernel_rfl
theorem C_formula_Store_importNode (x : Addr) (y0 : Int) (y1 : Int) (y2 : Int) (y3 : Option Addr) (y3n : Nat) (y3c : Nat) (z : Option Addr) (zn : Nat) (zc : Nat) (w : World) (R : Ending → World → Prop) (h : S_formula_Store_importNode x y0 y1 y2 y3 y3n y3c z zn zc w R) : CallsF Tryz.prog 45 #[Value.pointer (some x), Value.agg #[Value.int IntKind.i64 y0, Value.int IntKind.i64 y1, Value.int IntKind.i64 y2, Value.slice y3 y3n y3c], Value.slice z zn zc] w R :=
 ⟨Tryz.call45, calls_of_sh A1G2mixed Tryz.func45 rfl (Nat.le_of_ble_eq_true rfl) ((E_formula_Store_importNode x y0 y1 y2 y3 y3n y3c z zn zc w R).mpr h)⟩

/-- (*credence/formula.Store).Import -/
def S_formula_Store_Import (x : Addr) (y0 : Option Addr) (y0n : Nat) (y0c : Nat) (w : World) (R : Ending → World → Prop) : Prop :=
 ∀ (w1 : World), Ext w [OB.cells [Value.slice y0 y0n y0c] (24 : Nat)] w1 → CallsF Tryz.prog (44 : Nat) (Array.mk [Value.agg (Array.mk [Value.slice y0 y0n y0c])]) w1 fun (e : Ending) (w_1 : World) => ∃ (b : Bool), e = Ending.returned (Value.bool b) ∧ Br (!b) (R (Ending.returned (Value.tuple #[Value.int IntKind.i64 (0 : Int), Value.int IntKind.i64 (1 : Int)])) w_1) (∃ (p : Option Addr), ∃ (n : Nat), ∃ (c : Nat), w_1.cell? ((Addr.mk (w.heap.size + (0 : Nat)) (0 : Nat) none).add (0 : Nat)) = some (Value.slice p n c) ∧ ∃ (w1 : World), ∃ (p : Option Addr), ∃ (n_1 : Nat), ∃ (c : Nat), Sem.run Tryz.prog (Instr.makeSlice (25 : Nat) (Value.int IntKind.i64 (↑n : Int)) (Value.int IntKind.i64 (↑n : Int))) w_1 = Result.ok (Value.slice p n_1 c) w1 ∧ ∃ (p_1 : Option Addr), ∃ (n : Nat), ∃ (c_1 : Nat), w1.cell? ((Addr.mk (w.heap.size + (0 : Nat)) (0 : Nat) none).add (0 : Nat)) = some (Value.slice p_1 n c_1) ∧ ∃ (I : Nat → List Value → World → Prop), (∃ (n : Nat), I n [Value.int IntKind.i64 (0 : Int), Value.int IntKind.i64 (0 : Int), Value.int IntKind.i64 (0 : Int), Value.int IntKind.i64 (0 : Int)] w1) ∧ ∀ (n_2 : Nat) (n_3 n_4 n_5 n_6 : Int) (w1 : World), I n_2 [Value.int IntKind.i64 n_3, Value.int IntKind.i64 n_4, Value.int IntKind.i64 n_5, Value.int IntKind.i64 n_6] w1 → Br (decide (n_6 < (↑n : Int))) (optP p_1 fun (a : Addr) => ((0 : Int) ≤ n_6 ∧ n_6 < (↑n : Int)) ∧ ∃ (n : Int), ∃ (n_7 : Int), ∃ (n_8 : Int), ∃ (p_2 : Option Addr), ∃ (n_9 : Nat), ∃ (c_2 : Nat), CellsAre w1 (a.add (n_6.toNat * (4 : Nat))) (0 : Nat) [Value.int IntKind.i64 n, Value.int IntKind.i64 n_7, Value.int IntKind.i64 n_8, Value.slice p_2 n_9 c_2] ∧ ∀ (w1_1 : World), Ext w1 [OB.cells [Value.int IntKind.i64 n, Value.int IntKind.i64 n_7, Value.int IntKind.i64 n_8, Value.slice p_2 n_9 c_2] (58 : Nat)] w1_1 → CallsF Tryz.prog (45 : Nat) (Array.mk [Value.pointer (some x), Value.agg (Array.mk [Value.int IntKind.i64 n, Value.int IntKind.i64 n_7, Value.int IntKind.i64 n_8, Value.slice p_2 n_9 c_2]), Value.slice p n_1 c]) w1_1 fun (e : Ending) (w : World) => ∃ (n : Int), e = Ending.returned (Value.int IntKind.i64 n) ∧ Br (decide (n < (0 : Int))) (R (Ending.returned (Value.tuple #[Value.int IntKind.i64 (0 : Int), Value.int IntKind.i64 (9 : Int)])) w) (optP p fun (a : Addr) => ((0 : Int) ≤ n_6 ∧ n_6 < (↑n_1 : Int)) ∧ CanStore w (a.add (n_6.toNat * (1 : Nat))) (0 : Nat) [Value.int IntKind.i64 n] ∧ ∀ (w1 : World), SetC w (a.add (n_6.toNat * (1 : Nat))) [Value.int IntKind.i64 n] w1 → ∃ (n' : Nat), n' < n_2 ∧ I n' [Value.int IntKind.i64 n, Value.int IntKind.i64 n_4, Value.int IntKind.i64 n_5, Value.int IntKind.i64 (IntKind.i64.wrap (n_6 + (1 : Int)))] w1)) (R (Ending.returned (Value.tuple #[Value.int IntKind.i64 n_3, Value.int IntKind.i64 (0 : Int)])) w1))
theorem E_formula_Store_Import (x : Addr) (y0 : Option Addr) (y0n : Nat) (y0c : Nat) (w : World) (R : Ending → World → Prop) : shFn Tryz.prog Tryz.f24.ntmps Tryz.f24.results.toList (Tryz.f24.body.getD .skip) [Value.pointer (some x), Value.agg #[Value.slice y0 y0n y0c]] w R = S_formula_Store_Import x y0 y0n y0c w R := by kernel_rfl
theorem C_formula_Store_Import (x : Addr) (y0 : Option Addr) (y0n : Nat) (y0c : Nat) (w : World) (R : Ending → World → Prop) (h : S_formula_Store_Import x y0 y0n y0c w R) : CallsF Tryz.prog 24 #[Value.pointer (some x), Value.agg #[Value.slice y0 y0n y0c]] w R :=
 ⟨Tryz.call24, calls_of_sh A1G2mixed Tryz.func24 rfl (Nat.le_of_ble_eq_true rfl) ((E_formula_Store_Import x y0 y0n y0c w R).mpr h)⟩


end Go.Proofs.YtajfdcbknghipaaGreatDoor
end

section
/- And and Or on a store of nodes, as functions: plain Lean, no program. -/
namespace Go.Fm

theorem asc_uniqueN : ∀ {l l' : List Nat}, l.Pairwise (· < ·) → l'.Pairwise (· < ·) → (∀ x, x ∈ l ↔ x ∈ l') → l = l'
  | [], [], _, _, _ => rfl
  | [], y :: l', _, _, h => by have := (h y).2 List.mem_cons_self; cases this
  | x :: l, [], _, _, h => by have := (h x).1 List.mem_cons_self; cases this
  | x :: l, y :: l', h1, h2, h => by
    rw [List.pairwise_cons] at h1 h2
    have hxy : x = y := by
      have hx := (h x).1 List.mem_cons_self
      have hy := (h y).2 List.mem_cons_self
      rcases List.mem_cons.1 hx with rfl | hx
      · rfl
      rcases List.mem_cons.1 hy with rfl | hy
      · rfl
      have a := h2.1 x hx
      have b := h1.1 y hy
      omega
    subst hxy
    congr 1
    refine asc_uniqueN h1.2 h2.2 fun z => ⟨fun hz => ?_, fun hz => ?_⟩
    · rcases List.mem_cons.1 ((h z).1 (List.mem_cons_of_mem _ hz)) with rfl | h'
      · have := h1.1 z hz; omega
      · exact h'
    · rcases List.mem_cons.1 ((h z).2 (List.mem_cons_of_mem _ hz)) with rfl | h'
      · have := h2.1 z hz; omega
      · exact h'

def ins1 (x : Nat) : List Nat → List Nat
  | [] => [x]
  | y :: l => if x < y then x :: y :: l else if x = y then y :: l else y :: ins1 x l
def srt (l : List Nat) : List Nat := l.foldr ins1 []
theorem mem_ins1 (x : Nat) : ∀ (l : List Nat) (z : Nat), z ∈ ins1 x l ↔ z = x ∨ z ∈ l
  | [], z => by simp [ins1]
  | y :: l, z => by
    unfold ins1
    split
    · simp
    · split
      · rename_i h; subst h; simp
      · rw [List.mem_cons, mem_ins1 x l, List.mem_cons]
        constructor
        · rintro (h | h | h)
          · exact .inr (.inl h)
          · exact .inl h
          · exact .inr (.inr h)
        · rintro (h | h | h)
          · exact .inr (.inl h)
          · exact .inl h
          · exact .inr (.inr h)
theorem ins1_asc (x : Nat) : ∀ (l : List Nat), l.Pairwise (· < ·) → (ins1 x l).Pairwise (· < ·)
  | [], _ => by simp [ins1]
  | y :: l, h => by
    have h' := List.pairwise_cons.1 h
    unfold ins1
    split
    · rename_i hlt
      rw [List.pairwise_cons]
      refine ⟨fun z hz => ?_, h⟩
      rcases List.mem_cons.1 hz with rfl | hz
      · exact hlt
      · have := h'.1 z hz; omega
    · split
      · exact h
      · rw [List.pairwise_cons]
        refine ⟨fun z hz => ?_, ins1_asc x l h'.2⟩
        rcases (mem_ins1 x l z).1 hz with rfl | hz
        · omega
        · exact h'.1 z hz
theorem mem_srt (l : List Nat) (z : Nat) : z ∈ srt l ↔ z ∈ l := by
  induction l with
  | nil => simp [srt]
  | cons y l ih =>
    show z ∈ ins1 y (srt l) ↔ _
    rw [mem_ins1, ih, List.mem_cons]
theorem srt_asc (l : List Nat) : (srt l).Pairwise (· < ·) := by
  induction l with
  | nil => exact List.Pairwise.nil
  | cons y l ih => exact ins1_asc y _ ih
theorem srt_eq {l s : List Nat} (h : s.Pairwise (· < ·)) (hm : ∀ x, x ∈ s ↔ x ∈ l) : s = srt l := asc_uniqueN h (srt_asc l) fun x => by rw [hm, mem_srt]
theorem asc_nodup {l : List Nat} (h : l.Pairwise (· < ·)) : l.Nodup := h.imp fun h e => by omega
theorem asc_len {l : List Nat} {n : Nat} (h : l.Pairwise (· < ·)) (hl : ∀ x ∈ l, x < n) : l.length ≤ n := by
  have key : ∀ (l : List Nat) (m : Nat), l.Pairwise (· < ·) → (∀ x ∈ l, m ≤ x ∧ x < n) → m ≤ n → l.length + m ≤ n := by
    intro l
    induction l with
    | nil => intro m _ _ h; simpa using h
    | cons y l ih =>
      intro m h hb hmn
      rw [List.pairwise_cons] at h
      have hy := hb y List.mem_cons_self
      have := ih (y + 1) h.2 (fun x hx => ⟨by have := h.1 x hx; omega, (hb x (List.mem_cons_of_mem _ hx)).2⟩) (by omega)
      rw [List.length_cons]; omega
  have := key l 0 h (fun x hx => ⟨Nat.zero_le _, hl x hx⟩) (Nat.zero_le _)
  omega

def expand (L : List Nd) (kind : Int) (a : Nat) : List Nat := match L[a]? with
  | some n => if n.kind = kind then n.ins else [a]
  | none => [a]
def neutralOf (kind : Int) : Nat := if kind = 5 then 0 else 1
def absorbOf (kind : Int) : Nat := if kind = 5 then 1 else 0
def flat (L : List Nd) (kind : Int) (l : List Nat) : List Nat := srt ((l.flatMap (expand L kind)).filter fun x => decide (x ≠ neutralOf kind))
def compl (L : List Nd) (s : List Nat) : Bool := s.any fun a => match L[a]? with
  | some n => n.kind == 3 && n.ins.any fun x => s.contains x
  | none => false
def blockOf (L : List Nd) (x : Nat) : Option Int := match L[x]? with
  | some m => if m.kind = 2 then some m.block else none
  | none => none
def pickOf (L : List Nd) (kind : Int) (a : Nat) : Option Int :=
  if kind = 5 then (match L[a]? with
    | some n => if n.kind = 3 then (match n.ins.head? with
      | some x => blockOf L x
      | none => none) else none
    | none => none)
  else blockOf L a
def excl (L : List Nd) (kind : Int) (s : List Nat) : Bool := !decide (s.filterMap (pickOf L kind)).Nodup
def comb (L : List Nd) (kind : Int) (l : List Nat) : List Nd × Nat :=
  if (flat L kind l).contains (absorbOf kind) || compl L (flat L kind l) || excl L kind (flat L kind l) then (L, absorbOf kind)
  else match flat L kind l with
    | [] => (L, neutralOf kind)
    | [a] => (L, a)
    | a :: b :: r => mk L ⟨kind, 0, 0, a :: b :: r⟩

theorem flat_asc (L : List Nd) (kind : Int) (l : List Nat) : (flat L kind l).Pairwise (· < ·) := srt_asc _
theorem mem_flat {L : List Nd} {kind : Int} {l : List Nat} {x : Nat} : x ∈ flat L kind l ↔ (∃ a ∈ l, x ∈ expand L kind a) ∧ x ≠ neutralOf kind := by
  unfold flat
  rw [mem_srt, List.mem_filter, List.mem_flatMap, decide_eq_true_iff]
theorem expand_lt {L : List Nd} (hok : ∀ i n, L[i]? = some n → NdOK i n) {kind : Int} {a x : Nat} (ha : a < L.length) (hx : x ∈ expand L kind a) : x < L.length := by
  unfold expand at hx
  rw [List.getElem?_eq_getElem ha] at hx
  simp only at hx
  split at hx
  · have := (hok a _ (List.getElem?_eq_getElem ha)).lt x hx; omega
  · simp at hx; omega
theorem flat_lt {L : List Nd} (hok : ∀ i n, L[i]? = some n → NdOK i n) {kind : Int} {l : List Nat} (hl : ∀ a ∈ l, a < L.length) : ∀ x ∈ flat L kind l, x < L.length := by
  intro x hx
  obtain ⟨⟨a, ha, hxa⟩, _⟩ := mem_flat.1 hx
  exact expand_lt hok (hl a ha) hxa

theorem mk_ext (L : List Nd) (n : Nd) : ∃ e, (mk L n).1 = L ++ e ∧ e.length ≤ 1 := by
  unfold mk
  split
  · exact ⟨[], by simp, by simp⟩
  · exact ⟨[n], rfl, Nat.le_refl _⟩
theorem mk_wf {L : List Nd} (h : WF L) {n : Nd} (hn : NdOK L.length n) : WF (mk L n).1 ∧ (mk L n).1[(mk L n).2]? = some n := by
  rcases Classical.em (∃ a : Nat, L[a]? = some n) with ⟨a, ha⟩ | hno
  · rw [mk_found h.nodup ha]; exact ⟨h, ha⟩
  · have hx : ∀ a : Nat, L[a]? ≠ some n := fun a ha => hno ⟨a, ha⟩
    rw [mk_new hx]
    exact ⟨h.snoc hn hx, by simp⟩
theorem ndOK_comb {L : List Nd} (h : WF L) {kind : Int} (hk : kind = 4 ∨ kind = 5) {l : List Nat} (hl : ∀ a ∈ l, a < L.length) (ha : (flat L kind l).contains (absorbOf kind) = false) : NdOK L.length ⟨kind, 0, 0, flat L kind l⟩ := by
  have hlt := flat_lt h.ok (kind := kind) hl
  have hna : absorbOf kind ∉ flat L kind l := by
    intro hm
    rw [List.contains_iff_mem.2 hm] at ha; cases ha
  refine ⟨?_, ?_, ?_, ?_, ?_, ?_, hlt, asc_len (flat_asc _ _ _) hlt, ?_, ?_, ?_, ?_, ?_⟩
  · show (0 : Int) ≤ kind; omega
  · show kind < 6; omega
  · show (0 : Int) ≤ 0; omega
  · show (0 : Int) < 4096; omega
  · show (-1 : Int) ≤ 0; omega
  · show (0 : Int) < 16; omega
  · intro _; show (2 : Int) ≤ kind; omega
  · intro h3; have : kind = 3 := h3; omega
  · intro x hx
    have hn := (mem_flat.1 hx).2
    have hab : x ≠ absorbOf kind := fun e => hna (e ▸ hx)
    unfold neutralOf at hn
    unfold absorbOf at hab
    rcases hk with rfl | rfl
    · simp at hn hab; omega
    · simp at hn hab; omega
  · intro h3; have : kind < 3 := h3; omega
  · intro _; exact ⟨rfl, rfl⟩

end Go.Fm
namespace Go.Fm
def nt (L : List Nd) (a : Nat) : List Nd × Nat :=
  if a < 2 then (L, 1 - a) else match L[a]? with
    | some n => if n.kind = 3 then (L, n.ins.headD 0) else mk L ⟨3, 0, 0, [a]⟩
    | none => (L, 0)
theorem ndOK_pick {L : List Nd} {b a : Int} (h : 0 ≤ b ∧ b < 4096 ∧ -1 ≤ a ∧ a < 16) : NdOK L.length ⟨2, b, a, []⟩ where
  k0 := (by show (0 : Int) ≤ 2; omega)
  k1 := (by show (2 : Int) < 6; omega)
  b0 := h.1
  b1 := h.2.1
  a0 := h.2.2.1
  a1 := h.2.2.2
  lt := fun x hx => nomatch hx
  len := Nat.zero_le _
  two := fun _ => Int.le_refl _
  not1 := fun h3 => (by have : (2 : Int) = 3 := h3; omega)
  ge := fun x hx => nomatch hx
  leaf := fun _ => rfl
  plain := fun h2 => absurd rfl h2
theorem ndOK_not {L : List Nd} {a : Nat} (h2 : 2 ≤ a) (hl : a < L.length) : NdOK L.length ⟨3, 0, 0, [a]⟩ where
  k0 := (by show (0 : Int) ≤ 3; omega)
  k1 := (by show (3 : Int) < 6; omega)
  b0 := (by show (0 : Int) ≤ 0; omega)
  b1 := (by show (0 : Int) < 4096; omega)
  a0 := (by show (-1 : Int) ≤ 0; omega)
  a1 := (by show (0 : Int) < 16; omega)
  lt := fun x hx => (by have : x = a := by simpa using hx
                        omega)
  len := (by show 1 ≤ L.length; omega)
  two := fun _ => (by show (2 : Int) ≤ 3; omega)
  not1 := fun _ => rfl
  ge := fun x hx => (by have : x = a := by simpa using hx
                        omega)
  leaf := fun h3 => (by have : (3 : Int) < 3 := h3; omega)
  plain := fun _ => ⟨rfl, rfl⟩
end Go.Fm
end
