/- The law TransformCondition of the package credencelaw23 answers true at every input and leaves its arguments as they were (Rows.TransformConditionCardSaid); no condition beyond the card's own: the three listed tables stand as the program's text lays them. Part 24 of 25. -/
import Derived.KernelRfl
import Derived.Test.YtajfdcbknghipaaGreatDoorW04
import Derived.Test.YtajfdcbknghipaaGreatDoorProg
import Derived.Test.YtajfdcbknghipaaGreatDoorW23
import Derived.Test.YtajfdcbknghipaaGreatDoorW13
import Derived.Test.YtajfdcbknghipaaGreatDoorW20

section
/- The walks of some functions, as propositions on memory. Written by a program. No condition. -/
namespace Go.Proofs.YtajfdcbknghipaaGreatDoor
open Go Go.Sh
set_option maxRecDepth 100000
theorem A1G5mixed : Tryz.prog.follows .mixedOrders = true := by kernel_rfl
/-- credence/credencelaw23.TransformCondition -/
def S_credencelaw23_TransformCondition (x0 : Option Addr) (x0n : Nat) (x0c : Nat) (y : Int) (z : Int) (u : Option Addr) (un : Nat) (uc : Nat) (w : World) (R : Ending → World → Prop) : Prop :=
 ∀ (w1 : World), Ext w [OB.cells [Value.slice x0 x0n x0c] (24 : Nat)] w1 → ∀ (J : List Value → World → Prop), (∀ (b : Bool) (w1 : World), Br b (CallsF Tryz.prog (5 : Nat) (Array.mk []) w1 fun (e : Ending) (w : World) => ∃ (b : Bool), e = Ending.returned (Value.bool b) ∧ R (Ending.returned (Value.bool b)) w) (∃ (p : Option Addr), ∃ (n : Nat), ∃ (c : Nat), CellsAre w1 (Addr.mk (w.heap.size + (0 : Nat)) (0 : Nat) none) (0 : Nat) [Value.slice p n c] ∧ CallsF Tryz.prog (6 : Nat) (Array.mk [Value.agg (Array.mk [Value.slice p n c])]) w1 fun (e : Ending) (w : World) => ∃ (p : Option Addr), ∃ (p_1 : Option Addr), ∃ (n : Int), ∃ (b : Bool), e = Ending.returned (Value.tuple #[Value.pointer p, Value.pointer p_1, Value.int IntKind.i64 n, Value.bool b]) ∧ Br (!b) (R (Ending.returned (Value.bool false)) w) (CallsF Tryz.prog (7 : Nat) (Array.mk [Value.int IntKind.i64 y, Value.int IntKind.i64 (60 : Int)]) w fun (e : Ending) (w : World) => ∃ (n_1 : Int), e = Ending.returned (Value.int IntKind.i64 n_1) ∧ CallsF Tryz.prog (8 : Nat) (Array.mk [Value.pointer p, Value.int IntKind.i64 n, Value.int IntKind.i64 n_1, Value.int IntKind.i64 z]) w fun (e : Ending) (w : World) => ∃ (n_2 : Int), e = Ending.returned (Value.int IntKind.i64 n_2) ∧ Br (decide (n_2 < (0 : Int))) (R (Ending.returned (Value.bool false)) w) (CallsF Tryz.prog (9 : Nat) (Array.mk [Value.pointer p, Value.int IntKind.i64 n_2]) w fun (e : Ending) (w : World) => ∃ (p_2 : Option Addr), ∃ (n_3 : Nat), ∃ (c : Nat), e = Ending.returned (Value.slice p_2 n_3 c) ∧ ∃ (I : Nat → List Value → World → Prop), (∃ (n : Nat), I n [Value.bool false, Value.int IntKind.i64 (0 : Int)] w) ∧ ∀ (n_4 : Nat) (b : Bool) (n_5 : Int) (w1 : World), I n_4 [Value.bool b, Value.int IntKind.i64 n_5] w1 → Br (decide (n_5 < (↑n_3 : Int))) (optP p_2 fun (a : Addr) => ((0 : Int) ≤ n_5 ∧ n_5 < (↑n_3 : Int)) ∧ ∃ (n : Int), w1.cell? (a.add (n_5.toNat * (1 : Nat))) = some (Value.int IntKind.i64 n) ∧ Br (n == n_1) (R (Ending.returned (Value.bool false)) w1) (∃ (n' : Nat), n' < n_4 ∧ I n' [Value.bool b, Value.int IntKind.i64 (IntKind.i64.wrap (n_5 + (1 : Int)))] w1)) (∀ (w1_1 : World), Ext w1 [OB.cells [] (3 : Nat)] w1_1 → ∃ (w1_2 : World), ∃ (p_3 : Option Addr), ∃ (n_6 : Nat), ∃ (c : Nat), Sem.run Tryz.prog (Builtin.append_ (Array.mk [(35 : Nat), (25 : Nat)]) (35 : Nat) (Array.mk [Value.slice (some (Addr.mk (w1.heap.size + (0 : Nat)) (0 : Nat) none)) (0 : Nat) (0 : Nat), Value.slice u un uc])) w1_1 = Result.ok (Value.slice p_3 n_6 c) w1_2 ∧ ∃ (I : Nat → List Value → World → Prop), (∃ (n : Nat), I n [Value.slice p_3 n_6 c] w1_2) ∧ ∀ (n_7 : Nat) (p_4 : Option Addr) (n_8 c : Nat) (w1 : World), I n_7 [Value.slice p_4 n_8 c] w1 → Br (decide ((↑n_8 : Int) ≤ n_1)) (∀ (w1_3 : World), Ext w1 [OB.cells [Value.int IntKind.i64 (-1 : Int)] (3 : Nat)] w1_3 → ∃ (w1_4 : World), ∃ (p : Option Addr), ∃ (n : Nat), ∃ (c_1 : Nat), Sem.run Tryz.prog (Builtin.append_ (Array.mk [(35 : Nat), (35 : Nat)]) (35 : Nat) (Array.mk [Value.slice p_4 n_8 c, Value.slice (some (Addr.mk (w1.heap.size + (0 : Nat)) (0 : Nat) none)) (1 : Nat) (1 : Nat)])) w1_3 = Result.ok (Value.slice p n c_1) w1_4 ∧ ∃ (n' : Nat), n' < n_7 ∧ I n' [Value.slice p n c_1] w1_4) (optP p_4 fun (a : Addr) => ((0 : Int) ≤ n_1 ∧ n_1 < (↑n_8 : Int)) ∧ CanStore w1 (a.add (n_1.toNat * (1 : Nat))) (0 : Nat) [Value.int IntKind.i64 z] ∧ ∀ (w1_3 : World), SetC w1 (a.add (n_1.toNat * (1 : Nat))) [Value.int IntKind.i64 z] w1_3 → CallsF Tryz.prog (10 : Nat) (Array.mk [Value.pointer p, Value.int IntKind.i64 n, Value.slice p_4 n_8 c]) w1_3 fun (e : Ending) (w : World) => ∃ (b : Bool), ∃ (b_1 : Bool), e = Ending.returned (Value.tuple #[Value.bool b, Value.bool b_1]) ∧ CallsF Tryz.prog (10 : Nat) (Array.mk [Value.pointer p, Value.int IntKind.i64 n_2, Value.slice p_4 n_8 c]) w fun (e : Ending) (w : World) => ∃ (b_2 : Bool), ∃ (b_3 : Bool), e = Ending.returned (Value.tuple #[Value.bool b_2, Value.bool b_3]) ∧ ∀ (J : List Value → World → Prop), (∀ (b : Bool) (w1 : World), R (Ending.returned (Value.bool b)) w1 → J [Value.bool b] w1) → Br b_1 (Br b_3 (Br (b == b_2) (CallsF Tryz.prog (8 : Nat) (Array.mk [Value.pointer p, Value.int IntKind.i64 n_2, Value.int IntKind.i64 n_1, Value.int IntKind.i64 (0 : Int)]) w fun (e : Ending) (w : World) => ∃ (n : Int), e = Ending.returned (Value.int IntKind.i64 n) ∧ Br (n == n_2) (CallsF Tryz.prog (5 : Nat) (Array.mk []) w fun (e : Ending) (w : World) => ∃ (b : Bool), e = Ending.returned (Value.bool b) ∧ J [Value.bool b] w) (J [Value.bool false] w)) (J [Value.bool false] w)) (J [Value.bool false] w)) (J [Value.bool false] w)))))) → J [Value.bool b] w1) → ∃ (p : Option Addr), ∃ (n : Nat), ∃ (c : Nat), CellsAre w1 (Addr.mk (w.heap.size + (0 : Nat)) (0 : Nat) none) (0 : Nat) [Value.slice p n c] ∧ CallsF Tryz.prog (4 : Nat) (Array.mk [Value.agg (Array.mk [Value.slice p n c]), Value.int IntKind.i64 (60 : Int)]) w1 fun (e : Ending) (w : World) => ∃ (b : Bool), e = Ending.returned (Value.bool b) ∧ Br (!b) (J [Value.bool true] w) (J [Value.bool (decide ((↑un : Int) > (60 : Int)))] w)
theorem E_credencelaw23_TransformCondition (x0 : Option Addr) (x0n : Nat) (x0c : Nat) (y : Int) (z : Int) (u : Option Addr) (un : Nat) (uc : Nat) (w : World) (R : Ending → World → Prop) : shFn Tryz.prog Tryz.f3.ntmps Tryz.f3.results.toList (Tryz.f3.body.getD .skip) [Value.agg #[Value.slice x0 x0n x0c], Value.int IntKind.i64 y, Value.int IntKind.i64 z, Value.slice u un uc] w R = S_credencelaw23_TransformCondition x0 x0n x0c y z u un uc w R := by kernel_rfl
theorem C_credencelaw23_TransformCondition (x0 : Option Addr) (x0n : Nat) (x0c : Nat) (y : Int) (z : Int) (u : Option Addr) (un : Nat) (uc : Nat) (w : World) (R : Ending → World → Prop) (h : S_credencelaw23_TransformCondition x0 x0n x0c y z u un uc w R) : CallsF Tryz.prog 3 #[Value.agg #[Value.slice x0 x0n x0c], Value.int IntKind.i64 y, Value.int IntKind.i64 z, Value.slice u un uc] w R :=
 ⟨Tryz.call3, calls_of_sh A1G5mixed Tryz.func3 rfl (Nat.le_of_ble_eq_true rfl) ((E_credencelaw23_TransformCondition x0 x0n x0c y z u un uc w R).mpr h)⟩

/-- credence/credencelaw23.Usable -/
def S_credencelaw23_Usable (x0 : Option Addr) (x0n : Nat) (x0c : Nat) (y : Int) (w : World) (R : Ending → World → Prop) : Prop :=
 ∀ (w1 : World), Ext w [OB.cells [Value.slice x0 x0n x0c] (24 : Nat)] w1 → ∀ (J : List Value → World → Prop), (∀ (b : Bool) (w1 : World), R (Ending.returned (Value.bool b)) w1 → J [Value.bool b] w1) → ∃ (p : Option Addr), ∃ (n : Nat), ∃ (c : Nat), CellsAre w1 (Addr.mk (w.heap.size + (0 : Nat)) (0 : Nat) none) (0 : Nat) [Value.slice p n c] ∧ CallsF Tryz.prog (11 : Nat) (Array.mk [Value.agg (Array.mk [Value.slice p n c]), Value.int IntKind.i64 y]) w1 fun (e : Ending) (w_1 : World) => ∃ (b : Bool), e = Ending.returned (Value.bool b) ∧ Br b (∃ (p : Option Addr), ∃ (n : Nat), ∃ (c : Nat), CellsAre w_1 (Addr.mk (w.heap.size + (0 : Nat)) (0 : Nat) none) (0 : Nat) [Value.slice p n c] ∧ CallsF Tryz.prog (12 : Nat) (Array.mk [Value.agg (Array.mk [Value.slice p n c])]) w_1 fun (e : Ending) (w : World) => ∃ (b : Bool), e = Ending.returned (Value.bool b) ∧ J [Value.bool b] w) (J [Value.bool false] w_1)
theorem E_credencelaw23_Usable (x0 : Option Addr) (x0n : Nat) (x0c : Nat) (y : Int) (w : World) (R : Ending → World → Prop) : shFn Tryz.prog Tryz.f4.ntmps Tryz.f4.results.toList (Tryz.f4.body.getD .skip) [Value.agg #[Value.slice x0 x0n x0c], Value.int IntKind.i64 y] w R = S_credencelaw23_Usable x0 x0n x0c y w R := by kernel_rfl
theorem C_credencelaw23_Usable (x0 : Option Addr) (x0n : Nat) (x0c : Nat) (y : Int) (w : World) (R : Ending → World → Prop) (h : S_credencelaw23_Usable x0 x0n x0c y w R) : CallsF Tryz.prog 4 #[Value.agg #[Value.slice x0 x0n x0c], Value.int IntKind.i64 y] w R :=
 ⟨Tryz.call4, calls_of_sh A1G5mixed Tryz.func4 rfl (Nat.le_of_ble_eq_true rfl) ((E_credencelaw23_Usable x0 x0n x0c y w R).mpr h)⟩

/-- credence/credencelaw23.imported -/
def S_credencelaw23_imported (x0 : Option Addr) (x0n : Nat) (x0c : Nat) (w : World) (R : Ending → World → Prop) : Prop :=
 ∀ (w1 : World), Ext w [OB.cells [Value.slice x0 x0n x0c] (24 : Nat)] w1 → CallsF Tryz.prog (13 : Nat) (Array.mk []) w1 fun (e : Ending) (w_1 : World) => ∃ (p : Option Addr), e = Ending.returned (Value.pointer p) ∧ CallsF Tryz.prog (23 : Nat) (Array.mk []) w_1 fun (e : Ending) (w_2 : World) => ∃ (p_1 : Option Addr), e = Ending.returned (Value.pointer p_1) ∧ Br p.isNone (R (Ending.returned (Value.tuple #[Value.pointer none, Value.pointer none, Value.int IntKind.i64 (0 : Int), Value.bool false])) w_2) (∃ (p_2 : Option Addr), ∃ (n : Nat), ∃ (c : Nat), CellsAre w_2 (Addr.mk (w.heap.size + (0 : Nat)) (0 : Nat) none) (0 : Nat) [Value.slice p_2 n c] ∧ CallsF Tryz.prog (24 : Nat) (Array.mk [Value.pointer p, Value.agg (Array.mk [Value.slice p_2 n c])]) w_2 fun (e : Ending) (w_3 : World) => ∃ (n : Int), ∃ (n_1 : Int), e = Ending.returned (Value.tuple #[Value.int IntKind.i64 n, Value.int IntKind.i64 n_1]) ∧ ∃ (p_3 : Option Addr), ∃ (n_2 : Nat), ∃ (c : Nat), CellsAre w_3 (Addr.mk (w.heap.size + (0 : Nat)) (0 : Nat) none) (0 : Nat) [Value.slice p_3 n_2 c] ∧ CallsF Tryz.prog (25 : Nat) (Array.mk [Value.pointer p_1, Value.agg (Array.mk [Value.slice p_3 n_2 c])]) w_3 fun (e : Ending) (w : World) => ∃ (n_3 : Int), ∃ (n_4 : Int), e = Ending.returned (Value.tuple #[Value.int IntKind.i64 n_3, Value.int IntKind.i64 n_4]) ∧ ∀ (J : List Value → World → Prop), (∀ (p p_4 : Option Addr) (n : Int) (b : Bool) (w1 : World), R (Ending.returned (Value.tuple #[Value.pointer p, Value.pointer p_4, Value.int IntKind.i64 n, Value.bool b])) w1 → J [Value.pointer p, Value.pointer p_4, Value.int IntKind.i64 n, Value.bool b] w1) → Br (n_1 == (0 : Int)) (Br (n_4 == (0 : Int)) (J [Value.pointer p, Value.pointer p_1, Value.int IntKind.i64 n_3, Value.bool (n == n_3)] w) (J [Value.pointer p, Value.pointer p_1, Value.int IntKind.i64 n_3, Value.bool false] w)) (J [Value.pointer p, Value.pointer p_1, Value.int IntKind.i64 n_3, Value.bool false] w))
theorem E_credencelaw23_imported (x0 : Option Addr) (x0n : Nat) (x0c : Nat) (w : World) (R : Ending → World → Prop) : shFn Tryz.prog Tryz.f6.ntmps Tryz.f6.results.toList (Tryz.f6.body.getD .skip) [Value.agg #[Value.slice x0 x0n x0c]] w R = S_credencelaw23_imported x0 x0n x0c w R := by kernel_rfl
theorem C_credencelaw23_imported (x0 : Option Addr) (x0n : Nat) (x0c : Nat) (w : World) (R : Ending → World → Prop) (h : S_credencelaw23_imported x0 x0n x0c w R) : CallsF Tryz.prog 6 #[Value.agg #[Value.slice x0 x0n x0c]] w R :=
 ⟨Tryz.call6, calls_of_sh A1G5mixed Tryz.func6 rfl (Nat.le_of_ble_eq_true rfl) ((E_credencelaw23_imported x0 x0n x0c w R).mpr h)⟩

/-- credence/credencelaw22.Index -/
def S_credencelaw22_Index (x : Int) (y : Int) (w : World) (R : Ending → World → Prop) : Prop :=
 y ≠ (0 : Int) ∧ Br (decide (x.tmod y < (0 : Int))) (R (Ending.returned (Value.int IntKind.i64 (IntKind.i64.wrap (x.tmod y + y)))) w) (R (Ending.returned (Value.int IntKind.i64 (x.tmod y))) w)
theorem E_credencelaw22_Index (x : Int) (y : Int) (w : World) (R : Ending → World → Prop) : shFn Tryz.prog Tryz.f7.ntmps Tryz.f7.results.toList (Tryz.f7.body.getD .skip) [Value.int IntKind.i64 x, Value.int IntKind.i64 y] w R = S_credencelaw22_Index x y w R := by kernel_rfl
theorem C_credencelaw22_Index (x : Int) (y : Int) (w : World) (R : Ending → World → Prop) (h : S_credencelaw22_Index x y w R) : CallsF Tryz.prog 7 #[Value.int IntKind.i64 x, Value.int IntKind.i64 y] w R :=
 ⟨Tryz.call7, calls_of_sh A1G5mixed Tryz.func7 rfl (Nat.le_of_ble_eq_true rfl) ((E_credencelaw22_Index x y w R).mpr h)⟩

/-- credence/credencelaw23.holds -/
def S_credencelaw23_holds (x : Addr) (y : Int) (z : Option Addr) (zn : Nat) (zc : Nat) (w : World) (R : Ending → World → Prop) : Prop :=
 CallsF Tryz.prog (30 : Nat) (Array.mk [Value.pointer (some x), Value.int IntKind.i64 y]) w fun (e : Ending) (w : World) => ∃ (p : Option Addr), ∃ (n : Nat), ∃ (c : Nat), ∃ (n_1 : Int), e = Ending.returned (Value.tuple #[Value.agg #[Value.slice p n c], Value.int IntKind.i64 n_1]) ∧ ∀ (w1 : World), Ext w [OB.cells [Value.slice p n c] (24 : Nat)] w1 → CallsF Tryz.prog (31 : Nat) (Array.mk [Value.agg (Array.mk [Value.slice p n c]), Value.slice z zn zc]) w1 fun (e : Ending) (w : World) => ∃ (b : Bool), e = Ending.returned (Value.bool b) ∧ R (Ending.returned (Value.tuple #[Value.bool b, Value.bool (n_1 == (0 : Int))])) w
theorem E_credencelaw23_holds (x : Addr) (y : Int) (z : Option Addr) (zn : Nat) (zc : Nat) (w : World) (R : Ending → World → Prop) : shFn Tryz.prog Tryz.f10.ntmps Tryz.f10.results.toList (Tryz.f10.body.getD .skip) [Value.pointer (some x), Value.int IntKind.i64 y, Value.slice z zn zc] w R = S_credencelaw23_holds x y z zn zc w R := by kernel_rfl
theorem C_credencelaw23_holds (x : Addr) (y : Int) (z : Option Addr) (zn : Nat) (zc : Nat) (w : World) (R : Ending → World → Prop) (h : S_credencelaw23_holds x y z zn zc w R) : CallsF Tryz.prog 10 #[Value.pointer (some x), Value.int IntKind.i64 y, Value.slice z zn zc] w R :=
 ⟨Tryz.call10, calls_of_sh A1G5mixed Tryz.func10 rfl (Nat.le_of_ble_eq_true rfl) ((E_credencelaw23_holds x y z zn zc w R).mpr h)⟩

/-- credence/credencelaw23.awake -/
def S_credencelaw23_awake (w : World) (R : Ending → World → Prop) : Prop :=
 CallsF Tryz.prog (13 : Nat) (Array.mk []) w fun (e : Ending) (w : World) => ∃ (p : Option Addr), e = Ending.returned (Value.pointer p) ∧ Br p.isNone (R (Ending.returned (Value.bool false)) w) (CallsF Tryz.prog (14 : Nat) (Array.mk [Value.pointer p, Value.int IntKind.i64 (0 : Int), Value.int IntKind.i64 (0 : Int)]) w fun (e : Ending) (w : World) => ∃ (n : Int), e = Ending.returned (Value.int IntKind.i64 n) ∧ CallsF Tryz.prog (14 : Nat) (Array.mk [Value.pointer p, Value.int IntKind.i64 (1 : Int), Value.int IntKind.i64 (0 : Int)]) w fun (e : Ending) (w : World) => ∃ (n_1 : Int), e = Ending.returned (Value.int IntKind.i64 n_1) ∧ CallsF Tryz.prog (16 : Nat) (Array.mk [Value.pointer p, Value.int IntKind.i64 n_1]) w fun (e : Ending) (w : World) => ∃ (n_2 : Int), e = Ending.returned (Value.int IntKind.i64 n_2) ∧ ∀ (w1 : World), Ext w [OB.cells [Value.int IntKind.i64 n, Value.int IntKind.i64 n_2] (3 : Nat)] w1 → CallsF Tryz.prog (15 : Nat) (Array.mk [Value.pointer p, Value.slice (some (Addr.mk (w.heap.size + (0 : Nat)) (0 : Nat) none)) (2 : Nat) (2 : Nat)]) w1 fun (e : Ending) (w : World) => ∃ (n_3 : Int), e = Ending.returned (Value.int IntKind.i64 n_3) ∧ CallsF Tryz.prog (16 : Nat) (Array.mk [Value.pointer p, Value.int IntKind.i64 n_3]) w fun (e : Ending) (w : World) => ∃ (n_4 : Int), e = Ending.returned (Value.int IntKind.i64 n_4) ∧ CallsF Tryz.prog (17 : Nat) (Array.mk [Value.pointer p, Value.int IntKind.i64 n_4]) w fun (e : Ending) (w : World) => ∃ (n_5 : Int), e = Ending.returned (Value.int IntKind.i64 n_5) ∧ ∀ (J : List Value → World → Prop), (∀ (b : Bool) (w1 : World), R (Ending.returned (Value.bool b)) w1 → J [Value.bool b] w1) → CallsF Tryz.prog (8 : Nat) (Array.mk [Value.pointer p, Value.int IntKind.i64 n_3, Value.int IntKind.i64 (0 : Int), Value.int IntKind.i64 (0 : Int)]) w fun (e : Ending) (w : World) => ∃ (n_6 : Int), e = Ending.returned (Value.int IntKind.i64 n_6) ∧ CallsF Tryz.prog (16 : Nat) (Array.mk [Value.pointer p, Value.int IntKind.i64 n_1]) w fun (e : Ending) (w : World) => ∃ (n_7 : Int), e = Ending.returned (Value.int IntKind.i64 n_7) ∧ Br (n_6 == n_7) (CallsF Tryz.prog (8 : Nat) (Array.mk [Value.pointer p, Value.int IntKind.i64 n_3, Value.int IntKind.i64 (1 : Int), Value.int IntKind.i64 (0 : Int)]) w fun (e : Ending) (w : World) => ∃ (n_8 : Int), e = Ending.returned (Value.int IntKind.i64 n_8) ∧ Br (n_8 == (0 : Int)) (CallsF Tryz.prog (16 : Nat) (Array.mk [Value.pointer p, Value.int IntKind.i64 n]) w fun (e : Ending) (w : World) => ∃ (n : Int), e = Ending.returned (Value.int IntKind.i64 n) ∧ ∀ (w1 : World), Ext w [OB.cells [Value.int IntKind.i64 n, Value.int IntKind.i64 n_1] (3 : Nat)] w1 → CallsF Tryz.prog (18 : Nat) (Array.mk [Value.pointer p, Value.slice (some (Addr.mk (w.heap.size + (0 : Nat)) (0 : Nat) none)) (2 : Nat) (2 : Nat)]) w1 fun (e : Ending) (w : World) => ∃ (n : Int), e = Ending.returned (Value.int IntKind.i64 n) ∧ Br (n_5 == n) (CallsF Tryz.prog (9 : Nat) (Array.mk [Value.pointer p, Value.int IntKind.i64 n_3]) w fun (e : Ending) (w : World) => ∃ (p_1 : Option Addr), ∃ (n : Nat), ∃ (c : Nat), e = Ending.returned (Value.slice p_1 n c) ∧ Br ((↑n : Int) == (2 : Int)) (CallsF Tryz.prog (19 : Nat) (Array.mk [Value.pointer p, Value.int IntKind.i64 n_3]) w fun (e : Ending) (w : World) => ∃ (n : Int), e = Ending.returned (Value.int IntKind.i64 n) ∧ Br (n == (4 : Int)) (CallsF Tryz.prog (21 : Nat) (Array.mk [Value.pointer p, Value.int IntKind.i64 n_3]) w fun (e : Ending) (w : World) => ∃ (p : Option Addr), ∃ (n : Nat), ∃ (c : Nat), e = Ending.returned (Value.slice p n c) ∧ CallsF Tryz.prog (22 : Nat) (Array.mk [Value.int IntKind.u64 (2 : Int)]) w fun (e : Ending) (w : World) => ∃ (p_2 : Option Addr), ∃ (n_9 : Nat), ∃ (c_1 : Nat), e = Ending.returned (Value.slice p_2 n_9 c_1) ∧ CallsF Tryz.prog (20 : Nat) (Array.mk [Value.slice p n c, Value.slice p_2 n_9 c_1]) w fun (e : Ending) (w : World) => ∃ (n : Int), e = Ending.returned (Value.int IntKind.i64 n) ∧ J [Value.bool (n == (0 : Int))] w) (J [Value.bool false] w)) (J [Value.bool false] w)) (J [Value.bool false] w)) (J [Value.bool false] w)) (J [Value.bool false] w))
theorem E_credencelaw23_awake (w : World) (R : Ending → World → Prop) : shFn Tryz.prog Tryz.f5.ntmps Tryz.f5.results.toList (Tryz.f5.body.getD .skip) [] w R = S_credencelaw23_awake w R := by kernel_rfl
theorem C_credencelaw23_awake (w : World) (R : Ending → World → Prop) (h : S_credencelaw23_awake w R) : CallsF Tryz.prog 5 #[] w R :=
 ⟨Tryz.call5, calls_of_sh A1G5mixed Tryz.func5 rfl (Nat.le_of_ble_eq_true rfl) ((E_credencelaw23_awake w R).mpr h)⟩


end Go.Proofs.YtajfdcbknghipaaGreatDoor
end

section
/- Layer 23's helpers: the sanity check, imported, Usable, holds. Conditions on memory as stated. -/
namespace Go.Proofs.YtajfdcbknghipaaGreatDoor
open Go Go.Sh Go.Fm

variable {w w1 w2 : World} {s : Addr} {L L' : List Nd} {d : SD}

/-- A store that the call has made since w. -/
structure Fresh (w w' : World) (s : Addr) (L : List Nd) (d : SD) : Prop where
  st : StI w' s L d
  ge : ∀ b, d.fp b → w.heap.size ≤ b
  mod : Mod NoB w w'
theorem Fresh.step (h : Fresh w w1 s L d) (hp : StPost w1 s d L' w2) : ∃ d', Fresh w w2 s L' d' := by
  obtain ⟨d', h1, h2, h3⟩ := hp
  have hs := h.mod.size
  refine ⟨d', h1, fun b hb => ?_, h.mod.new _ h2 fun x hx hf => by have := h.ge x hf; omega⟩
  rcases h3 b hb with h' | h'
  · exact h.ge b h'
  · omega
theorem Fresh.same (h : Fresh w w1 s L d) (hm : Mod NoB w1 w2) : Fresh w w2 s L d := ⟨h.st.same hm, h.ge, h.mod.then hm⟩
/-- A store that was made by the call has what it had before, whatever else is done. -/
theorem Fresh.keep {fp : Nat → Prop} (h : Fresh w w1 s L d) (hm : Mod fp w1 w2) (hn : ∀ b, d.fp b → ¬ fp b) (hf : ∀ b, fp b → w.heap.size ≤ b) : Fresh w w2 s L d :=
  ⟨h.st.keep hm hn, h.ge, h.mod.new _ hm fun x hx h' => by have := hf x h'; omega⟩

theorem awake_ok (w : World) : CallsF Tryz.prog 5 #[] w (Ret (.bool true) NoB w) := by
  refine C_credencelaw23_awake _ _ ?_
  refine (newStore_ok w).mono ?_
  rintro e w1 ⟨s, d1, rfl, h1, hm1, hg1⟩
  have f0 : Fresh w w1 s Q0 d1 := ⟨h1, hg1, hm1⟩
  refine ⟨_, rfl, Br_false rfl ?_⟩
  have c1 := pick_ok (b := 0) (a := 0) f0.st (by decide) (by omega)
  rw [q1] at c1
  refine c1.mono ?_
  rintro e w2 ⟨rfl, hp⟩
  obtain ⟨d2, f1⟩ := f0.step hp
  refine ⟨_, rfl, ?_⟩
  have c2 := pick_ok (b := 1) (a := 0) f1.st (by decide) (by omega)
  rw [q2] at c2
  refine c2.mono ?_
  rintro e w3 ⟨rfl, hp⟩
  obtain ⟨d3, f2⟩ := f1.step hp
  refine ⟨_, rfl, ?_⟩
  have c3 := not_ok f2.st (by decide) (a := 3) (by decide)
  rw [q3] at c3
  refine CallsF.mono c3 ?_
  rintro e w4 ⟨rfl, hp⟩
  obtain ⟨d4, f3⟩ := f2.step hp
  refine ⟨_, rfl, ?_⟩
  intro w5 hw5
  have f3' := f3.same hw5.mod
  have r5 : Row w5 (some ⟨w4.heap.size + 0, 0, none⟩) (ints (natI [2, 4])) := Row.of_blk (hw5.blk 0 rfl)
  have c4 := and_ok (c := 2) f3'.st (by decide) r5 (by decide) (by decide)
  rw [q4] at c4
  refine CallsF.mono c4 ?_
  rintro e w6 ⟨rfl, hp⟩
  obtain ⟨d6, f4⟩ := f3'.step hp
  refine ⟨_, rfl, ?_⟩
  have c5 := not_ok f4.st (by decide) (a := 5) (by decide)
  rw [q5] at c5
  refine CallsF.mono c5 ?_
  rintro e w7 ⟨rfl, hp⟩
  obtain ⟨d7, f5⟩ := f4.step hp
  refine ⟨_, rfl, ?_⟩
  have c6 := NNF_ok f5.st (by decide) (a := 6) (by decide) (by rw [q6.1]; decide)
  rw [q6.1, q6.2] at c6
  refine CallsF.mono c6 ?_
  rintro e w8 ⟨rfl, hp⟩
  obtain ⟨d8, f7⟩ := f5.step hp
  refine ⟨_, rfl, ?_⟩
  intro J hJ
  have c7 := Condition_ok f7.st (by decide) (a := 5) (by decide) 0 0
  rw [q7] at c7
  refine CallsF.mono c7 ?_
  rintro e w9 ⟨rfl, hp⟩
  obtain ⟨d9, f7⟩ := f7.step hp
  refine ⟨_, rfl, ?_⟩
  have c8 := not_ok f7.st (by decide) (a := 3) (by decide)
  rw [q8] at c8
  refine CallsF.mono c8 ?_
  rintro e w10 ⟨rfl, hp⟩
  obtain ⟨d10, f7⟩ := f7.step hp
  refine ⟨_, rfl, Br_true (by decide) ?_⟩
  have c9 := Condition_ok f7.st (by decide) (a := 5) (by decide) 1 0
  rw [q9] at c9
  refine CallsF.mono c9 ?_
  rintro e w11 ⟨rfl, hp⟩
  obtain ⟨d11, f7⟩ := f7.step hp
  refine ⟨_, rfl, Br_true (by decide) ?_⟩
  have c10 := not_ok f7.st (by decide) (a := 2) (by decide)
  rw [q10] at c10
  refine CallsF.mono c10 ?_
  rintro e w12 ⟨rfl, hp⟩
  obtain ⟨d12, f7⟩ := f7.step hp
  refine ⟨_, rfl, ?_⟩
  intro w13 hw13
  have f7 := f7.same hw13.mod
  have r13 : Row w13 (some ⟨w12.heap.size + 0, 0, none⟩) (ints (natI [7, 3])) := Row.of_blk (hw13.blk 0 rfl)
  have c11 := or_ok (c := 2) f7.st (by decide) r13 (by decide) (by decide)
  rw [q11] at c11
  refine CallsF.mono c11 ?_
  rintro e w14 ⟨rfl, hp⟩
  obtain ⟨d14, f7⟩ := f7.step hp
  refine ⟨_, rfl, Br_true (by decide) ?_⟩
  have c12 := support_ok f7.st.m f7.st.wf.ok (by decide) (a := 5) (by decide)
  rw [q12] at c12
  refine CallsF.mono c12 ?_
  rintro e w15 ⟨p15, cp15, l15, rfl, hasc, hmem, _, _, hm15⟩
  have f7 := f7.same hm15
  have hl : l15 = [0, 1] := asc_unique hasc (by decide) fun x => by
    rw [hmem]
    have : blocksOf Q7 [2, 3, 4, 5] = [0, 1] := by decide
    rw [this]
  subst hl
  refine ⟨_, _, _, rfl, Br_true (by decide) ?_⟩
  have c13 := size_ok f7.st.m f7.st.wf.ok (by decide) (a := 5) (by decide)
  rw [q12] at c13
  refine CallsF.mono c13 ?_
  rintro e w16 ⟨rfl, hm16⟩
  have f7 := f7.same hm16
  refine ⟨_, rfl, Br_true (by decide) ?_⟩
  have c14 := leaves_ok f7.st.m f7.st.wf.ok (by decide) (a := 5) (by decide) (by
    rw [q12]
    intro x hx
    simp only [List.mem_cons, List.not_mem_nil, or_false] at hx
    obtain ⟨v2, v3, v4, v5⟩ := q13
    rcases hx with rfl | rfl | rfl | rfl
    · exact Nat.lt_of_le_of_lt (Nat.le_of_eq v2) (by decide)
    · exact Nat.lt_of_le_of_lt (Nat.le_of_eq v3) (by decide)
    · exact Nat.lt_of_le_of_lt (Nat.le_of_eq v4) (by decide)
    · exact Nat.lt_of_le_of_lt (Nat.le_of_eq v5) (by decide))
  refine CallsF.mono c14 ?_
  rintro e w17 ⟨q17, c17, r17, rfl, hn17, hd17, hv17, hm17⟩
  have f7 := f7.same hm17
  refine ⟨_, _, _, rfl, ?_⟩
  refine (natOf_ok 2 (by omega) w17).mono ?_
  rintro e w18 ⟨q18, c18, r18, rfl, hn18, hd18, hv18, _, hm18⟩
  have f7 := f7.same hm18
  refine ⟨_, _, _, rfl, ?_⟩
  rw [q13.2.2.2] at hv17
  have l17 : r17.length ≤ 1 := normD_len hd17 (by rw [hv17]; decide)
  have l18 : r18.length ≤ 1 := normD_len hd18 (by rw [hv18]; decide)
  refine (natCmp_ok (hn17.only hm18) hn18 (by omega) (by omega)).mono ?_
  rintro e w19 ⟨rfl, hm19⟩
  have f7 := f7.same hm19
  refine ⟨_, rfl, hJ _ _ ⟨?_, f7.mod⟩⟩
  rw [hv17, hv18]; rfl

theorem index_ok (x : Int) (k : Nat) (h1 : 0 < k) (h2 : k ≤ 1000000) (hx : -9223372036854775808 ≤ x) (hx2 : x ≤ 9223372036854775807) (w : World) : CallsF Tryz.prog 7 #[.int .i64 x, .int .i64 k] w fun e w' => ∃ n : Nat, n < k ∧ e = .returned (.int .i64 n) ∧ Mod NoB w w' := by
  refine C_credencelaw22_Index _ _ _ _ ⟨by omega, ?_⟩
  have hlt : x.tmod k < k ∧ -(k : Int) < x.tmod k := by
    constructor
    · exact Int.tmod_lt_of_pos _ (by omega)
    · have h0 : (0 : Int) < k := by omega
      by_cases hx0 : 0 ≤ x
      · have := Int.tmod_nonneg k hx0
        omega
      · have e : x.tmod k = -((-x).tmod k) := by rw [Int.neg_tmod, Int.neg_neg]
        have := Int.tmod_lt_of_pos (-x) h0
        omega
  refine Br_dec (fun hneg => ?_) fun hpos => ?_
  · rw [wrap_i64 (by omega) (by omega)]
    exact ⟨(x.tmod k + k).toNat, by omega, by rw [Int.toNat_of_nonneg (by omega)], Mod.refl _ _⟩
  · exact ⟨(x.tmod k).toNat, by omega, by rw [Int.toNat_of_nonneg (by omega)], Mod.refl _ _⟩

end Go.Proofs.YtajfdcbknghipaaGreatDoor
end

section
/- What And, Or, Not and Condition mean: plain Lean, no program. -/
namespace Go.Fm

theorem val_zero {L : List Nd} (h : WF L) (v : List Int) : val L v 0 = false := by
  rw [val_eq h.ok h.ff]; rfl
theorem val_one {L : List Nd} (h : WF L) (v : List Int) : val L v 1 = true := by
  rw [val_eq h.ok h.tt]; rfl
theorem val_not {L : List Nd} (h : WF L) {x y : Nat} {n : Nd} (hn : L[x]? = some n) (hk : n.kind = 3) (hi : n.ins = [y]) (v : List Int) : val L v x = !(val L v y) := by
  rw [val_eq h.ok hn]
  unfold nval
  rw [if_neg (by omega), if_neg (by omega), if_pos hk, hi]; rfl
theorem val_pick {L : List Nd} (h : WF L) {x : Nat} {n : Nd} (hn : L[x]? = some n) (hk : n.kind = 2) (v : List Int) : val L v x = pickV v n.block n.alt := by
  rw [val_eq h.ok hn]
  unfold nval
  rw [if_neg (by omega), if_pos hk]

/-- The value, turned round for a disjunction. -/
def PV (L : List Nd) (v : List Int) (kind : Int) (x : Nat) : Bool := if kind = 5 then !(val L v x) else val L v x
theorem PV_append {L e : List Nd} {v : List Int} {kind : Int} {a : Nat} (ha : a < L.length) : PV (L ++ e) v kind a = PV L v kind a := by unfold PV; rw [val_append ha]
theorem PV_neutral {L : List Nd} (h : WF L) (v : List Int) (kind : Int) : PV L v kind (neutralOf kind) = true := by
  unfold PV neutralOf
  split
  · rw [val_zero h]; rfl
  · exact val_one h v
theorem PV_absorb {L : List Nd} (h : WF L) (v : List Int) (kind : Int) : PV L v kind (absorbOf kind) = false := by
  unfold PV absorbOf
  split
  · rw [val_one h]; rfl
  · exact val_zero h v
theorem PV_node {L : List Nd} (h : WF L) {kind : Int} (hk : kind = 4 ∨ kind = 5) {x : Nat} {n : Nd} (hn : L[x]? = some n) (hnk : n.kind = kind) (v : List Int) : PV L v kind x = n.ins.all (PV L v kind) := by
  have hv := val_eq h.ok hn v
  unfold nval at hv
  rcases hk with rfl | rfl
  · rw [if_neg (by omega), if_neg (by omega), if_neg (by omega), if_pos hnk] at hv
    unfold PV
    simp only [show ¬ ((4 : Int) = 5) by omega, if_false]
    rw [hv]; rfl
  · rw [if_neg (by omega), if_neg (by omega), if_neg (by omega), if_neg (by omega), if_pos hnk] at hv
    unfold PV
    simp only [if_true]
    rw [hv, List.not_any_eq_all_not]; rfl
theorem PV_not {L : List Nd} (h : WF L) {kind : Int} {x y : Nat} {n : Nd} (hn : L[x]? = some n) (hk : n.kind = 3) (hi : n.ins = [y]) (v : List Int) : PV L v kind x = !(PV L v kind y) := by
  unfold PV
  rw [val_not h hn hk hi]
  split <;> simp
theorem PV_pick {L : List Nd} (h : WF L) {kind : Int} {a : Nat} {m : Nd} (ha : pickNd L kind a = some m) (v : List Int) : PV L v kind a = pickV v m.block m.alt := by
  unfold pickNd at ha
  split at ha
  · rename_i h5
    cases hla : L[a]? with
    | none => rw [hla] at ha; cases ha
    | some na =>
      rw [hla] at ha
      simp only at ha
      split at ha
      case isFalse => cases ha
      rename_i hk3
      obtain ⟨x, hx⟩ := List.length_eq_one_iff.1 ((h.ok a na hla).not1 hk3)
      rw [hx] at ha
      simp only [List.head?_cons] at ha
      obtain ⟨h1, h2⟩ := pickAt_some h ha
      have hmk : m.kind = 2 := by rw [h2]
      unfold PV
      rw [if_pos h5, val_not h hla hk3 hx, Bool.not_not, val_pick h h1 hmk]
  · rename_i h5
    obtain ⟨h1, h2⟩ := pickAt_some h ha
    have hmk : m.kind = 2 := by rw [h2]
    unfold PV
    rw [if_neg h5, val_pick h h1 hmk]
theorem PV_expand {L : List Nd} (h : WF L) {kind : Int} (hk : kind = 4 ∨ kind = 5) (v : List Int) (a : Nat) : (expand L kind a).all (PV L v kind) = PV L v kind a := by
  unfold expand
  cases hn : L[a]? with
  | none => simp
  | some n =>
    simp only
    split
    · rename_i hnk
      exact (PV_node h hk hn hnk v).symm
    · simp
theorem PV_flat {L : List Nd} (h : WF L) {kind : Int} (hk : kind = 4 ∨ kind = 5) (l : List Nat) (v : List Int) : (flat L kind l).all (PV L v kind) = l.all (PV L v kind) := by
  rw [Bool.eq_iff_iff, List.all_eq_true, List.all_eq_true]
  constructor
  · intro hf a ha
    rw [← PV_expand h hk v a, List.all_eq_true]
    intro x hx
    by_cases hxn : x = neutralOf kind
    · rw [hxn]; exact PV_neutral h v kind
    · exact hf x (mem_flat.2 ⟨⟨a, ha, hx⟩, hxn⟩)
  · intro hl x hx
    obtain ⟨⟨a, ha, hxa⟩, _⟩ := mem_flat.1 hx
    have := hl a ha
    rw [← PV_expand h hk v a, List.all_eq_true] at this
    exact this x hxa
theorem nodup_filterMap {α β : Type} {f : α → Option β} : ∀ {l : List α}, l.Nodup → ¬ (l.filterMap f).Nodup → ∃ x ∈ l, ∃ y ∈ l, x ≠ y ∧ ∃ b, f x = some b ∧ f y = some b
  | [], _, h => absurd List.nodup_nil h
  | a :: l, hn, h => by
    rw [List.nodup_cons] at hn
    rw [List.filterMap_cons] at h
    cases ha : f a with
    | none =>
      rw [ha] at h
      obtain ⟨x, hx, y, hy, r⟩ := nodup_filterMap hn.2 h
      exact ⟨x, List.mem_cons_of_mem _ hx, y, List.mem_cons_of_mem _ hy, r⟩
    | some b =>
      rw [ha] at h
      simp only [List.nodup_cons] at h
      by_cases hb : b ∈ l.filterMap f
      · obtain ⟨y, hy, hyb⟩ := List.mem_filterMap.1 hb
        exact ⟨a, List.mem_cons_self, y, List.mem_cons_of_mem _ hy, fun e => hn.1 (e ▸ hy), b, ha, hyb⟩
      · have h2 : ¬ (l.filterMap f).Nodup := fun h' => h ⟨hb, h'⟩
        obtain ⟨x, hx, y, hy, r⟩ := nodup_filterMap hn.2 h2
        exact ⟨x, List.mem_cons_of_mem _ hx, y, List.mem_cons_of_mem _ hy, r⟩
theorem comb_P {L : List Nd} (h : WF L) {kind : Int} (hk : kind = 4 ∨ kind = 5) {l : List Nat} (hl : ∀ a ∈ l, a < L.length) (v : List Int) : PV (comb L kind l).1 v kind (comb L kind l).2 = l.all (PV L v kind) := by
  rw [← PV_flat h hk]
  have hfl := flat_lt h.ok (kind := kind) hl
  have hnd := asc_nodup (flat_asc L kind l)
  have hno := ndOK_comb h hk hl
  have hmem : ∀ z, z ∈ flat L kind l → True := fun _ _ => trivial
  unfold comb
  generalize flat L kind l = f at hfl hnd hno hmem ⊢
  split
  · rename_i hc
    show PV L v kind (absorbOf kind) = _
    rw [PV_absorb h, eq_comm, List.all_eq_false]
    rw [Bool.or_eq_true, Bool.or_eq_true] at hc
    rcases hc with (hc | hc) | hc
    · exact ⟨absorbOf kind, List.contains_iff_mem.1 hc, by rw [PV_absorb h]; simp⟩
    · unfold compl at hc
      rw [List.any_eq_true] at hc
      obtain ⟨x, hx, hb⟩ := hc
      have hn : L[x]? = some (L[x]'(hfl x hx)) := List.getElem?_eq_getElem _
      generalize L[x]'(hfl x hx) = n at hn
      rw [hn] at hb
      simp only [Bool.and_eq_true, beq_iff_eq] at hb
      obtain ⟨y, hy⟩ := List.length_eq_one_iff.1 ((h.ok x n hn).not1 hb.1)
      rw [hy] at hb
      simp only [List.any_cons, List.any_nil, Bool.or_false] at hb
      have hyf := List.contains_iff_mem.1 hb.2
      have hxy := PV_not h (kind := kind) hn hb.1 hy v
      cases hpy : PV L v kind y with
      | true => exact ⟨x, hx, by rw [hxy, hpy]; simp⟩
      | false => exact ⟨y, hyf, by rw [hpy]; simp⟩
    · unfold excl at hc
      have hnn : ¬ (f.filterMap (pickOf L kind)).Nodup := by simpa using hc
      obtain ⟨x, hx, y, hy, hxy, b, hbx, hby⟩ := nodup_filterMap hnd hnn
      rw [pickOf_nd] at hbx hby
      cases hpx : pickNd L kind x with
      | none => rw [hpx] at hbx; cases hbx
      | some m =>
        cases hpy : pickNd L kind y with
        | none => rw [hpy] at hby; cases hby
        | some m' =>
          rw [hpx] at hbx; rw [hpy] at hby
          simp only [Option.map_some, Option.some.injEq] at hbx hby
          have hne := pick_alts h hpx hpy hxy (by rw [hbx, hby])
          have e1 := PV_pick h hpx v
          have e2 := PV_pick h hpy v
          cases hv : pickV v m.block m.alt with
          | false => exact ⟨x, hx, by rw [e1, hv]; simp⟩
          | true =>
            refine ⟨y, hy, ?_⟩
            rw [e2]
            unfold pickV at hv ⊢
            rw [decide_eq_true_iff] at hv
            rw [hby, ← hbx, hv]
            simp [hne]
  · rename_i hc
    match f, hfl, hno, hc with
    | [], _, _, _ => exact PV_neutral h v kind
    | [a], _, _, _ => show PV L v kind a = _; simp
    | a :: b :: r, hfl, hno, hc =>
      have hc' : (a :: b :: r).contains (absorbOf kind) = false := by
        cases hq : (a :: b :: r).contains (absorbOf kind) with
        | false => rfl
        | true => rw [hq] at hc; simp at hc
      obtain ⟨hw2, hn2⟩ := mk_wf h (hno hc')
      obtain ⟨e, he, _⟩ := mk_ext L ⟨kind, 0, 0, a :: b :: r⟩
      show PV (mk L ⟨kind, 0, 0, a :: b :: r⟩).1 v kind (mk L ⟨kind, 0, 0, a :: b :: r⟩).2 = _
      rw [PV_node hw2 hk hn2 rfl]
      show (a :: b :: r).all _ = _
      rw [he]
      rw [Bool.eq_iff_iff, List.all_eq_true, List.all_eq_true]
      exact ⟨fun hh x hx => by rw [← PV_append (e := e) (hfl x hx)]; exact hh x hx, fun hh x hx => by rw [PV_append (hfl x hx)]; exact hh x hx⟩
theorem and_val {L : List Nd} (h : WF L) {l : List Nat} (hl : ∀ a ∈ l, a < L.length) (v : List Int) : val (comb L 4 l).1 v (comb L 4 l).2 = l.all (val L v) := by
  have := comb_P h (.inl rfl) hl v
  unfold PV at this
  simpa using this
theorem or_val {L : List Nd} (h : WF L) {l : List Nat} (hl : ∀ a ∈ l, a < L.length) (v : List Int) : val (comb L 5 l).1 v (comb L 5 l).2 = l.any (val L v) := by
  have := comb_P h (.inr rfl) hl v
  unfold PV at this
  simp only [if_true] at this
  rw [← Bool.not_not (val (comb L 5 l).1 v (comb L 5 l).2), this, ← List.not_any_eq_all_not, Bool.not_not]
theorem nt_val {L : List Nd} (h : WF L) {a : Nat} (ha : a < L.length) (v : List Int) : val (nt L a).1 v (nt L a).2 = !(val L v a) := by
  unfold nt
  split
  · rename_i h2
    show val L v (1 - a) = _
    have : a = 0 ∨ a = 1 := by omega
    rcases this with rfl | rfl
    · rw [val_zero h]; exact val_one h v
    · rw [val_one h]; exact val_zero h v
  · have hn : L[a]? = some L[a] := List.getElem?_eq_getElem ha
    generalize L[a] = n at hn
    rw [hn]
    simp only
    split
    · rename_i hk
      obtain ⟨y, hy⟩ := List.length_eq_one_iff.1 ((h.ok a n hn).not1 hk)
      show val L v (n.ins.headD 0) = _
      rw [val_not h hn hk hy, hy, Bool.not_not]; rfl
    · obtain ⟨hw2, hn2⟩ := mk_wf h (ndOK_not (L := L) (show 2 ≤ a by omega) ha)
      obtain ⟨e, he, _⟩ := mk_ext L ⟨3, 0, 0, [a]⟩
      rw [val_not hw2 hn2 rfl rfl, he, val_append ha]

/-- No pick of block b is used. -/
def NoBk (L : List Nd) (b : Int) (r : Nat) : Prop := ∀ x ∈ coneL L r, ∀ n, L[x]? = some n → n.kind = 2 → n.block ≠ b
theorem NoBk.append {L e : List Nd} {b : Int} {r : Nat} (hok : ∀ i n, L[i]? = some n → NdOK i n) (h : NoBk L b r) (hr : r < L.length) : NoBk (L ++ e) b r := by
  intro x hx n hn hk
  rw [coneL_append hr] at hx
  have hxr := cone_le hok r hr hx
  rw [List.getElem?_append_left (by omega)] at hn
  exact h x hx n hn hk
theorem NoBk.node {L : List Nd} (hok : ∀ i n, L[i]? = some n → NdOK i n) {b : Int} {r : Nat} {n : Nd} (hn : L[r]? = some n) (h1 : n.kind = 2 → n.block ≠ b) (h2 : ∀ y ∈ n.ins, NoBk L b y) : NoBk L b r := by
  intro x hx m hm hk
  rw [mem_cone hok hn] at hx
  rcases hx with rfl | ⟨y, hy, hxy⟩
  · rw [hn] at hm
    injection hm with hm
    subst hm; exact h1 hk
  · exact h2 y hy x hxy m hm hk
theorem NoBk.sub {L : List Nd} (hok : ∀ i n, L[i]? = some n → NdOK i n) {b : Int} {r y : Nat} (h : NoBk L b r) (hr : r < L.length) (hy : y ∈ coneL L r) : NoBk L b y := fun x hx n hn hk => h x (cone_sub hok y hr hy x hx) n hn hk
theorem nt_noB {L : List Nd} (h : WF L) {a : Nat} (ha : a < L.length) {b : Int} (hb : NoBk L b a) : NoBk (nt L a).1 b (nt L a).2 := by
  unfold nt
  split
  · rename_i h2
    show NoBk L b (1 - a)
    have : a = 0 ∨ a = 1 := by omega
    rcases this with rfl | rfl
    · exact NoBk.node h.ok h.tt (fun hk => by cases hk) (fun y hy => nomatch hy)
    · exact NoBk.node h.ok h.ff (fun hk => by cases hk) (fun y hy => nomatch hy)
  · have hn : L[a]? = some L[a] := List.getElem?_eq_getElem ha
    generalize L[a] = n at hn
    rw [hn]
    simp only
    split
    · rename_i hk
      obtain ⟨y, hy⟩ := List.length_eq_one_iff.1 ((h.ok a n hn).not1 hk)
      show NoBk L b (n.ins.headD 0)
      rw [hy]
      refine hb.sub h.ok ha ?_
      rw [mem_cone h.ok hn]
      have := (h.ok a n hn).lt y (by rw [hy]; exact List.mem_cons_self)
      exact .inr ⟨y, by rw [hy]; exact List.mem_cons_self, cone_self h.ok (by show y < L.length; omega)⟩
    · obtain ⟨hw2, hn2⟩ := mk_wf h (ndOK_not (L := L) (show 2 ≤ a by omega) ha)
      obtain ⟨e, he, _⟩ := mk_ext L ⟨3, 0, 0, [a]⟩
      refine NoBk.node hw2.ok hn2 (fun hk => by cases hk) fun y hy => ?_
      have : y = a := by simpa using hy
      subst this
      rw [he]
      exact hb.append h.ok ha
theorem comb_noB {L : List Nd} (h : WF L) {kind : Int} (hk : kind = 4 ∨ kind = 5) {l : List Nat} (hl : ∀ a ∈ l, a < L.length) {b : Int} (hb : ∀ a ∈ l, NoBk L b a) : NoBk (comb L kind l).1 b (comb L kind l).2 := by
  have hfl := flat_lt h.ok (kind := kind) hl
  have hno := ndOK_comb h hk hl
  have hfb : ∀ x ∈ flat L kind l, NoBk L b x := by
    intro x hx
    obtain ⟨⟨a, ha, hxa⟩, _⟩ := mem_flat.1 hx
    have haL := hl a ha
    refine (hb a ha).sub h.ok haL ?_
    have hn : L[a]? = some L[a] := List.getElem?_eq_getElem haL
    unfold expand at hxa
    rw [hn] at hxa
    simp only at hxa
    split at hxa
    · rw [mem_cone h.ok hn]
      have := (h.ok a _ hn).lt x hxa
      exact .inr ⟨x, hxa, cone_self h.ok (by omega)⟩
    · have : x = a := by simpa using hxa
      subst this
      exact cone_self h.ok haL
  have hz : ∀ c, c < 2 → NoBk L b c := by
    intro c hc
    have : c = 0 ∨ c = 1 := by omega
    rcases this with rfl | rfl
    · exact NoBk.node h.ok h.ff (fun hk => by cases hk) (fun y hy => nomatch hy)
    · exact NoBk.node h.ok h.tt (fun hk => by cases hk) (fun y hy => nomatch hy)
  unfold comb
  generalize flat L kind l = f at hfl hno hfb ⊢
  split
  · exact hz _ (by unfold absorbOf; split <;> omega)
  · rename_i hc
    match f, hfl, hno, hfb, hc with
    | [], _, _, _, _ => exact hz _ (neutral_lt2 kind)
    | [a], _, _, hfb, _ => exact hfb a List.mem_cons_self
    | a :: c :: r, hfl, hno, hfb, hc =>
      have hc' : (a :: c :: r).contains (absorbOf kind) = false := by
        cases hq : (a :: c :: r).contains (absorbOf kind) with
        | false => rfl
        | true => rw [hq] at hc; simp at hc
      obtain ⟨hw2, hn2⟩ := mk_wf h (hno hc')
      obtain ⟨e, he, _⟩ := mk_ext L ⟨kind, 0, 0, a :: c :: r⟩
      refine NoBk.node hw2.ok hn2 (fun hk2 => by
        have : kind = 2 := hk2
        omega) fun y hy => ?_
      rw [he]
      exact (hfb y hy).append h.ok (hfl y hy)

end Go.Fm
end

section
/- What Condition and Export come to: plain Lean, no program. -/
namespace Go.Fm

theorem nt_wf {L : List Nd} (h : WF L) {a : Nat} (ha : a < L.length) : WF (nt L a).1 := by
  unfold nt
  split
  · exact h
  · rw [List.getElem?_eq_getElem ha]
    simp only
    split
    · exact h
    · exact (mk_wf h (ndOK_not (by omega) ha)).1
theorem comb_wf {L : List Nd} (h : WF L) {kind : Int} (hk : kind = 4 ∨ kind = 5) {l : List Nat} (hl : ∀ a ∈ l, a < L.length) : WF (comb L kind l).1 := by
  have hno := ndOK_comb h hk hl
  unfold comb
  split
  · exact h
  · rename_i hc
    have hc' : (flat L kind l).contains (absorbOf kind) = false := by
      cases hq : (flat L kind l).contains (absorbOf kind) with
      | false => rfl
      | true => rw [hq] at hc; simp at hc
    have hno' := hno hc'
    generalize flat L kind l = ff at hno' hc
    match ff, hno', hc with
    | [], _, _ => exact h
    | [a], _, _ => exact h
    | a :: b :: r, hno', _ => exact (mk_wf h hno').1

/-- What has been done of Condition. -/
structure CI (L0 : List Nd) (v : List Int) (b : Int) (L : List Nd) (bec : List (Nat × Nat)) : Prop where
  wf : WF L
  pre : ∃ e, L = L0 ++ e
  lt : ∀ y ∈ bec.map Prod.fst, getN bec y < L.length
  valE : ∀ y ∈ bec.map Prod.fst, val L v (getN bec y) = val L0 v y
  nob : ∀ y ∈ bec.map Prod.fst, NoBk L b (getN bec y)
theorem condN_sem {L0 L : List Nd} {v : List Int} {b al : Int} {bec : List (Nat × Nat)} (h : CI L0 v b L bec) (hw0 : WF L0) (hv : v[b.toNat]? = some al) {x : Nat} {n : Nd} (hn : L0[x]? = some n) (hins : ∀ y ∈ n.ins, y ∈ bec.map Prod.fst) :
    WF (condN L bec x n b al).1 ∧ (∃ e, (condN L bec x n b al).1 = L ++ e) ∧ (condN L bec x n b al).2 < (condN L bec x n b al).1.length ∧ val (condN L bec x n b al).1 v (condN L bec x n b al).2 = val L0 v x ∧ NoBk (condN L bec x n b al).1 b (condN L bec x n b al).2 := by
  obtain ⟨e0, he0⟩ := h.pre
  have hxl := (List.getElem?_eq_some_iff.1 hn).1
  have hnL : L[x]? = some n := by rw [he0, List.getElem?_append_left hxl]; exact hn
  have hxL := (List.getElem?_eq_some_iff.1 hnL).1
  have hnok := hw0.ok x n hn
  have hvx : val L v x = val L0 v x := by rw [he0]; exact val_append hxl
  have h2 := h.wf.two
  have hil : ∀ y ∈ n.ins, y < L0.length := fun y hy => by have := hnok.lt y hy; omega
  have hml : ∀ y ∈ n.ins.map (getN bec), y < L.length := by
    intro y hy
    obtain ⟨z, hz, rfl⟩ := List.mem_map.1 hy
    exact h.lt z (hins z hz)
  have hmb : ∀ y ∈ n.ins.map (getN bec), NoBk L b y := by
    intro y hy
    obtain ⟨z, hz, rfl⟩ := List.mem_map.1 hy
    exact h.nob z (hins z hz)
  have hmv : (n.ins.map (getN bec)).map (val L v) = n.ins.map (val L v) := by
    rw [List.map_map]
    refine List.map_congr_left fun y hy => ?_
    show val L v (getN bec y) = val L v y
    rw [h.valE y (hins y hy), he0, val_append (hil y hy)]
  unfold condN
  split
  · rename_i hk
    refine ⟨h.wf, ⟨[], by simp⟩, ?_, ?_, ?_⟩
    · show (if n.alt = al then 1 else 0) < L.length
      split <;> omega
    · show val L v (if n.alt = al then 1 else 0) = _
      rw [val_pick hw0 hn hk.1]
      unfold pickV
      rw [hk.2, hv]
      by_cases ha : n.alt = al
      · rw [if_pos ha, val_one h.wf, ha]; simp
      · rw [if_neg ha, val_zero h.wf]
        have : ¬ al = n.alt := fun e => ha e.symm
        simp [this]
    · show NoBk L b (if n.alt = al then 1 else 0)
      split
      · exact NoBk.node h.wf.ok h.wf.tt (fun hk => by cases hk) (fun y hy => nomatch hy)
      · exact NoBk.node h.wf.ok h.wf.ff (fun hk => by cases hk) (fun y hy => nomatch hy)
  rename_i hk
  split
  · rename_i heq
    refine ⟨h.wf, ⟨[], by simp⟩, hxL, hvx, NoBk.node h.wf.ok hnL (fun h2' h3' => hk ⟨h2', h3'⟩) fun y hy => ?_⟩
    have hyy : getN bec y = y := by
      have key : ∀ (l : List Nat), l.map (getN bec) = l → ∀ y ∈ l, getN bec y = y := by
        intro l
        induction l with
        | nil => intro _ y hy; cases hy
        | cons z l ih =>
          intro he y hy
          simp only [List.map_cons, List.cons.injEq] at he
          rcases List.mem_cons.1 hy with rfl | hy
          · exact he.1
          · exact ih he.2 y hy
      exact key n.ins heq y hy
    have := h.nob y (hins y hy)
    rw [hyy] at this
    exact this
  split
  · rename_i hk3
    obtain ⟨y, hy⟩ := List.length_eq_one_iff.1 (hnok.not1 hk3)
    rw [hy] at hml hmb hmv ⊢
    have hyl := hml (getN bec y) (by simp)
    have hyb := hmb (getN bec y) (by simp)
    simp only [List.map_cons, List.map_nil, List.cons.injEq, and_true] at hmv
    show WF (nt L (getN bec y)).1 ∧ _
    obtain ⟨e, he, _⟩ := nt_ext L (getN bec y)
    refine ⟨nt_wf h.wf hyl, ⟨e, he⟩, nt_lt h.wf hyl, ?_, nt_noB h.wf hyl hyb⟩
    show val (nt L (getN bec y)).1 v (nt L (getN bec y)).2 = _
    rw [nt_val h.wf hyl, hmv, val_not hw0 hn hk3 hy]
    have hy0 := hil y (by rw [hy]; exact List.mem_cons_self)
    rw [he0, val_append hy0]
  split
  · rename_i hk45
    obtain ⟨e, he, _⟩ := comb_ext L n.kind (n.ins.map (getN bec))
    refine ⟨comb_wf h.wf hk45 hml, ⟨e, he⟩, comb_lt h.wf hk45 hml, ?_, comb_noB h.wf hk45 hml hmb⟩
    have hP := comb_P h.wf hk45 hml v
    have hP0 := PV_node hw0 hk45 hn rfl v
    have hall : (n.ins.map (getN bec)).all (PV L v n.kind) = n.ins.all (PV L0 v n.kind) := by
      rw [List.all_map, Bool.eq_iff_iff, List.all_eq_true, List.all_eq_true]
      have hpe : ∀ y ∈ n.ins, PV L v n.kind (getN bec y) = PV L0 v n.kind y := fun y hy => by unfold PV; rw [h.valE y (hins y hy)]
      exact ⟨fun hh y hy => by rw [← hpe y hy]; exact hh y hy, fun hh y hy => by show PV L v n.kind (getN bec y) = true; rw [hpe y hy]; exact hh y hy⟩
    rw [hall, ← hP0] at hP
    unfold PV at hP
    split at hP
    · simpa using hP
    · exact hP
  · rename_i heq _ hk45
    exfalso
    have hk3 : ¬ n.kind = 3 := by assumption
    have := hnok.k0; have := hnok.k1
    have hleaf := hnok.leaf (by omega)
    exact heq (by rw [hleaf]; rfl)

theorem cond_sem {L : List Nd} (hw : WF L) {a : Nat} (ha : a < L.length) {v : List Int} {b al : Int} (hv : v[b.toNat]? = some al) :
    WF (condF L a b al).1 ∧ (∃ e, (condF L a b al).1 = L ++ e ∧ e.length ≤ L.length) ∧ (condF L a b al).2 < (condF L a b al).1.length ∧ val (condF L a b al).1 v (condF L a b al).2 = val L v a ∧ NoBk (condF L a b al).1 b (condF L a b al).2 := by
  have hok := hw.ok
  have hasc := coneL_asc hok a
  have hself := cone_self hok ha
  have hmemL : ∀ x ∈ coneL L a, x < L.length := fun x hx => by have := cone_le hok a ha hx; omega
  have hcl : ∀ x ∈ coneL L a, ∀ n, L[x]? = some n → ∀ y ∈ n.ins, y ∈ coneL L a := fun x hx n hn y hy => cone_trans hok a ha hx hn hy
  have hlen : (coneL L a).length ≤ L.length := asc_len hasc hmemL
  have key : ∀ i, i ≤ (coneL L a).length → CI L v b (condR L b al L [] ((coneL L a).take i)).1 (condR L b al L [] ((coneL L a).take i)).2 ∧ ∃ e, (condR L b al L [] ((coneL L a).take i)).1 = L ++ e ∧ e.length ≤ i := by
    intro i
    induction i with
    | zero =>
      intro _
      rw [List.take_zero]
      exact ⟨⟨hw, ⟨[], by simp [condR]⟩, (fun y hy => nomatch hy), (fun y hy => nomatch hy), fun y hy => nomatch hy⟩, [], by simp [condR], Nat.le_refl _⟩
    | succ i ih =>
      intro hi
      obtain ⟨hci, e0, he0, hel0⟩ := ih (by omega)
      have hx : (coneL L a)[i]? = some ((coneL L a)[i]'(by omega)) := List.getElem?_eq_getElem (by omega)
      have hxm : (coneL L a)[i]'(by omega) ∈ coneL L a := List.getElem_mem _
      have htk : (coneL L a).take (i + 1) = (coneL L a).take i ++ [(coneL L a)[i]'(by omega)] := List.take_succ_eq_append_getElem (by omega)
      generalize (coneL L a)[i]'(by omega) = x at hx hxm htk
      have hn : L[x]? = some (L[x]'(hmemL x hxm)) := List.getElem?_eq_getElem _
      generalize L[x]'(hmemL x hxm) = n at hn
      have hkeys : ((condR L b al L [] ((coneL L a).take i)).2).map Prod.fst = (coneL L a).take i := by rw [condR_keys]; rfl
      have hxni : x ∉ (coneL L a).take i := by
        intro hmem
        obtain ⟨j, hj⟩ := List.getElem?_of_mem hmem
        have hjl := (List.getElem?_eq_some_iff.1 hj).1
        rw [List.length_take] at hjl
        rw [List.getElem?_take] at hj
        split at hj
        · have := nodup_inj (asc_nodup hasc) hj hx; omega
        · cases hj
      rw [htk, condR_snoc, nodeAt_eq hn]
      generalize condR L b al L [] ((coneL L a).take i) = st at hci he0 hkeys ⊢
      obtain ⟨Li, bec⟩ := st
      simp only at hci he0 hkeys ⊢
      obtain ⟨g1, ⟨e1, ge1⟩, g3, g4, g5⟩ := condN_sem hci hw hv hn fun y hy => by
        rw [hkeys]
        exact asc_before hasc hx (hcl x hxm n hn y hy) ((hok x n hn).lt y hy)
      obtain ⟨e2, he2, hel2⟩ := condN_ext Li bec x n b al
      refine ⟨⟨g1, ⟨e0 ++ e1, by rw [ge1, he0, List.append_assoc]⟩, fun y hy => ?_, fun y hy => ?_, fun y hy => ?_⟩, e0 ++ e2, by rw [he2, he0, List.append_assoc], by rw [List.length_append]; omega⟩
      · rw [getN_snoc, hkeys]
        rw [List.map_append, hkeys] at hy
        rcases List.mem_append.1 hy with hy | hy
        · rw [if_pos hy, ge1, List.length_append]
          have := hci.lt y (by rw [hkeys]; exact hy); omega
        · have : y = x := by simpa using hy
          subst this
          rw [if_neg hxni, if_pos rfl]; exact g3
      · rw [getN_snoc, hkeys]
        rw [List.map_append, hkeys] at hy
        rcases List.mem_append.1 hy with hy | hy
        · rw [if_pos hy, ge1, val_append (hci.lt y (by rw [hkeys]; exact hy))]
          exact hci.valE y (by rw [hkeys]; exact hy)
        · have : y = x := by simpa using hy
          subst this
          rw [if_neg hxni, if_pos rfl]; exact g4
      · rw [getN_snoc, hkeys]
        rw [List.map_append, hkeys] at hy
        rcases List.mem_append.1 hy with hy | hy
        · rw [if_pos hy, ge1]
          exact (hci.nob y (by rw [hkeys]; exact hy)).append hci.wf.ok (hci.lt y (by rw [hkeys]; exact hy))
        · have : y = x := by simpa using hy
          subst this
          rw [if_neg hxni, if_pos rfl]; exact g5
  obtain ⟨hci, e, he, hel⟩ := key _ (Nat.le_refl _)
  rw [List.take_length] at hci he
  have hkeys : ((condR L b al L [] (coneL L a)).2).map Prod.fst = coneL L a := by rw [condR_keys]; rfl
  have hak : a ∈ ((condR L b al L [] (coneL L a)).2).map Prod.fst := by rw [hkeys]; exact hself
  exact ⟨hci.wf, ⟨e, he, by omega⟩, hci.lt a hak, hci.valE a hak, hci.nob a hak⟩

theorem getN_id : ∀ (l : List Nat) (x : Nat), x ∈ l → getN (l.map fun y => (y, y)) x = x
  | [], _, h => by cases h
  | y :: l, x, h => by
    simp only [List.map_cons, getN]
    by_cases hxy : x = y
    · rw [if_pos hxy]; exact hxy.symm
    · rw [if_neg hxy]
      exact getN_id l x ((List.mem_cons.1 h).resolve_left hxy)
/-- Where the block is not used, Condition changes nothing. -/
theorem cond_id {L : List Nd} (hw : WF L) {a : Nat} (ha : a < L.length) {b : Int} (hb : NoBk L b a) (al : Int) : condF L a b al = (L, a) := by
  have hok := hw.ok
  have hasc := coneL_asc hok a
  have hself := cone_self hok ha
  have hmemL : ∀ x ∈ coneL L a, x < L.length := fun x hx => by have := cone_le hok a ha hx; omega
  have hcl : ∀ x ∈ coneL L a, ∀ n, L[x]? = some n → ∀ y ∈ n.ins, y ∈ coneL L a := fun x hx n hn y hy => cone_trans hok a ha hx hn hy
  have key : ∀ i, i ≤ (coneL L a).length → condR L b al L [] ((coneL L a).take i) = (L, ((coneL L a).take i).map fun y => (y, y)) := by
    intro i
    induction i with
    | zero => intro _; rfl
    | succ i ih =>
      intro hi
      have hx : (coneL L a)[i]? = some ((coneL L a)[i]'(by omega)) := List.getElem?_eq_getElem (by omega)
      have hxm : (coneL L a)[i]'(by omega) ∈ coneL L a := List.getElem_mem _
      have htk : (coneL L a).take (i + 1) = (coneL L a).take i ++ [(coneL L a)[i]'(by omega)] := List.take_succ_eq_append_getElem (by omega)
      generalize (coneL L a)[i]'(by omega) = x at hx hxm htk
      have hn : L[x]? = some (L[x]'(hmemL x hxm)) := List.getElem?_eq_getElem _
      generalize L[x]'(hmemL x hxm) = n at hn
      rw [htk, condR_snoc, nodeAt_eq hn, ih (by omega)]
      have hcn : condN L (((coneL L a).take i).map fun y => (y, y)) x n b al = (L, x) := by
        unfold condN
        rw [if_neg (fun h => hb x hxm n hn h.1 h.2), if_pos]
        conv => rhs; rw [← List.map_id n.ins]
        refine List.map_congr_left fun y hy => ?_
        exact getN_id _ y (asc_before hasc hx (hcl x hxm n hn y hy) ((hok x n hn).lt y hy))
      simp only [hcn]
      rw [List.map_append]; rfl
  have := key _ (Nat.le_refl _)
  rw [List.take_length] at this
  unfold condF
  rw [this]
  simp only
  rw [getN_id _ a hself]

theorem nval_map {k b al : Int} {ins : List Nat} {f : Nat → Nat} {l m : List Bool} {v : List Int} (h : ∀ y ∈ ins, l.getD (f y) false = m.getD y false) (h3 : k = 3 → ins ≠ []) : nval ⟨k, b, al, ins.map f⟩ l v = nval ⟨k, b, al, ins⟩ m v := by
  have h4 : (ins.map f).all (fun x => l.getD x false) = ins.all (fun x => m.getD x false) := by
    rw [List.all_map, Bool.eq_iff_iff, List.all_eq_true, List.all_eq_true]
    exact ⟨fun hh x hx => by rw [← h x hx]; exact hh x hx, fun hh x hx => by show l.getD (f x) false = true; rw [h x hx]; exact hh x hx⟩
  have h5 : (ins.map f).any (fun x => l.getD x false) = ins.any (fun x => m.getD x false) := by
    rw [List.any_map, Bool.eq_iff_iff, List.any_eq_true, List.any_eq_true]
    exact ⟨fun ⟨x, hx, hh⟩ => ⟨x, hx, by rw [← h x hx]; exact hh⟩, fun ⟨x, hx, hh⟩ => ⟨x, hx, by show l.getD (f x) false = true; rw [h x hx]; exact hh⟩⟩
  unfold nval
  simp only [h4, h5]
  by_cases hk : k = 3
  · have hne := h3 hk
    cases hi : ins with
    | nil => exact absurd hi hne
    | cons x r =>
      have := h x (by rw [hi]; exact List.mem_cons_self)
      simp only [List.map_cons, List.headD_cons, this]
  · simp only [if_neg hk]
theorem exp_eval {L : List Nd} (hok : ∀ i n, L[i]? = some n → NdOK i n) {a : Nat} (ha : a < L.length) (v : List Int) : evalL (expN L a) v = (coneL L a).map (val L v) := by
  have hasc := coneL_asc hok a
  have hnd := asc_nodup hasc
  have hmemL : ∀ x ∈ coneL L a, x < L.length := fun x hx => by have := cone_le hok a ha hx; omega
  have hcl : ∀ x ∈ coneL L a, ∀ n, L[x]? = some n → ∀ y ∈ n.ins, y ∈ coneL L a := fun x hx n hn y hy => cone_trans hok a ha hx hn hy
  unfold expN
  generalize coneL L a = l at *
  have key : ∀ i, i ≤ l.length → evalL ((l.take i).map fun x => reN l (nodeAt L x)) v = (l.take i).map (val L v) := by
    intro i
    induction i with
    | zero => intro _; rfl
    | succ i ih =>
      intro hi
      have hx : l[i]? = some (l[i]'(by omega)) := List.getElem?_eq_getElem (by omega)
      have hxm : l[i]'(by omega) ∈ l := List.getElem_mem _
      have htk : l.take (i + 1) = l.take i ++ [l[i]'(by omega)] := List.take_succ_eq_append_getElem (by omega)
      generalize l[i]'(by omega) = x at hx hxm htk
      have hn : L[x]? = some (L[x]'(hmemL x hxm)) := List.getElem?_eq_getElem _
      generalize L[x]'(hmemL x hxm) = n at hn
      rw [htk, List.map_append, List.map_append, List.map_cons, List.map_nil, List.map_cons, List.map_nil, evalL_snoc, ih (by omega), nodeAt_eq hn]
      congr 2
      rw [val_eq hok hn]
      unfold reN
      refine nval_map (fun y hy => ?_) fun hk => ?_
      · have hyi := asc_before hasc hx (hcl x hxm n hn y hy) ((hok x n hn).lt y hy)
        obtain ⟨j, hj⟩ := List.getElem?_of_mem hyi
        have hj' := hj
        rw [List.getElem?_take] at hj
        split at hj
        · rw [idxOf_get hnd hj, List.getD_eq_getElem?_getD, List.getElem?_map, hj']; rfl
        · cases hj
      · have := (hok x n hn).not1 hk
        intro e; rw [e] at this; cases this
  have := key _ (Nat.le_refl _)
  rw [List.take_length] at this
  exact this
theorem exp_root {L : List Nd} (hok : ∀ i n, L[i]? = some n → NdOK i n) {a : Nat} (ha : a < L.length) (v : List Int) : (evalL (expN L a) v).getLastD false = val L v a := by
  rw [exp_eval hok ha]
  obtain ⟨hpos, hlast⟩ := asc_last (coneL_asc hok a) (cone_self hok ha) fun x hx => cone_le hok a ha hx
  rw [List.getLastD_eq_getLast?, List.getLast?_eq_getElem?, List.length_map, List.getElem?_map]
  rw [List.getD_eq_getElem?_getD] at hlast
  rw [List.getElem?_eq_getElem (by omega)] at hlast ⊢
  simp only [Option.getD_some] at hlast
  simp only [Option.map_some, Option.getD_some, hlast]

end Go.Fm
end
