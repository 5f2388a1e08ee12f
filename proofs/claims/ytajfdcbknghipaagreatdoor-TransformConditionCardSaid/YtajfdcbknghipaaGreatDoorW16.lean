/- The law TransformCondition of the package credencelaw23 answers true at every input and leaves its arguments as they were (Rows.TransformConditionCardSaid); no condition beyond the card's own: the three listed tables stand as the program's text lays them. Part 16 of 25. -/
import Derived.KernelRfl
import Derived.Test.YtajfdcbknghipaaGreatDoorW04
import Derived.Test.YtajfdcbknghipaaGreatDoorProg
import Derived.Test.YtajfdcbknghipaaGreatDoorW15

section
/- The walks of some functions, as propositions on memory. Written by a program. No condition. -/
namespace Go.Proofs.YtajfdcbknghipaaGreatDoor
open Go Go.Sh
set_option maxRecDepth 100000
theorem A1G4mixed : Tryz.prog.follows .mixedOrders = true := by kernel_rfl
/-- credence/transform.cone -/
def S_transform_cone (x : Addr) (y : Int) (w : World) (R : Ending → World → Prop) : Prop :=
 CallsF Tryz.prog (37 : Nat) (Array.mk [Value.pointer (some x), Value.int IntKind.i64 y]) w fun (e : Ending) (w : World) => ∃ (n : Int), ∃ (n_1 : Int), ∃ (n_2 : Int), ∃ (p : Option Addr), ∃ (n_3 : Nat), ∃ (c : Nat), ∃ (b : Bool), e = Ending.returned (Value.tuple #[Value.agg #[Value.int IntKind.i64 n, Value.int IntKind.i64 n_1, Value.int IntKind.i64 n_2, Value.slice p n_3 c], Value.bool b]) ∧ Br (!b) (∀ (w1 : World), Ext w [OB.cells [Value.int IntKind.i64 n, Value.int IntKind.i64 n_1, Value.int IntKind.i64 n_2, Value.slice p n_3 c] (58 : Nat)] w1 → R (Ending.returned (Value.slice none (0 : Nat) (0 : Nat))) w1) (∀ (w1 : World), Ext w [OB.cells [Value.int IntKind.i64 n, Value.int IntKind.i64 n_1, Value.int IntKind.i64 n_2, Value.slice p n_3 c] (58 : Nat), OB.cells [Value.int IntKind.i64 y, Value.int IntKind.i64 n, Value.int IntKind.i64 n_1, Value.int IntKind.i64 n_2, Value.slice p n_3 c] (60 : Nat), OB.obj (Obj.map (Array.mk []) (0 : Nat))] w1 → ∃ (w1_1 : World), Sem.run Tryz.prog (Instr.mapUpdate (105 : Nat) (Value.map (some (w.heap.size + [OB.cells [Value.int IntKind.i64 n, Value.int IntKind.i64 n_1, Value.int IntKind.i64 n_2, Value.slice p n_3 c] (58 : Nat), OB.cells [Value.int IntKind.i64 y, Value.int IntKind.i64 n, Value.int IntKind.i64 n_1, Value.int IntKind.i64 n_2, Value.slice p n_3 c] (60 : Nat)].length))) (Value.int IntKind.i64 y) (Value.bool true)) w1 = Result.ok () w1_1 ∧ ∃ (I : Nat → List Value → World → Prop), (∃ (n_4 : Nat), I n_4 [Value.slice (some (Addr.mk (w.heap.size + [OB.cells [Value.int IntKind.i64 n, Value.int IntKind.i64 n_1, Value.int IntKind.i64 n_2, Value.slice p n_3 c] (58 : Nat)].length) (0 : Nat) none)) (1 : Nat) (1 : Nat), Value.int IntKind.i64 (0 : Int)] w1_1) ∧ ∀ (n_4 : Nat) (p_1 : Option Addr) (n_5 c_1 : Nat) (n_6 : Int) (w1 : World), I n_4 [Value.slice p_1 n_5 c_1, Value.int IntKind.i64 n_6] w1 → Br (decide (n_6 < (↑n_5 : Int))) (optP p_1 fun (a : Addr) => ((0 : Int) ≤ n_6 ∧ n_6 < (↑n_5 : Int)) ∧ ∃ (p_2 : Option Addr), ∃ (n_7 : Nat), ∃ (c_2 : Nat), w1.cell? (((a.add (n_6.toNat * (5 : Nat))).add (1 : Nat)).add (3 : Nat)) = some (Value.slice p_2 n_7 c_2) ∧ ∃ (I_1 : Nat → List Value → World → Prop), (∃ (n : Nat), I_1 n [Value.slice p_1 n_5 c_1, Value.int IntKind.i64 (0 : Int)] w1) ∧ ∀ (n_8 : Nat) (p_3 : Option Addr) (n_9 c_3 : Nat) (n_10 : Int) (w1 : World), I_1 n_8 [Value.slice p_3 n_9 c_3, Value.int IntKind.i64 n_10] w1 → Br (decide (n_10 < (↑n_7 : Int))) (optP p_2 fun (a : Addr) => ((0 : Int) ≤ n_10 ∧ n_10 < (↑n_7 : Int)) ∧ ∃ (n_11 : Int), w1.cell? (a.add (n_10.toNat * (1 : Nat))) = some (Value.int IntKind.i64 n_11) ∧ ∃ (b : Bool), Sem.run Tryz.prog (Instr.lookup (105 : Nat) (Value.map (some (w.heap.size + [OB.cells [Value.int IntKind.i64 n, Value.int IntKind.i64 n_1, Value.int IntKind.i64 n_2, Value.slice p n_3 c] (58 : Nat), OB.cells [Value.int IntKind.i64 y, Value.int IntKind.i64 n, Value.int IntKind.i64 n_1, Value.int IntKind.i64 n_2, Value.slice p n_3 c] (60 : Nat)].length))) (Value.int IntKind.i64 n_11) false) w1 = Result.ok (Value.bool b) w1 ∧ ∀ (J : List Value → World → Prop), (∀ (p : Option Addr) (n c : Nat) (w1 : World), (∃ (n' : Nat), n' < n_8 ∧ I_1 n' [Value.slice p n c, Value.int IntKind.i64 (IntKind.i64.wrap (n_10 + (1 : Int)))] w1) → J [Value.slice p n c] w1) → Br (!b) (∃ (w1_2 : World), Sem.run Tryz.prog (Instr.mapUpdate (105 : Nat) (Value.map (some (w.heap.size + [OB.cells [Value.int IntKind.i64 n, Value.int IntKind.i64 n_1, Value.int IntKind.i64 n_2, Value.slice p n_3 c] (58 : Nat), OB.cells [Value.int IntKind.i64 y, Value.int IntKind.i64 n, Value.int IntKind.i64 n_1, Value.int IntKind.i64 n_2, Value.slice p n_3 c] (60 : Nat)].length))) (Value.int IntKind.i64 n_11) (Value.bool true)) w1 = Result.ok () w1_2 ∧ CallsF Tryz.prog (37 : Nat) (Array.mk [Value.pointer (some x), Value.int IntKind.i64 n_11]) w1_2 fun (e : Ending) (w : World) => ∃ (n : Int), ∃ (n_12 : Int), ∃ (n_13 : Int), ∃ (p : Option Addr), ∃ (n_14 : Nat), ∃ (c : Nat), ∃ (b : Bool), e = Ending.returned (Value.tuple #[Value.agg #[Value.int IntKind.i64 n, Value.int IntKind.i64 n_12, Value.int IntKind.i64 n_13, Value.slice p n_14 c], Value.bool b]) ∧ ∀ (w1 : World), Ext w [OB.cells [Value.int IntKind.i64 n, Value.int IntKind.i64 n_12, Value.int IntKind.i64 n_13, Value.slice p n_14 c] (58 : Nat), OB.cells [Value.int IntKind.i64 n_11, Value.int IntKind.i64 n, Value.int IntKind.i64 n_12, Value.int IntKind.i64 n_13, Value.slice p n_14 c] (60 : Nat)] w1 → ∃ (w1_3 : World), ∃ (p_4 : Option Addr), ∃ (n_15 : Nat), ∃ (c_4 : Nat), Sem.run Tryz.prog (Builtin.append_ (Array.mk [(55 : Nat), (55 : Nat)]) (55 : Nat) (Array.mk [Value.slice p_3 n_9 c_3, Value.slice (some (Addr.mk (w.heap.size + [OB.cells [Value.int IntKind.i64 n, Value.int IntKind.i64 n_12, Value.int IntKind.i64 n_13, Value.slice p n_14 c] (58 : Nat)].length) (0 : Nat) none)) (1 : Nat) (1 : Nat)])) w1 = Result.ok (Value.slice p_4 n_15 c_4) w1_3 ∧ J [Value.slice p_4 n_15 c_4] w1_3) (J [Value.slice p_3 n_9 c_3] w1)) (∃ (n' : Nat), n' < n_4 ∧ I n' [Value.slice p_3 n_9 c_3, Value.int IntKind.i64 (IntKind.i64.wrap (n_6 + (1 : Int)))] w1)) (CallsF Tryz.prog (47 : Nat) (Array.mk [Value.slice p_1 n_5 c_1, Value.func (Fn.func (48 : Nat)) (Array.mk []) (Array.mk [])]) w1 fun (e : Ending) (w : World) => e = Ending.returned (Value.tuple #[]) ∧ R (Ending.returned (Value.slice p_1 n_5 c_1)) w))
theorem E_transform_cone (x : Addr) (y : Int) (w : World) (R : Ending → World → Prop) : shFn Tryz.prog Tryz.f26.ntmps Tryz.f26.results.toList (Tryz.f26.body.getD .skip) [Value.pointer (some x), Value.int IntKind.i64 y] w R = S_transform_cone x y w R := by kernel_rfl
theorem C_transform_cone (x : Addr) (y : Int) (w : World) (R : Ending → World → Prop) (h : S_transform_cone x y w R) : CallsF Tryz.prog 26 #[Value.pointer (some x), Value.int IntKind.i64 y] w R :=
 ⟨Tryz.call26, calls_of_sh A1G4mixed Tryz.func26 rfl (Nat.le_of_ble_eq_true rfl) ((E_transform_cone x y w R).mpr h)⟩

/-- credence/transform.cone$1 -/
def S_transform_cone_1 (x0 : Int) (x1 : Int) (x2 : Int) (x3 : Int) (x4 : Option Addr) (x4n : Nat) (x4c : Nat) (y0 : Int) (y1 : Int) (y2 : Int) (y3 : Int) (y4 : Option Addr) (y4n : Nat) (y4c : Nat) (w : World) (R : Ending → World → Prop) : Prop :=
 ∀ (w1 : World), Ext w [OB.cells [Value.int IntKind.i64 x0, Value.int IntKind.i64 x1, Value.int IntKind.i64 x2, Value.int IntKind.i64 x3, Value.slice x4 x4n x4c] (60 : Nat), OB.cells [Value.int IntKind.i64 y0, Value.int IntKind.i64 y1, Value.int IntKind.i64 y2, Value.int IntKind.i64 y3, Value.slice y4 y4n y4c] (60 : Nat)] w1 → R (Ending.returned (Value.int IntKind.i64 (IntKind.i64.wrap (x0 - y0)))) w1
theorem E_transform_cone_1 (x0 : Int) (x1 : Int) (x2 : Int) (x3 : Int) (x4 : Option Addr) (x4n : Nat) (x4c : Nat) (y0 : Int) (y1 : Int) (y2 : Int) (y3 : Int) (y4 : Option Addr) (y4n : Nat) (y4c : Nat) (w : World) (R : Ending → World → Prop) : shFn Tryz.prog Tryz.f48.ntmps Tryz.f48.results.toList (Tryz.f48.body.getD .skip) [Value.agg #[Value.int IntKind.i64 x0, Value.int IntKind.i64 x1, Value.int IntKind.i64 x2, Value.int IntKind.i64 x3,
 Value.slice x4 x4n x4c], Value.agg #[Value.int IntKind.i64 y0, Value.int IntKind.i64 y1, Value.int IntKind.i64 y2, Value.int IntKind.i64 y3,
 Value.slice y4 y4n y4c]] w R = S_transform_cone_1 x0 x1 x2 x3 x4 x4n x4c y0 y1 y2 y3 y4 y4n y4c w R := by kernel_rfl
theorem C_transform_cone_1 (x0 : Int) (x1 : Int) (x2 : Int) (x3 : Int) (x4 : Option Addr) (x4n : Nat) (x4c : Nat) (y0 : Int) (y1 : Int) (y2 : Int) (y3 : Int) (y4 : Option Addr) (y4n : Nat) (y4c : Nat) (w : World) (R : Ending → World → Prop) (h : S_transform_cone_1 x0 x1 x2 x3 x4 x4n x4c y0 y1 y2 y3 y4 y4n y4c w R) : CallsF Tryz.prog 48 #[Value.agg #[Value.int IntKind.i64 x0, Value.int IntKind.i64 x1, Value.int IntKind.i64 x2, Value.int IntKind.i64 x3,
 Value.slice x4 x4n x4c], Value.agg #[Value.int IntKind.i64 y0, Value.int IntKind.i64 y1, Value.int IntKind.i64 y2, Value.int IntKind.i64 y3,
 Value.slice y4 y4n y4c]] w R :=
 ⟨Tryz.call48, calls_of_sh A1G4mixed Tryz.func48 rfl (Nat.le_of_ble_eq_true rfl) ((E_transform_cone_1 x0 x1 x2 x3 x4 x4n x4c y0 y1 y2 y3 y4 y4n y4c w R).mpr h)⟩

/-- credence/transform.condition -/
def S_transform_condition (x : Addr) (y0 : Int) (y1 : Int) (y2 : Int) (y3 : Int) (y4 : Option Addr) (y4n : Nat) (y4c : Nat) (z : Option Nat) (u : Int) (v : Int) (w : World) (R : Ending → World → Prop) : Prop :=
 ∀ (w1 : World), Ext w [OB.cells [Value.int IntKind.i64 y0, Value.int IntKind.i64 y1, Value.int IntKind.i64 y2, Value.int IntKind.i64 y3, Value.slice y4 y4n y4c] (60 : Nat), OB.cells [Value.int IntKind.i64 y1, Value.int IntKind.i64 y2, Value.int IntKind.i64 y3, Value.slice y4 y4n y4c] (58 : Nat)] w1 → ∀ (J : List Value → World → Prop), (∀ (b : Bool) (w1 : World), Br b (∃ (n : Int), w1.cell? ((Addr.mk (w.heap.size + [OB.cells [Value.int IntKind.i64 y0, Value.int IntKind.i64 y1, Value.int IntKind.i64 y2, Value.int IntKind.i64 y3, Value.slice y4 y4n y4c] (60 : Nat)].length) (0 : Nat) none).add (2 : Nat)) = some (Value.int IntKind.i64 n) ∧ Br (n == v) (R (Ending.returned (Value.int IntKind.i64 (1 : Int))) w1) (R (Ending.returned (Value.int IntKind.i64 (0 : Int))) w1)) (∃ (p : Option Addr), ∃ (n : Nat), ∃ (c : Nat), w1.cell? ((Addr.mk (w.heap.size + [OB.cells [Value.int IntKind.i64 y0, Value.int IntKind.i64 y1, Value.int IntKind.i64 y2, Value.int IntKind.i64 y3, Value.slice y4 y4n y4c] (60 : Nat)].length) (0 : Nat) none).add (3 : Nat)) = some (Value.slice p n c) ∧ ∃ (w1_1 : World), ∃ (p : Option Addr), ∃ (n_1 : Nat), ∃ (c : Nat), Sem.run Tryz.prog (Instr.makeSlice (25 : Nat) (Value.int IntKind.i64 (↑n : Int)) (Value.int IntKind.i64 (↑n : Int))) w1 = Result.ok (Value.slice p n_1 c) w1_1 ∧ ∃ (p_1 : Option Addr), ∃ (n : Nat), ∃ (c_1 : Nat), w1_1.cell? ((Addr.mk (w.heap.size + [OB.cells [Value.int IntKind.i64 y0, Value.int IntKind.i64 y1, Value.int IntKind.i64 y2, Value.int IntKind.i64 y3, Value.slice y4 y4n y4c] (60 : Nat)].length) (0 : Nat) none).add (3 : Nat)) = some (Value.slice p_1 n c_1) ∧ ∃ (I : Nat → List Value → World → Prop), (∃ (n : Nat), I n [Value.bool false, Value.int IntKind.i64 (0 : Int)] w1_1) ∧ ∀ (n_2 : Nat) (b : Bool) (n_3 : Int) (w1 : World), I n_2 [Value.bool b, Value.int IntKind.i64 n_3] w1 → Br (decide (n_3 < (↑n : Int))) (optP p_1 fun (a : Addr) => ((0 : Int) ≤ n_3 ∧ n_3 < (↑n : Int)) ∧ ∃ (n : Int), w1.cell? (a.add (n_3.toNat * (1 : Nat))) = some (Value.int IntKind.i64 n) ∧ ∃ (n_4 : Int), Sem.run Tryz.prog (Instr.lookup (54 : Nat) (Value.map z) (Value.int IntKind.i64 n) false) w1 = Result.ok (Value.int IntKind.i64 n_4) w1 ∧ optP p fun (a : Addr) => ((0 : Int) ≤ n_3 ∧ n_3 < (↑n_1 : Int)) ∧ CanStore w1 (a.add (n_3.toNat * (1 : Nat))) (0 : Nat) [Value.int IntKind.i64 n_4] ∧ ∀ (w1_2 : World), SetC w1 (a.add (n_3.toNat * (1 : Nat))) [Value.int IntKind.i64 n_4] w1_2 → ∀ (J : List Value → World → Prop), (∀ (b : Bool) (w1 : World), (∃ (n' : Nat), n' < n_2 ∧ I n' [Value.bool b, Value.int IntKind.i64 (IntKind.i64.wrap (n_3 + (1 : Int)))] w1) → J [Value.bool b] w1) → Br b (J [Value.bool true] w1_2) (optP p fun (a : Addr) => ((0 : Int) ≤ n_3 ∧ n_3 < (↑n_1 : Int)) ∧ ∃ (n_5 : Int), w1_2.cell? (a.add (n_3.toNat * (1 : Nat))) = some (Value.int IntKind.i64 n_5) ∧ J [Value.bool (n_5 != n)] w1_2)) (Br (!b) (∃ (n : Int), w1.cell? ((Addr.mk (w.heap.size + (0 : Nat)) (0 : Nat) none).add (0 : Nat)) = some (Value.int IntKind.i64 n) ∧ R (Ending.returned (Value.int IntKind.i64 n)) w1) (∃ (n : Int), w1.cell? ((Addr.mk (w.heap.size + [OB.cells [Value.int IntKind.i64 y0, Value.int IntKind.i64 y1, Value.int IntKind.i64 y2, Value.int IntKind.i64 y3, Value.slice y4 y4n y4c] (60 : Nat)].length) (0 : Nat) none).add (0 : Nat)) = some (Value.int IntKind.i64 n) ∧ Br (n == (3 : Int)) (optP p fun (a : Addr) => ((0 : Int) ≤ (0 : Int) ∧ (0 : Int) < (↑n_1 : Int)) ∧ ∃ (n : Int), w1.cell? (a.add (0 : Nat)) = some (Value.int IntKind.i64 n) ∧ CallsF Tryz.prog (16 : Nat) (Array.mk [Value.pointer (some x), Value.int IntKind.i64 n]) w1 fun (e : Ending) (w : World) => ∃ (n : Int), e = Ending.returned (Value.int IntKind.i64 n) ∧ R (Ending.returned (Value.int IntKind.i64 n)) w) (Br (n == (4 : Int)) (CallsF Tryz.prog (15 : Nat) (Array.mk [Value.pointer (some x), Value.slice p n_1 c]) w1 fun (e : Ending) (w : World) => ∃ (n : Int), e = Ending.returned (Value.int IntKind.i64 n) ∧ R (Ending.returned (Value.int IntKind.i64 n)) w) (Br (n == (5 : Int)) (CallsF Tryz.prog (18 : Nat) (Array.mk [Value.pointer (some x), Value.slice p n_1 c]) w1 fun (e : Ending) (w : World) => ∃ (n : Int), e = Ending.returned (Value.int IntKind.i64 n) ∧ R (Ending.returned (Value.int IntKind.i64 n)) w) (∃ (n : Int), w1.cell? ((Addr.mk (w.heap.size + (0 : Nat)) (0 : Nat) none).add (0 : Nat)) = some (Value.int IntKind.i64 n) ∧ R (Ending.returned (Value.int IntKind.i64 n)) w1)))))) → J [Value.bool b] w1) → ∃ (n : Int), w1.cell? ((Addr.mk (w.heap.size + [OB.cells [Value.int IntKind.i64 y0, Value.int IntKind.i64 y1, Value.int IntKind.i64 y2, Value.int IntKind.i64 y3, Value.slice y4 y4n y4c] (60 : Nat)].length) (0 : Nat) none).add (0 : Nat)) = some (Value.int IntKind.i64 n) ∧ Br (n == (2 : Int)) (∃ (n : Int), w1.cell? ((Addr.mk (w.heap.size + [OB.cells [Value.int IntKind.i64 y0, Value.int IntKind.i64 y1, Value.int IntKind.i64 y2, Value.int IntKind.i64 y3, Value.slice y4 y4n y4c] (60 : Nat)].length) (0 : Nat) none).add (1 : Nat)) = some (Value.int IntKind.i64 n) ∧ J [Value.bool (n == u)] w1) (J [Value.bool false] w1)
theorem E_transform_condition (x : Addr) (y0 : Int) (y1 : Int) (y2 : Int) (y3 : Int) (y4 : Option Addr) (y4n : Nat) (y4c : Nat) (z : Option Nat) (u : Int) (v : Int) (w : World) (R : Ending → World → Prop) : shFn Tryz.prog Tryz.f27.ntmps Tryz.f27.results.toList (Tryz.f27.body.getD .skip) [Value.pointer (some x), Value.agg #[Value.int IntKind.i64 y0, Value.int IntKind.i64 y1, Value.int IntKind.i64 y2, Value.int IntKind.i64 y3,
 Value.slice y4 y4n y4c], Value.map z, Value.int IntKind.i64 u, Value.int IntKind.i64 v] w R = S_transform_condition x y0 y1 y2 y3 y4 y4n y4c z u v w R := by kernel_rfl
theorem C_transform_condition (x : Addr) (y0 : Int) (y1 : Int) (y2 : Int) (y3 : Int) (y4 : Option Addr) (y4n : Nat) (y4c : Nat) (z : Option Nat) (u : Int) (v : Int) (w : World) (R : Ending → World → Prop) (h : S_transform_condition x y0 y1 y2 y3 y4 y4n y4c z u v w R) : CallsF Tryz.prog 27 #[Value.pointer (some x), Value.agg #[Value.int IntKind.i64 y0, Value.int IntKind.i64 y1, Value.int IntKind.i64 y2, Value.int IntKind.i64 y3,
 Value.slice y4 y4n y4c], Value.map z, Value.int IntKind.i64 u, Value.int IntKind.i64 v] w R :=
 ⟨Tryz.call27, calls_of_sh A1G4mixed Tryz.func27 rfl (Nat.le_of_ble_eq_true rfl) ((E_transform_condition x y0 y1 y2 y3 y4 y4n y4c z u v w R).mpr h)⟩

/-- credence/transform.Condition -/
def S_transform_Condition (x : Addr) (y : Int) (z : Int) (u : Int) (w : World) (R : Ending → World → Prop) : Prop :=
 ∀ (w1 : World), Ext w [OB.obj (Obj.map (Array.mk []) (0 : Nat))] w1 → CallsF Tryz.prog (26 : Nat) (Array.mk [Value.pointer (some x), Value.int IntKind.i64 y]) w1 fun (e : Ending) (w_1 : World) => ∃ (p : Option Addr), ∃ (n : Nat), ∃ (c : Nat), e = Ending.returned (Value.slice p n c) ∧ ∃ (I : Nat → List Value → World → Prop), (∃ (n : Nat), I n [Value.int IntKind.i64 (-1 : Int), Value.int IntKind.i64 (0 : Int), Value.int IntKind.i64 (0 : Int)] w_1) ∧ ∀ (n_1 : Nat) (n_2 n_3 n_4 : Int) (w1 : World), I n_1 [Value.int IntKind.i64 n_2, Value.int IntKind.i64 n_3, Value.int IntKind.i64 n_4] w1 → Br (decide (n_4 < (↑n : Int))) (optP p fun (a : Addr) => ((0 : Int) ≤ n_4 ∧ n_4 < (↑n : Int)) ∧ ∃ (n : Int), ∃ (n_5 : Int), ∃ (n_6 : Int), ∃ (n_7 : Int), ∃ (p : Option Addr), ∃ (n_8 : Nat), ∃ (c : Nat), CellsAre w1 (a.add (n_4.toNat * (5 : Nat))) (0 : Nat) [Value.int IntKind.i64 n, Value.int IntKind.i64 n_5, Value.int IntKind.i64 n_6, Value.int IntKind.i64 n_7, Value.slice p n_8 c] ∧ ∀ (w1_1 : World), Ext w1 [OB.cells [Value.int IntKind.i64 n, Value.int IntKind.i64 n_5, Value.int IntKind.i64 n_6, Value.int IntKind.i64 n_7, Value.slice p n_8 c] (60 : Nat)] w1_1 → CallsF Tryz.prog (27 : Nat) (Array.mk [Value.pointer (some x), Value.agg (Array.mk [Value.int IntKind.i64 n, Value.int IntKind.i64 n_5, Value.int IntKind.i64 n_6, Value.int IntKind.i64 n_7, Value.slice p n_8 c]), Value.map (some (w.heap.size + (0 : Nat))), Value.int IntKind.i64 z, Value.int IntKind.i64 u]) w1_1 fun (e : Ending) (w_2 : World) => ∃ (n : Int), e = Ending.returned (Value.int IntKind.i64 n) ∧ Br (decide (n < (0 : Int))) (R (Ending.returned (Value.int IntKind.i64 (-1 : Int))) w_2) (∃ (n_9 : Int), w_2.cell? ((Addr.mk (w1.heap.size + (0 : Nat)) (0 : Nat) none).add (0 : Nat)) = some (Value.int IntKind.i64 n_9) ∧ ∃ (w1 : World), Sem.run Tryz.prog (Instr.mapUpdate (54 : Nat) (Value.map (some (w.heap.size + (0 : Nat)))) (Value.int IntKind.i64 n_9) (Value.int IntKind.i64 n)) w_2 = Result.ok () w1 ∧ ∃ (n' : Nat), n' < n_1 ∧ I n' [Value.int IntKind.i64 n, Value.int IntKind.i64 n_3, Value.int IntKind.i64 (IntKind.i64.wrap (n_4 + (1 : Int)))] w1)) (R (Ending.returned (Value.int IntKind.i64 n_2)) w1)
theorem E_transform_Condition (x : Addr) (y : Int) (z : Int) (u : Int) (w : World) (R : Ending → World → Prop) : shFn Tryz.prog Tryz.f8.ntmps Tryz.f8.results.toList (Tryz.f8.body.getD .skip) [Value.pointer (some x), Value.int IntKind.i64 y, Value.int IntKind.i64 z, Value.int IntKind.i64 u] w R = S_transform_Condition x y z u w R := by kernel_rfl
theorem C_transform_Condition (x : Addr) (y : Int) (z : Int) (u : Int) (w : World) (R : Ending → World → Prop) (h : S_transform_Condition x y z u w R) : CallsF Tryz.prog 8 #[Value.pointer (some x), Value.int IntKind.i64 y, Value.int IntKind.i64 z, Value.int IntKind.i64 u] w R :=
 ⟨Tryz.call8, calls_of_sh A1G4mixed Tryz.func8 rfl (Nat.le_of_ble_eq_true rfl) ((E_transform_Condition x y z u w R).mpr h)⟩

/-- credence/transform.Support -/
def S_transform_Support (x : Addr) (y : Int) (w : World) (R : Ending → World → Prop) : Prop :=
 CallsF Tryz.prog (26 : Nat) (Array.mk [Value.pointer (some x), Value.int IntKind.i64 y]) w fun (e : Ending) (w : World) => ∃ (p : Option Addr), ∃ (n : Nat), ∃ (c : Nat), e = Ending.returned (Value.slice p n c) ∧ ∃ (I : Nat → List Value → World → Prop), (∃ (n : Nat), I n [Value.slice none (0 : Nat) (0 : Nat), Value.int IntKind.i64 (0 : Int)] w) ∧ ∀ (n_1 : Nat) (p_1 : Option Addr) (n_2 c : Nat) (n_3 : Int) (w1 : World), I n_1 [Value.slice p_1 n_2 c, Value.int IntKind.i64 n_3] w1 → Br (decide (n_3 < (↑n : Int))) (optP p fun (a : Addr) => ((0 : Int) ≤ n_3 ∧ n_3 < (↑n : Int)) ∧ ∃ (n : Int), ∃ (n_4 : Int), ∃ (n_5 : Int), ∃ (n_6 : Int), ∃ (p : Option Addr), ∃ (n_7 : Nat), ∃ (c_1 : Nat), CellsAre w1 (a.add (n_3.toNat * (5 : Nat))) (0 : Nat) [Value.int IntKind.i64 n, Value.int IntKind.i64 n_4, Value.int IntKind.i64 n_5, Value.int IntKind.i64 n_6, Value.slice p n_7 c_1] ∧ ∀ (w1_1 : World), Ext w1 [OB.cells [Value.int IntKind.i64 n, Value.int IntKind.i64 n_4, Value.int IntKind.i64 n_5, Value.int IntKind.i64 n_6, Value.slice p n_7 c_1] (60 : Nat)] w1_1 → ∀ (J : List Value → World → Prop), (∀ (p : Option Addr) (n c : Nat) (w1 : World), (∃ (n' : Nat), n' < n_1 ∧ I n' [Value.slice p n c, Value.int IntKind.i64 (IntKind.i64.wrap (n_3 + (1 : Int)))] w1) → J [Value.slice p n c] w1) → Br (n_4 == (2 : Int)) (∃ (n : Int), w1_1.cell? (((Addr.mk (w1.heap.size + (0 : Nat)) (0 : Nat) none).add (1 : Nat)).add (1 : Nat)) = some (Value.int IntKind.i64 n) ∧ ∀ (w1 : World), Ext w1_1 [OB.cells [Value.int IntKind.i64 n] (3 : Nat)] w1 → ∃ (w1_2 : World), ∃ (p : Option Addr), ∃ (n : Nat), ∃ (c_2 : Nat), Sem.run Tryz.prog (Builtin.append_ (Array.mk [(25 : Nat), (25 : Nat)]) (25 : Nat) (Array.mk [Value.slice p_1 n_2 c, Value.slice (some (Addr.mk (w1_1.heap.size + (0 : Nat)) (0 : Nat) none)) (1 : Nat) (1 : Nat)])) w1 = Result.ok (Value.slice p n c_2) w1_2 ∧ J [Value.slice p n c_2] w1_2) (J [Value.slice p_1 n_2 c] w1_1)) (CallsF Tryz.prog (28 : Nat) (Array.mk [Value.slice p_1 n_2 c]) w1 fun (e : Ending) (w : World) => e = Ending.returned (Value.tuple #[]) ∧ CallsF Tryz.prog (29 : Nat) (Array.mk [Value.slice p_1 n_2 c]) w fun (e : Ending) (w : World) => ∃ (p : Option Addr), ∃ (n : Nat), ∃ (c : Nat), e = Ending.returned (Value.slice p n c) ∧ R (Ending.returned (Value.slice p n c)) w)
theorem E_transform_Support (x : Addr) (y : Int) (w : World) (R : Ending → World → Prop) : shFn Tryz.prog Tryz.f9.ntmps Tryz.f9.results.toList (Tryz.f9.body.getD .skip) [Value.pointer (some x), Value.int IntKind.i64 y] w R = S_transform_Support x y w R := by kernel_rfl
theorem C_transform_Support (x : Addr) (y : Int) (w : World) (R : Ending → World → Prop) (h : S_transform_Support x y w R) : CallsF Tryz.prog 9 #[Value.pointer (some x), Value.int IntKind.i64 y] w R :=
 ⟨Tryz.call9, calls_of_sh A1G4mixed Tryz.func9 rfl (Nat.le_of_ble_eq_true rfl) ((E_transform_Support x y w R).mpr h)⟩

/-- credence/transform.Size -/
def S_transform_Size (x : Addr) (y : Int) (w : World) (R : Ending → World → Prop) : Prop :=
 CallsF Tryz.prog (26 : Nat) (Array.mk [Value.pointer (some x), Value.int IntKind.i64 y]) w fun (e : Ending) (w : World) => ∃ (p : Option Addr), ∃ (n : Nat), ∃ (c : Nat), e = Ending.returned (Value.slice p n c) ∧ R (Ending.returned (Value.int IntKind.i64 (↑n : Int))) w
theorem E_transform_Size (x : Addr) (y : Int) (w : World) (R : Ending → World → Prop) : shFn Tryz.prog Tryz.f19.ntmps Tryz.f19.results.toList (Tryz.f19.body.getD .skip) [Value.pointer (some x), Value.int IntKind.i64 y] w R = S_transform_Size x y w R := by kernel_rfl
theorem C_transform_Size (x : Addr) (y : Int) (w : World) (R : Ending → World → Prop) (h : S_transform_Size x y w R) : CallsF Tryz.prog 19 #[Value.pointer (some x), Value.int IntKind.i64 y] w R :=
 ⟨Tryz.call19, calls_of_sh A1G4mixed Tryz.func19 rfl (Nat.le_of_ble_eq_true rfl) ((E_transform_Size x y w R).mpr h)⟩


end Go.Proofs.YtajfdcbknghipaaGreatDoor
end

section
/- transform.cone: the nodes that a node uses, with their numbers, ascending. Conditions on memory as stated. -/
namespace Go.Proofs.YtajfdcbknghipaaGreatDoor
open Go Go.Sh Go.Fm

variable {w : World} {s : Addr} {L : List Nd} {d : SD}

abbrev Mem := Nat × Option Addr
def memC (L : List Nd) (m : Mem) : List Value := .int .i64 (m.1 : Nat) :: ndC (nodeAt L m.1) m.2
theorem memC_len (L : List Nd) (m : Mem) : (memC L m).length = 5 := rfl
theorem memC_one (L : List Nd) (m : Mem) : ∀ u ∈ memC L m, u.oneCell' = true := by
  intro u hu
  simp only [memC, ndC, List.mem_cons, List.not_mem_nil, or_false] at hu
  rcases hu with rfl | rfl | rfl | rfl | rfl <;> rfl
theorem elem_member : ElemOK Tryz.prog 55 60 5 56 (.agg #[.int .i64 0, .int .i64 0, .int .i64 0, .int .i64 0, .slice none 0 0]) := elem_of (by kernel_rfl) (by kernel_rfl) rfl (by decide)

abbrev MemF := Fin 1048576 × Option Addr
def encMF (L : List Nd) (m : MemF) : List Value := memC L (m.1.val, m.2)
def cfMF (a b : MemF) : Int := (a.1.val : Int) - (b.1.val : Int)
theorem swoMF : Sort.SWO (ltOf cfMF) where
  irrefl x := by unfold ltOf cfMF; simp
  trans x y z h1 h2 := by unfold ltOf cfMF at *; simp at *; omega
  ntrans x y z h1 h2 := by unfold ltOf cfMF at *; simp at *; omega
theorem cone1_lays (L : List Nd) (blk off size : Nat) (w : World) : CmpLays Tryz.prog 48 #[] (encMF L) 5 cfMF blk off size w := by
  intro m os dk _ x y
  generalize sortWorldK (encMF L) 5 w blk off m dk os = W
  refine (C_transform_cone_1 _ _ _ _ _ _ _ _ _ _ _ _ _ _ W _ ?_).2
  intro w1 hw1
  have hx := x.1.isLt
  have hy := y.1.isLt
  refine ⟨?_, 0, #[(OB.cells (encMF L x) 60).toObj, (OB.cells (encMF L y) 60).toObj], ?_⟩
  · show Ending.returned (.int .i64 (IntKind.i64.wrap ((x.1.val : Int) - (y.1.val : Int)))) = _
    rw [wrap_i64 (by omega) (by omega)]; rfl
  · unfold Ext at hw1
    rw [hw1]
    show ((W.alloc _).alloc _) = _
    rw [Sort.alloc_eq_grow, Sort.alloc_eq_grow, Sort.grow_grow]
    rfl

theorem sortMem_ok {p : Option Addr} {c : Nat} {M : List Mem} (h : Own w 60 5 p M.length c (M.flatMap (memC L))) (hne : M ≠ []) (hb : ∀ m ∈ M, m.1 < 1048576) (hbig : M.length < 4611686018427387904) :
    CallsF Tryz.prog 47 #[.slice p M.length c, .func (.func 48) #[] #[]] w fun e w' => e = .returned (.tuple #[]) ∧ ∃ M' : List Mem, M'.Perm M ∧ M'.Pairwise (fun a b => a.1 ≤ b.1) ∧ Own w' 60 5 p M.length c (M'.flatMap (memC L)) ∧ Mod (At p) w w' := by
  let tf : Mem → MemF := fun m => (Fin.ofNat 1048576 m.1, m.2)
  let ft : MemF → Mem := fun m => (m.1.val, m.2)
  have hround : M.map (fun m => ft (tf m)) = M := by
    conv => rhs; rw [← List.map_id M]
    refine List.map_congr_left fun m hm => ?_
    have := hb m hm
    show ((Fin.ofNat 1048576 m.1).val, m.2) = m
    rw [Fin.val_ofNat, Nat.mod_eq_of_lt this]
  have hcells : (M.map tf).flatMap (encMF L) = M.flatMap (memC L) := by
    rw [List.flatMap_map]
    conv => rhs; rw [← hround, List.flatMap_map]
    rfl
  have hlen : (M.map tf).length = M.length := List.length_map ..
  rcases h.form with ⟨_, h0, _⟩ | ⟨g, rest, rfl, _⟩
  · exact absurd (List.eq_nil_of_length_eq_zero h0) hne
  have h' : Own w 60 5 (some ⟨g, 0, none⟩) M.length c ((M.map tf).flatMap (encMF L)) := by rw [hcells]; exact h
  obtain ⟨hH, hlt, _⟩ := h'.holdsK (fun x => memC_len L _) (by decide)
  have hle := h.le
  have hmax : maxLen = 9223372036854775807 := rfl
  refine ⟨Tryz.call47, ?_⟩
  have hsz : (M.map tf).toArray.size = M.length := by simp
  · have key := AnyQ.slices_SortFunc Tryz.sortMember 5 Tryz.isAgg60 Tryz.sizeOf60 (encMF L) (fun x => memC_len L _) (fun x => memC_one L _) cfMF swoMF 48 #[] g 0 c (M.map tf).toArray w Tryz.call48 (cone1_lays L g 0 _ w) hH hlt (by rw [hsz]; exact hbig)
    rw [hsz] at key
    refine Calls.mono key ?_
    rintro e w' ⟨rfl, d', q, os, hperm, hsort, hw'⟩
    have hd : d'.size = (M.map tf).length := by rw [hperm.1]; simp
    obtain ⟨ho, hm⟩ := h'.sortedK (fun x => memC_len L _) (by decide) hd hw'
    refine ⟨rfl, d'.toList.map ft, ?_, ?_, ?_, hm⟩
    · have hp := hperm.2.2
      have e1 : d'.extract 0 M.length = d' := by
        have : M.length = d'.size := by rw [hd, hlen]
        rw [this]; simp
      have e2 : (M.map tf).toArray.extract 0 M.length = (M.map tf).toArray := by
        have : M.length = (M.map tf).toArray.size := hsz.symm
        rw [this, Array.extract_size]
      rw [e1, e2] at hp
      have hp2 := hp.map ft
      rw [List.toList_toArray, List.map_map] at hp2
      have e3 : M.map (ft ∘ tf) = M := hround
      rw [e3] at hp2
      exact hp2
    · rw [List.pairwise_map, List.pairwise_iff_getElem]
      intro i j hi hj hij
      have hi' : i < d'.size := by simpa using hi
      have hj' : j < d'.size := by simpa using hj
      have := hsort i j (Nat.zero_le _) hij (by rw [← hlen, ← hd]; exact hj')
      rw [getElem!_pos d' j hj', getElem!_pos d' i hi'] at this
      unfold ltOf cfMF at this
      simp only [decide_eq_false_iff_not] at this
      show (d'.toList[i].1.val) ≤ d'.toList[j].1.val
      simp only [Array.getElem_toList]
      omega
    · have : (d'.toList.map ft).flatMap (memC L) = d'.toList.flatMap (encMF L) := by rw [List.flatMap_map]; rfl
      rw [this]; exact ho

end Go.Proofs.YtajfdcbknghipaaGreatDoor
end

section
/- transform.cone, walked. Conditions on memory as stated. -/
namespace Go.Proofs.YtajfdcbknghipaaGreatDoor
open Go Go.Sh Go.Fm

variable {w : World} {s : Addr} {L : List Nd} {d : SD}

theorem asc_unique_le {M : List Mem} {l : List Nat} (hp : (M.map Prod.fst).Perm l) (hn : l.Nodup) (hs : M.Pairwise fun a b => a.1 ≤ b.1) : M.map Prod.fst = srt l := by
  have hnd : (M.map Prod.fst).Nodup := hp.nodup_iff.2 hn
  refine srt_eq ?_ fun x => hp.mem_iff
  have h1 : (M.map Prod.fst).Pairwise (· ≤ ·) := by rw [List.pairwise_map]; exact hs
  exact (h1.and hnd).imp fun h => by have h2 := h.1; have h3 := h.2; omega

/-- The members lie at p, their inputs in blocks of their own, all at or behind B. -/
structure ConeM (B : Nat) (w : World) (L : List Nd) (p : Option Addr) (c : Nat) (M : List Mem) : Prop where
  own : Own w 60 5 p M.length c (M.flatMap (memC L))
  ge : ∀ b, At p b → B ≤ b
  ins : ∀ m ∈ M, InsM B w m.2 (nodeAt L m.1).ins
  sep : ∀ m ∈ M, ∀ b, At m.2 b → ¬ At p b
theorem ConeM.keep {B : Nat} {p : Option Addr} {c : Nat} {M : List Mem} {fp : Nat → Prop} {w' : World} (h : ConeM B w L p c M) (hm : Mod fp w w') (hn : ∀ b, B ≤ b → b < w.heap.size → ¬ fp b) : ConeM B w' L p c M :=
  ⟨h.own.keep hm fun b hb => hn b (h.ge b hb) (h.own.lt b hb), h.ge, fun m hm' => (h.ins m hm').keep hm fun b hb => hn b ((h.ins m hm').ge b hb) (Own.lt (h.ins m hm').own b hb), h.sep⟩
theorem ConeM.cell {B : Nat} {p : Option Addr} {c : Nat} {M : List Mem} (h : ConeM B w L p c M) {i : Nat} {m : Mem} (hi : M[i]? = some m) : ∃ a, p = some a ∧ CellsAre w (a.add (i * 5)) 0 (memC L m) ∧ ∀ j v, (memC L m)[j]? = some v → w.cell? (a.add (i * 5 + j)) = some v := by
  have hg : ∀ j, j < 5 → (M.flatMap (memC L))[i * 5 + j]? = (memC L m)[j]? := fun j hj => by rw [flatMap_get (memC L) (memC_len L) M i j hj, hi]; rfl
  obtain ⟨a, ha, _⟩ := h.own.row.at (i := i * 5 + 0) (v := .int .i64 m.1) (by rw [hg 0 (by omega)]; rfl)
  have hr := h.own.row
  rw [ha] at hr
  have hlt : ∀ j v, (memC L m)[j]? = some v → j < 5 := fun j v hj => by have := (List.getElem?_eq_some_iff.1 hj).1; rw [memC_len] at this; exact this
  refine ⟨a, ha, hr.cells _ _ _ fun j v hj => by rw [Nat.add_zero, hg j (hlt j v hj)]; exact hj, fun j v hj => ?_⟩
  obtain ⟨a', ha', hc⟩ := hr.at (i := i * 5 + j) (v := v) (by rw [hg j (hlt j v hj)]; exact hj)
  injection ha' with ha'
  subst ha'
  exact hc

theorem tcone_ok (h : StM w s L d) (hok : ∀ i n, L[i]? = some n → NdOK i n) (hL : L.length ≤ 5000) {a : Nat} (ha : a < L.length) :
    CallsF Tryz.prog 26 #[.pointer (some s), .int .i64 a] w fun e w' => ∃ (p : Option Addr) (c : Nat) (M : List Mem), e = .returned (.slice p M.length c) ∧ M.map Prod.fst = coneL L a ∧ ConeM w.heap.size w' L p c M ∧ Mod NoB w w' := by
  refine C_transform_cone _ _ _ _ ?_
  have hna : L[a]? = some L[a] := List.getElem?_eq_getElem ha
  generalize L[a] = na at hna
  refine (node_ok h hok (by omega) hna).mono ?_
  rintro e w1 ⟨q0, rfl, hins1, hm1⟩
  refine ⟨_, _, _, _, _, _, _, rfl, Br_false rfl ?_⟩
  intro w2 hw2
  have hs1 := hm1.size
  have hs2 := hw2.size
  simp only [List.length_cons, List.length_nil] at hs2
  have hm02 := hm1.then hw2.mod
  have hmap2 : MapM encI w2 (w1.heap.size + 2) (setM []) := hw2.mapM 2 rfl encI
  have hown2 : Own w2 60 5 (some ⟨w1.heap.size + 1, 0, none⟩) 1 1 (memC L (a, q0)) := by
    have : Blk w2 (w1.heap.size + 1) (memC L (a, q0)) 60 := by
      have := hw2.blk 1 (cs := memC L (a, q0)) (t := 60) (by unfold memC ndC; rw [nodeAt_eq hna]; rfl)
      exact this
    exact Own.of_blk (rest := []) (by rw [List.append_nil]; exact this) (Nat.le_refl _) (by decide) rfl rfl
  have hq0 : ∀ b, At q0 b → b < w1.heap.size := Own.lt hins1.own
  obtain ⟨w3, hup, hmap3, hm3⟩ := seen_add hmap2 (x := a) (by simp)
  refine ⟨w3, hup, ?_⟩
  have hr : w.heap.size ≤ w1.heap.size + 2 := by omega
  have hm03 : Mod NoB w w3 := hm02.new _ hm3 fun x hx e => by have e' : x = w1.heap.size + 2 := e; omega
  -- r: the map's block
  generalize hrr : w1.heap.size + 2 = r at hmap3 hm3 hr ⊢
  have hmap2r : w1.heap.size + 1 ≠ r := by omega
  refine ⟨fun m vs w' => ∃ (M : List Mem) (next : Nat) (p : Option Addr) (c : Nat), m = L.length - next ∧ next ≤ M.length ∧ vs = [.slice p M.length c, .int .i64 next] ∧ ConeM w.heap.size w' L p c M ∧ ¬ At p r ∧ (∀ m ∈ M, ¬ At m.2 r) ∧
      MapM encI w' r (setM (M.map Prod.fst)) ∧ (M.map Prod.fst).Nodup ∧ (∀ x ∈ M.map Prod.fst, x ∈ coneL L a) ∧ a ∈ M.map Prod.fst ∧ (∀ j x, j < next → (M.map Prod.fst)[j]? = some x → ∀ n, L[x]? = some n → ∀ y ∈ n.ins, y ∈ M.map Prod.fst) ∧ Mod NoB w w',
    ⟨_, [(a, q0)], 0, some ⟨w1.heap.size + 1, 0, none⟩, 1, rfl, Nat.zero_le _, rfl, ⟨?_, ?_, ?_, ?_⟩, ?_, ?_, hmap3, by simp, ?_, by simp, fun j x hj => by omega, hm03⟩, ?_⟩
  · have : [(a, q0)].flatMap (memC L) = memC L (a, q0) := by rw [List.flatMap_cons, List.flatMap_nil, List.append_nil]
    rw [this]
    exact hown2.keep hm3 fun b hb e => by rw [at_some] at hb; have e' : b = r := e; omega
  · intro b hb; rw [at_some] at hb; omega
  · intro m hm
    simp only [List.mem_singleton] at hm
    subst hm
    rw [nodeAt_eq hna]
    exact (hins1.keep hw2.mod fun _ _ => NoB.not).keep hm3 fun b hb e => by have := hq0 b hb; have e' : b = r := e; omega
  · intro m hm b hb hb'
    simp only [List.mem_singleton] at hm
    subst hm
    rw [at_some] at hb'
    have := hq0 b hb; omega
  · rw [at_some]; omega
  · intro m hm hb
    simp only [List.mem_singleton] at hm
    subst hm
    have := hq0 _ hb; omega
  · intro x hx
    simp only [List.map_cons, List.map_nil, List.mem_singleton] at hx
    subst hx; exact cone_self hok ha
  rintro m p n' c next' w4 ⟨M, next, p', c', rfl, hnext, hvs, hcone4, hpr4, hqr4, hmap4, hnd, hsub, hal, hcl, hmod4⟩
  simp only [List.cons.injEq, Value.int.injEq, Value.slice.injEq, true_and, and_true] at hvs
  obtain ⟨⟨rfl, rfl, rfl⟩, rfl⟩ := hvs
  have hltL : ∀ x ∈ M.map Prod.fst, x < L.length := fun x hx => by have := cone_le hok a ha (hsub x hx); omega
  have hlen : M.length ≤ L.length := by have := nodup_lenLe hnd hltL; rw [List.length_map] at this; exact this
  refine Br_dec (fun hlt => ?_) fun hge => ?_
  rotate_left
  · have hnl : next = M.length := by omega
    subst hnl
    have hne : M ≠ [] := fun e => by rw [e] at hal; cases hal
    refine (sortMem_ok hcone4.own hne (fun m hm => by have := hltL m.1 (List.mem_map.2 ⟨m, hm, rfl⟩); omega) (by omega)).mono ?_
    rintro e w5 ⟨rfl, M', hperm, hsort, hown5, hmod5⟩
    have e1 := asc_unique_le (hperm.map Prod.fst) hnd hsort
    have e2 : srt (M.map Prod.fst) = coneL L a := cone_of_closed hok ha hal (fun x hx m hm y hy => by
      obtain ⟨j, hj⟩ := List.getElem?_of_mem hx
      exact hcl j x (by have := (List.getElem?_eq_some_iff.1 hj).1; rw [List.length_map] at this; exact this) hj m hm y hy) hsub
    have e3 := hperm.length_eq
    refine ⟨rfl, p, c, M', by rw [e3], by rw [e1, e2], ⟨?_, hcone4.ge, ?_, ?_⟩, hmod4.new _ hmod5 fun x hx hp => by have := hcone4.ge x hp; omega⟩
    · rw [e3]; exact hown5
    · intro m hm
      have hm' := hperm.mem_iff.1 hm
      exact (hcone4.ins m hm').keep hmod5 fun b hb hp => hcone4.sep m hm' b hb hp
    · intro m hm; exact hcone4.sep m (hperm.mem_iff.1 hm)
  have hm : M[next]? = some (M[next]'(by omega)) := List.getElem?_eq_getElem (by omega)
  have hmm : M[next]'(by omega) ∈ M := List.getElem_mem _
  generalize M[next]'(by omega) = mm at hm hmm
  obtain ⟨x, qx⟩ := mm
  have hxm : x ∈ M.map Prod.fst := List.mem_map.2 ⟨_, hmm, rfl⟩
  have hxL := hltL x hxm
  have hn : L[x]? = some L[x] := List.getElem?_eq_getElem hxL
  generalize L[x] = nd at hn
  have hnok := hok x nd hn
  have hnlen := hnok.len
  obtain ⟨ap, hpa, _, hcell⟩ := hcone4.cell hm
  have hinsx := hcone4.ins _ hmm
  have hna2 : nodeAt L (x, qx).1 = nd := nodeAt_eq hn
  rw [hna2] at hinsx
  refine optP_intro hpa ⟨⟨by omega, by omega⟩, qx, nd.ins.length, nd.ins.length, ?_, ?_⟩
  · rw [add_add, add_add, Int.toNat_natCast]
    exact hcell 4 _ (by unfold memC ndC; rw [hna2]; rfl)
  refine ⟨fun m vs w' => ∃ (M2 : List Mem) (k : Nat) (p2 : Option Addr) (c2 : Nat), m = nd.ins.length - k ∧ k ≤ nd.ins.length ∧ vs = [.slice p2 M2.length c2, .int .i64 k] ∧ (∃ e, M2 = M ++ e) ∧ ConeM w.heap.size w' L p2 c2 M2 ∧ ¬ At p2 r ∧ (∀ m ∈ M2, ¬ At m.2 r) ∧
      MapM encI w' r (setM (M2.map Prod.fst)) ∧ (M2.map Prod.fst).Nodup ∧ (∀ x ∈ M2.map Prod.fst, x ∈ coneL L a) ∧ (∀ j y, j < k → nd.ins[j]? = some y → y ∈ M2.map Prod.fst) ∧ Mod NoB w w',
    ⟨_, M, 0, p, c, rfl, Nat.zero_le _, rfl, ⟨[], by simp⟩, hcone4, hpr4, hqr4, hmap4, hnd, hsub, fun j y hj => by omega, hmod4⟩, ?_⟩
  rintro m p2' n2 c2' k' w6 ⟨M2, k, p2, c2, rfl, hk, hvs, ⟨ex, rfl⟩, hcone6, hpr6, hqr6, hmap6, hnd6, hsub6, hk6, hmod6⟩
  simp only [List.cons.injEq, Value.int.injEq, Value.slice.injEq, true_and, and_true] at hvs
  obtain ⟨⟨rfl, rfl, rfl⟩, rfl⟩ := hvs
  have hlen6 : (M ++ ex).length ≤ L.length := by
    have := nodup_lenLe hnd6 fun x hx => (by have := cone_le hok a ha (hsub6 x hx); omega : x < L.length)
    rw [List.length_map] at this; exact this
  refine Br_dec (fun hlt2 => ?_) fun hge2 => ?_
  rotate_left
  · have hkl : k = nd.ins.length := by omega
    subst hkl
    refine ⟨L.length - (next + 1), by omega, M ++ ex, next + 1, p2', c2', rfl, by rw [List.length_append]; omega, by rw [wrap_i64 (by omega) (by omega)]; rfl, hcone6, hpr6, hqr6, hmap6, hnd6, hsub6, by rw [List.map_append]; exact List.mem_append_left _ hal, ?_, hmod6⟩
    intro j y hj hy m' hm' z hz
    have hml : (M.map Prod.fst).length = M.length := List.length_map ..
    by_cases hjn : j = next
    · subst hjn
      rw [List.map_append, List.getElem?_append_left (by rw [hml]; omega), List.getElem?_map, hm] at hy
      injection hy with hy
      have hy' : x = y := hy
      subst hy'
      rw [hn] at hm'
      injection hm' with hm'
      subst hm'
      obtain ⟨i, hi⟩ := List.getElem?_of_mem hz
      exact hk6 i z (List.getElem?_eq_some_iff.1 hi).1 hi
    · rw [List.map_append, List.getElem?_append_left (by rw [hml]; omega)] at hy
      rw [List.map_append]
      exact List.mem_append_left _ (hcl j y (by omega) hy m' hm' z hz)
  have hk' : k < nd.ins.length := by omega
  have hv : nd.ins[k]? = some nd.ins[k] := List.getElem?_eq_getElem hk'
  have hvm : nd.ins[k] ∈ nd.ins := List.getElem_mem hk'
  generalize nd.ins[k] = v at hv hvm
  have hvx := hnok.lt v hvm
  have hvc : v ∈ coneL L a := cone_trans hok a ha (hsub x hxm) hn hvm
  have hinsx6 := hcone6.ins (x, qx) (List.mem_append_left _ hmm)
  rw [hna2] at hinsx6
  obtain ⟨aq, hqa, hcq⟩ := hinsx6.row.at (i := k) (v := .int .i64 v) (by rw [ints_get, natI_get, hv]; rfl)
  have hwk : IntKind.i64.wrap ((k : Int) + 1) = ((k + 1 : Nat) : Int) := by rw [wrap_i64 (by omega) (by omega)]; omega
  refine optP_intro hqa ⟨⟨by omega, by omega⟩, v, by rw [Int.toNat_natCast, Nat.mul_one]; exact hcq, ?_⟩
  rw [hwk]
  refine ⟨_, seen_look hmap6 v, ?_⟩
  intro J hJ
  refine Br_intro (fun hnot => ?_) fun hin => ?_
  · have hvl : v ∉ (M ++ ex).map Prod.fst := by rw [Bool.not_eq_true', decide_eq_false_iff_not] at hnot; exact hnot
    obtain ⟨w7, hup7, hmap7, hmod7⟩ := seen_add hmap6 hvl
    refine ⟨w7, hup7, ?_⟩
    have hs7 := hmod7.size
    have hmr : r < w6.heap.size := hmap6.lt
    have hm07 : Mod NoB w w7 := hmod6.new _ hmod7 fun b hb e => by have e' : b = r := e; omega
    have hs07 := hm07.size
    have hvL : v < L.length := by omega
    have hnv : L[v]? = some L[v] := List.getElem?_eq_getElem hvL
    generalize L[v] = nv at hnv
    refine (node_ok (h.same hm07) hok (by omega) hnv).mono ?_
    rintro e w8 ⟨q8, rfl, hins8, hm8⟩
    refine ⟨_, _, _, _, _, _, _, rfl, ?_⟩
    intro w9 hw9
    have hs8 := hm8.size
    have hs9 := hw9.size
    simp only [List.length_cons, List.length_nil] at hs9
    have hcone7 : ConeM w.heap.size w7 L p2' c2' (M ++ ex) := ⟨hcone6.own.keep hmod7 fun b hb e => hpr6 (e ▸ hb), hcone6.ge, fun m hm => (hcone6.ins m hm).keep hmod7 fun b hb e => hqr6 m hm (e ▸ hb), hcone6.sep⟩
    have hcone9 := (hcone7.keep hm8 fun _ _ _ => NoB.not).keep hw9.mod fun _ _ _ => NoB.not
    have hbm : Blk w9 (w8.heap.size + 1) (memC L (v, q8)) 60 := by
      have := hw9.blk 1 (cs := memC L (v, q8)) (t := 60) (by unfold memC ndC; rw [nodeAt_eq hnv]; rfl)
      exact this
    have hmax : maxLen = 9223372036854775807 := rfl
    obtain ⟨p9, c9, w10, hrun, hown10, hmod10, hat10⟩ := append_own (m := 1) (mc := 1) (q := some ⟨w8.heap.size + 1, 0, none⟩) (ty := 55) elem_member hcone9.own (Row.of_blk hbm) rfl (memC_one L _) (by rw [hmax]; omega) (by omega)
    have hnew : ∀ b, At p9 b → w.heap.size ≤ b ∧ b ≠ r ∧ ∀ m ∈ M ++ ex, ¬ At m.2 b := by
      intro b hb
      rcases hat10 b hb with h' | h'
      · exact ⟨hcone6.ge b h', fun e => hpr6 (e ▸ h'), fun m hm hb' => hcone6.sep m hm b hb' h'⟩
      · refine ⟨by omega, by omega, fun m hm hb' => ?_⟩
        have := Own.lt (hcone6.ins m hm).own b hb'
        omega
    have hq8lt : ∀ b, At q8 b → b < w8.heap.size := Own.lt hins8.own
    refine ⟨w10, p9, _, c9, hrun, hJ _ _ _ _ ?_⟩
    have hl1 : (M ++ ex ++ [(v, q8)]).length = (M ++ ex).length + 1 := by rw [List.length_append]; rfl
    rw [← hl1]
    refine ⟨nd.ins.length - (k + 1), by omega, M ++ ex ++ [(v, q8)], k + 1, p9, c9, rfl, hk', rfl, ⟨ex ++ [(v, q8)], by rw [List.append_assoc]⟩, ⟨?_, fun b hb => (hnew b hb).1, ?_, ?_⟩, fun hb => (hnew _ hb).2.1 rfl, ?_, ?_, ?_, ?_, ?_, ?_⟩
    · rw [hl1, List.flatMap_append, List.flatMap_cons, List.flatMap_nil, List.append_nil]; exact hown10
    · intro m hm
      rcases List.mem_append.1 hm with hm | hm
      · exact (hcone9.ins m hm).keep hmod10 fun b hb hp => hcone6.sep m hm b hb hp
      · simp only [List.mem_singleton] at hm
        subst hm
        rw [nodeAt_eq hnv]
        exact ((hins8.keep hw9.mod fun _ _ => NoB.not).keep hmod10 fun b hb hp => by have h1 := hins8.ge b hb; have h2 := hcone7.own.lt b hp; omega).up (by omega)
    · intro m hm b hb hp
      rcases List.mem_append.1 hm with hm | hm
      · exact (hnew b hp).2.2 m hm hb
      · simp only [List.mem_singleton] at hm
        subst hm
        have h1 := hins8.ge b hb
        have h2 := hq8lt b hb
        rcases hat10 b hp with h' | h'
        · have := hcone7.own.lt b h'; omega
        · omega
    · intro m hm
      rcases List.mem_append.1 hm with hm | hm
      · exact hqr6 m hm
      · simp only [List.mem_singleton] at hm
        subst hm
        intro hb
        have := hins8.ge r hb
        omega
    · have : (M ++ ex ++ [(v, q8)]).map Prod.fst = (M ++ ex).map Prod.fst ++ [v] := by rw [List.map_append]; rfl
      rw [this]
      exact ((hmap7.only hm8).only hw9.mod).keep hmod10 fun hp => hpr6 hp
    · rw [List.map_append, List.nodup_append]
      refine ⟨hnd6, by simp, ?_⟩
      intro y hy z hz e
      simp only [List.map_cons, List.map_nil, List.mem_singleton] at hz
      subst hz; subst e
      exact hvl hy
    · intro y hy
      rw [List.map_append] at hy
      rcases List.mem_append.1 hy with hy | hy
      · exact hsub6 y hy
      · simp only [List.map_cons, List.map_nil, List.mem_singleton] at hy
        subst hy; exact hvc
    · intro j y hj hy
      rw [List.map_append]
      by_cases hjk : j = k
      · subst hjk
        rw [hv] at hy
        injection hy with hy
        subst hy
        exact List.mem_append_right _ (by simp)
      · exact List.mem_append_left _ (hk6 j y (by omega) hy)
    · exact ((hm07.then hm8).then hw9.mod).new _ hmod10 fun b hb hp => by have := hcone6.ge b hp; omega
  · have hvl : v ∈ (M ++ ex).map Prod.fst := by rw [Bool.not_eq_false', decide_eq_true_iff] at hin; exact hin
    refine hJ _ _ _ _ ⟨nd.ins.length - (k + 1), by omega, M ++ ex, k + 1, p2', c2', rfl, hk', rfl, ⟨ex, rfl⟩, hcone6, hpr6, hqr6, hmap6, hnd6, hsub6, fun j y hj hy => ?_, hmod6⟩
    by_cases hjk : j = k
    · subst hjk
      rw [hv] at hy
      injection hy with hy
      subst hy
      exact hvl
    · exact hk6 j y (by omega) hy

end Go.Proofs.YtajfdcbknghipaaGreatDoor
end

section
/- condition and Condition. Conditions on memory as stated. -/
namespace Go.Proofs.YtajfdcbknghipaaGreatDoor
open Go Go.Sh Go.Fm

variable {w : World} {s : Addr} {L : List Nd} {d : SD}

def encB (m : List (Nat × Nat)) : List (Int × Value) := m.map fun p => ((p.1 : Int), Value.int .i64 (p.2 : Nat))
theorem getM_encB (m : List (Nat × Nat)) (x : Nat) : getM (encB m) (x : Int) = if x ∈ m.map Prod.fst then some (.int .i64 (getN m x : Nat)) else none := by
  induction m with
  | nil => rfl
  | cons e m ih =>
    obtain ⟨k, v⟩ := e
    show getM (((k : Int), Value.int .i64 (v : Nat)) :: encB m) (x : Int) = _
    unfold getM
    simp only [List.map_cons, List.mem_cons, getN]
    by_cases h : x = k
    · subst h; simp
    · rw [if_neg (by omega), ih]
      simp only [h, false_or, if_false]
theorem putM_encB {m : List (Nat × Nat)} {x : Nat} (v : Nat) (h : x ∉ m.map Prod.fst) : putM (encB m) (x : Int) (.int .i64 v) = encB (m ++ [(x, v)]) := by
  rw [putM_none _ (by rw [getM_encB, if_neg h])]
  unfold encB
  rw [List.map_append]; rfl

theorem condition_ok (h : StI w s L d) (hL : L.length < 30000) {x : Nat} {n : Nd} (hn : NdOK x n) (hx : x < 30000) {q : Option Addr} (hq : Row w q (ints (natI n.ins))) (hqf : ∀ b, At q b → ¬ d.fp b) {bec : List (Nat × Nat)} {z : Nat} (hz : MapM encI w z (encB bec))
    (hb : ∀ y ∈ n.ins, y ∈ bec.map Prod.fst ∧ getN bec y < L.length) (b al : Int) :
    CallsF Tryz.prog 27 #[.pointer (some s), .agg (.int .i64 (x : Nat) :: ndC n q).toArray, .map (some z), .int .i64 b, .int .i64 al] w fun e w' => e = .returned (.int .i64 (condN L bec x n b al).2) ∧ StPost w s d (condN L bec x n b al).1 w' := by
  have hlen := hn.len
  refine C_transform_condition _ _ _ _ _ _ _ _ _ _ _ _ _ ?_
  intro w1 hw1
  have hbm := hw1.blk 0 rfl
  have hbn : Blk w1 (w.heap.size + 1) (ndC n q) 58 := hw1.blk 1 rfl
  have hm1 := hw1.mod
  intro J hJ
  have main : ∀ bb : Bool, bb = decide (n.kind = 2 ∧ n.block = b) → J [.bool bb] w1 := by
    intro bb hbb
    refine hJ _ _ (Br_intro (fun ht => ?_) fun hf => ?_)
    · have hk : n.kind = 2 ∧ n.block = b := by rw [hbb] at ht; exact of_decide_eq_true ht
      have e : condN L bec x n b al = (L, if n.alt = al then 1 else 0) := by unfold condN; rw [if_pos hk]
      rw [e]
      refine ⟨n.alt, hbn.cellAt 0 2, Br_eq (fun h1 => ⟨?_, h.post hm1⟩) fun h1 => ⟨?_, h.post hm1⟩⟩
      · rw [if_pos h1]; rfl
      · rw [if_neg h1]; rfl
    have hk : ¬ (n.kind = 2 ∧ n.block = b) := by rw [hbb] at hf; exact of_decide_eq_false hf
    refine ⟨q, n.ins.length, n.ins.length, hbn.cellAt 0 3, ?_⟩
    obtain ⟨w2, hmk, ho2, hm2, hs2⟩ := makeSlice_own (w := w1) elem_int rfl .i64 .i64 (l := n.ins.length) (n := n.ins.length) (Nat.le_refl _) (by omega) (by omega)
    have hb20 : Blk w2 w1.heap.size (List.replicate n.ins.length (.int .i64 0)) 3 := ho2.full
    have hs1 := hw1.size
    simp only [List.length_cons, List.length_nil] at hs1
    have hm02 := hm1.then hm2
    refine ⟨w2, _, _, _, hmk, q, n.ins.length, n.ins.length, (hbn.keep hm2 NoB.not).cellAt 0 3, ?_⟩
    refine ⟨fun m vs w' => ∃ k : Nat, m = n.ins.length - k ∧ k ≤ n.ins.length ∧ vs = [.bool (decide ((n.ins.map (getN bec)).take k ≠ n.ins.take k)), .int .i64 k] ∧ Blk w' w1.heap.size (ints (natI ((n.ins.map (getN bec)).take k)) ++ List.replicate (n.ins.length - k) (.int .i64 0)) 3 ∧ Mod (· = w1.heap.size) w2 w',
      ⟨_, 0, rfl, Nat.zero_le _, by simp, hb20, Mod.refl _ _⟩, ?_⟩
    rintro m ch k' w3 ⟨k, rfl, hk3, hvs, hb3, hm3⟩
    simp only [List.cons.injEq, Value.int.injEq, Value.bool.injEq, true_and, and_true] at hvs
    obtain ⟨rfl, rfl⟩ := hvs
    have hm03 : Mod NoB w w3 := hm02.new _ hm3 fun y hy e => by have e' : y = w1.heap.size := e; omega
    refine Br_dec (fun hlt => ?_) fun hge => ?_
    · have hk' : k < n.ins.length := by omega
      have hv : n.ins[k]? = some n.ins[k] := List.getElem?_eq_getElem hk'
      have hvm : n.ins[k] ∈ n.ins := List.getElem_mem hk'
      generalize n.ins[k] = v at hv hvm
      have hv2 : (n.ins.map (getN bec))[k]? = some (getN bec v) := by rw [List.getElem?_map, hv]; rfl
      obtain ⟨aq, hqa, hcq⟩ := (hq.keep hm03 fun _ _ => NoB.not).at (i := k) (v := .int .i64 v) (by rw [ints_get, natI_get, hv]; rfl)
      refine optP_intro hqa ⟨⟨by omega, by omega⟩, v, by rw [Int.toNat_natCast, Nat.mul_one]; exact hcq, ?_⟩
      have hlk := lookup_ok (key_int map_index) (hz.only hm03) (v : Int) (zero_int w3) false
      rw [getM_encB, if_pos (hb v hvm).1] at hlk
      have hfv := (hb v hvm).2
      have hltk : (ints (natI ((n.ins.map (getN bec)).take k))).length = k := by rw [ints_len, natI_len, List.length_take, List.length_map]; omega
      refine ⟨(getN bec v : Nat), hlk, ⟨by omega, by omega⟩, ?_, ?_⟩
      · rw [own_add]
        refine canStore_blk hb3 _ 0 rfl ?_
        simp only [List.length_append, hltk, List.length_replicate, List.length_cons, List.length_nil, Int.toNat_natCast]
        omega
      intro w4 hw4
      rw [own_add, Int.toNat_natCast, Nat.zero_add, Nat.mul_one] at hw4
      have hb4 := hw4.blk hb3
      have hrep : List.replicate (n.ins.length - k) (Value.int .i64 0) = [.int .i64 0] ++ List.replicate (n.ins.length - (k + 1)) (.int .i64 0) := by
        have : n.ins.length - k = (n.ins.length - (k + 1)) + 1 := by omega
        rw [this, List.replicate_succ]; rfl
      have htk : (n.ins.map (getN bec)).take (k + 1) = (n.ins.map (getN bec)).take k ++ [getN bec v] := by rw [List.take_add_one, hv2]; rfl
      have htk2 : n.ins.take (k + 1) = n.ins.take k ++ [v] := by rw [List.take_add_one, hv]; rfl
      rw [hrep, setAt_at hltk.symm (by simp)] at hb4
      have hb4' : Blk w4 w1.heap.size (ints (natI ((n.ins.map (getN bec)).take (k + 1))) ++ List.replicate (n.ins.length - (k + 1)) (.int .i64 0)) 3 := by
        rw [htk, natI_append, ints_append, List.append_assoc]; exact hb4
      have hm4 : Mod (· = w1.heap.size) w2 w4 := hm3.then hw4.mod
      intro J2 hJ2
      have hend : ∀ b2 : Bool, b2 = decide ((n.ins.map (getN bec)).take (k + 1) ≠ n.ins.take (k + 1)) → J2 [.bool b2] w4 := by
        intro b2 hb2
        subst hb2
        exact hJ2 _ _ ⟨n.ins.length - (k + 1), by omega, k + 1, rfl, hk', by rw [wrap_i64 (by omega) (by omega)]; rfl, hb4', hm4⟩
      have hll : ((n.ins.map (getN bec)).take k).length = (n.ins.take k).length := by rw [List.length_take, List.length_take, List.length_map]
      refine Br_intro (fun ht => hend _ ?_) fun hf => ?_
      · have := of_decide_eq_true ht
        rw [eq_comm, decide_eq_true_iff, htk, htk2]
        intro e
        exact this (List.append_inj_left e hll)
      · have hcell : w4.cell? ((⟨w1.heap.size, 0, none⟩ : Addr).add ((k : Int).toNat * 1)) = some (.int .i64 (getN bec v : Nat)) := by
          rw [Int.toNat_natCast, Nat.mul_one, hb4'.cellAt, Nat.zero_add, List.getElem?_append_left (by rw [ints_len, natI_len, List.length_take, List.length_map]; omega), ints_get, natI_get, List.getElem?_take, if_pos (by omega), hv2]; rfl
        refine ⟨⟨by omega, by omega⟩, _, hcell, hend _ ?_⟩
        have hf' : (n.ins.map (getN bec)).take k = n.ins.take k := by
          have := of_decide_eq_false hf
          exact Classical.not_not.1 this
        rw [htk, htk2, hf']
        rw [Bool.eq_iff_iff]
        simp
        omega
    · have hke : k = n.ins.length := by omega
      subst hke
      have hall : (n.ins.map (getN bec)).take n.ins.length = n.ins.map (getN bec) := List.take_of_length_le (by rw [List.length_map]; exact Nat.le_refl _)
      rw [hall, Nat.sub_self, List.replicate_zero, List.append_nil] at hb3
      have h3 := h.same hm03
      rw [hall, List.take_length]
      have hbn3 := (hbn.keep hm2 NoB.not).keep hm3 (by omega)
      have hbm3 := (hbm.keep hm2 NoB.not).keep hm3 (by omega)
      have hml : (n.ins.map (getN bec)).length = n.ins.length := List.length_map ..
      refine Br_not (Br_intro (fun ht => ?_) fun hf => ?_)
      · have hne := of_decide_eq_true ht
        have hvl : ∀ y ∈ n.ins.map (getN bec), y < L.length := by
          intro y hy
          obtain ⟨v, hv, rfl⟩ := List.mem_map.1 hy
          exact (hb v hv).2
        refine ⟨n.kind, hbn3.cellAt 0 0, Br_eq (fun hk3' => ?_) fun hk3' => ?_⟩
        · have e : condN L bec x n b al = nt L ((n.ins.map (getN bec)).headD 0) := by unfold condN; rw [if_neg hk, if_neg hne, if_pos hk3']
          rw [e]
          obtain ⟨y, hy⟩ := List.length_eq_one_iff.1 (hn.not1 hk3')
          rw [hy] at hb3 ⊢
          have hyl := (hb y (by rw [hy]; exact List.mem_cons_self)).2
          refine ⟨⟨by omega, by simp⟩, (getN bec y : Nat), ?_, ?_⟩
          · have := hb3.cellAt 0 0
            exact this
          · refine (not_ok h3 hL hyl).mono ?_
            rintro e w4 ⟨rfl, hp⟩
            exact ⟨_, rfl, rfl, hp.pre hm03⟩
        refine Br_eq (fun hk4 => ?_) fun hk4 => ?_
        · have e : condN L bec x n b al = comb L 4 (n.ins.map (getN bec)) := by unfold condN; rw [if_neg hk, if_neg hne, if_neg hk3', if_pos (.inl hk4), hk4]
          rw [e]
          have hc := and_ok (p := some ⟨w1.heap.size, 0, none⟩) (c := n.ins.length) h3 hL (Row.of_blk hb3) hvl (by rw [hml]; omega)
          rw [hml] at hc
          refine hc.mono ?_
          rintro e w4 ⟨rfl, hp⟩
          exact ⟨_, rfl, rfl, hp.pre hm03⟩
        refine Br_eq (fun hk5 => ?_) fun hk5 => ?_
        · have e : condN L bec x n b al = comb L 5 (n.ins.map (getN bec)) := by unfold condN; rw [if_neg hk, if_neg hne, if_neg hk3', if_pos (.inr hk5), hk5]
          rw [e]
          have hc := or_ok (p := some ⟨w1.heap.size, 0, none⟩) (c := n.ins.length) h3 hL (Row.of_blk hb3) hvl (by rw [hml]; omega)
          rw [hml] at hc
          refine hc.mono ?_
          rintro e w4 ⟨rfl, hp⟩
          exact ⟨_, rfl, rfl, hp.pre hm03⟩
        · have e : condN L bec x n b al = (L, x) := by unfold condN; rw [if_neg hk, if_neg hne, if_neg hk3', if_neg (by omega)]
          rw [e]
          exact ⟨(x : Nat), hbm3.cellAt 0 0, rfl, h.post hm03⟩
      · have heq : n.ins.map (getN bec) = n.ins := Classical.not_not.1 (of_decide_eq_false hf)
        have e : condN L bec x n b al = (L, x) := by unfold condN; rw [if_neg hk, if_pos heq]
        rw [e]
        exact ⟨(x : Nat), hbm3.cellAt 0 0, rfl, h.post hm03⟩
  refine ⟨n.kind, hbn.cellAt 0 0, Br_eq (fun h2 => ⟨n.block, hbn.cellAt 0 1, main _ ?_⟩) fun h2 => main _ ?_⟩
  · rw [Bool.eq_iff_iff]; simp [h2]
  · rw [eq_comm, decide_eq_false_iff_not]; exact fun h' => h2 h'.1

end Go.Proofs.YtajfdcbknghipaaGreatDoor
end
