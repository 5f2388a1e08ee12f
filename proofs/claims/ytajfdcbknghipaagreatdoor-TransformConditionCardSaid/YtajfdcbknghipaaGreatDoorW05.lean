/- The law TransformCondition of the package credencelaw23 answers true at every input and leaves its arguments as they were (Rows.TransformConditionCardSaid); no condition beyond the card's own: the three listed tables stand as the program's text lays them. Part 5 of 25. -/
import Derived.KernelRfl
import Derived.Test.YtajfdcbknghipaaGreatDoorW04
import Derived.Test.YtajfdcbknghipaaGreatDoorProg

section
/- The walks of some functions, as propositions on memory. Written by a program. No condition. -/
namespace Go.Proofs.YtajfdcbknghipaaGreatDoor
open Go Go.Sh
set_option maxRecDepth 100000
theorem A1G1mixed : Tryz.prog.follows .mixedOrders = true := by kernel_rfl
/-- credence/formula.validPick -/
def S_formula_validPick (x : Int) (y : Int) (w : World) (R : Ending → World → Prop) : Prop :=
 ∀ (J : List Value → World → Prop), (∀ (b : Bool) (w1 : World), R (Ending.returned (Value.bool b)) w1 → J [Value.bool b] w1) → Br (decide (x ≥ (0 : Int))) (Br (decide (x < (4096 : Int))) (Br (decide (y ≥ (-1 : Int))) (J [Value.bool (decide (y < (16 : Int)))] w) (J [Value.bool false] w)) (J [Value.bool false] w)) (J [Value.bool false] w)
theorem E_formula_validPick (x : Int) (y : Int) (w : World) (R : Ending → World → Prop) : shFn Tryz.prog Tryz.f32.ntmps Tryz.f32.results.toList (Tryz.f32.body.getD .skip) [Value.int IntKind.i64 x, Value.int IntKind.i64 y] w R = S_formula_validPick x y w R := by kernel_rfl
theorem C_formula_validPick (x : Int) (y : Int) (w : World) (R : Ending → World → Prop) (h : S_formula_validPick x y w R) : CallsF Tryz.prog 32 #[Value.int IntKind.i64 x, Value.int IntKind.i64 y] w R :=
 ⟨Tryz.call32, calls_of_sh A1G1mixed Tryz.func32 rfl (Nat.le_of_ble_eq_true rfl) ((E_formula_validPick x y w R).mpr h)⟩

/-- (*credence/formula.Store).has -/
def S_formula_Store_has (x : Addr) (y : Int) (w : World) (R : Ending → World → Prop) : Prop :=
 ∀ (J : List Value → World → Prop), (∀ (b : Bool) (w1 : World), R (Ending.returned (Value.bool b)) w1 → J [Value.bool b] w1) → Br (decide (y ≥ (0 : Int))) (∃ (p : Option Addr), ∃ (n : Nat), ∃ (c : Nat), w.cell? (x.add (0 : Nat)) = some (Value.slice p n c) ∧ J [Value.bool (decide (y < (↑n : Int)))] w) (J [Value.bool false] w)
theorem E_formula_Store_has (x : Addr) (y : Int) (w : World) (R : Ending → World → Prop) : shFn Tryz.prog Tryz.f35.ntmps Tryz.f35.results.toList (Tryz.f35.body.getD .skip) [Value.pointer (some x), Value.int IntKind.i64 y] w R = S_formula_Store_has x y w R := by kernel_rfl
theorem C_formula_Store_has (x : Addr) (y : Int) (w : World) (R : Ending → World → Prop) (h : S_formula_Store_has x y w R) : CallsF Tryz.prog 35 #[Value.pointer (some x), Value.int IntKind.i64 y] w R :=
 ⟨Tryz.call35, calls_of_sh A1G1mixed Tryz.func35 rfl (Nat.le_of_ble_eq_true rfl) ((E_formula_Store_has x y w R).mpr h)⟩

/-- (*credence/formula.Store).inputsOf -/
def S_formula_Store_inputsOf (x : Addr) (y : Int) (w : World) (R : Ending → World → Prop) : Prop :=
 ∃ (p : Option Addr), ∃ (n : Nat), ∃ (c : Nat), w.cell? (x.add (0 : Nat)) = some (Value.slice p n c) ∧ optP p fun (a : Addr) => ((0 : Int) ≤ y ∧ y < (↑n : Int)) ∧ ∃ (n : Int), ∃ (n_1 : Int), ∃ (n_2 : Int), ∃ (n_3 : Int), ∃ (n_4 : Int), CellsAre w (a.add (y.toNat * (5 : Nat))) (0 : Nat) [Value.int IntKind.i64 n, Value.int IntKind.i32 n_1, Value.int IntKind.i16 n_2, Value.int IntKind.i8 n_3, Value.int IntKind.i8 n_4] ∧ ∃ (p : Option Addr), ∃ (n_5 : Nat), ∃ (c : Nat), w.drew.cell? (x.add (1 : Nat)) = some (Value.slice p n_5 c) ∧ ((0 : Int) ≤ IntKind.i64.wrap (n + IntKind.i64.wrap n_1) ∧ IntKind.i64.wrap (n + IntKind.i64.wrap n_1) ≤ (↑c : Int)) ∧ ((0 : Int) ≤ n ∧ n ≤ (↑(IntKind.i64.wrap (n + IntKind.i64.wrap n_1)).toNat : Int)) ∧ ∀ (w1 : World), Ext w.drew [OB.cells [Value.int IntKind.i64 n, Value.int IntKind.i32 n_1, Value.int IntKind.i16 n_2, Value.int IntKind.i8 n_3, Value.int IntKind.i8 n_4] (70 : Nat)] w1 → R (Ending.returned (Value.slice (sliceA p c n.toNat (1 : Nat)) ((IntKind.i64.wrap (n + IntKind.i64.wrap n_1)).toNat - n.toNat) (c - n.toNat))) w1
theorem E_formula_Store_inputsOf (x : Addr) (y : Int) (w : World) (R : Ending → World → Prop) : shFn Tryz.prog Tryz.f36.ntmps Tryz.f36.results.toList (Tryz.f36.body.getD .skip) [Value.pointer (some x), Value.int IntKind.i64 y] w R = S_formula_Store_inputsOf x y w R := by kernel_rfl
theorem C_formula_Store_inputsOf (x : Addr) (y : Int) (w : World) (R : Ending → World → Prop) (h : S_formula_Store_inputsOf x y w R) : CallsF Tryz.prog 36 #[Value.pointer (some x), Value.int IntKind.i64 y] w R :=
 ⟨Tryz.call36, calls_of_sh A1G1mixed Tryz.func36 rfl (Nat.le_of_ble_eq_true rfl) ((E_formula_Store_inputsOf x y w R).mpr h)⟩

/-- (*credence/formula.Store).Node -/
def S_formula_Store_Node (x : Addr) (y : Int) (w : World) (R : Ending → World → Prop) : Prop :=
 ∀ (w1 : World), Ext w [OB.cells [Value.int IntKind.i64 (0 : Int), Value.int IntKind.i64 (0 : Int), Value.int IntKind.i64 (0 : Int), Value.slice none (0 : Nat) (0 : Nat)] (58 : Nat)] w1 → CallsF Tryz.prog (35 : Nat) (Array.mk [Value.pointer (some x), Value.int IntKind.i64 y]) w1 fun (e : Ending) (w_1 : World) => ∃ (b : Bool), e = Ending.returned (Value.bool b) ∧ Br (!b) (CanStore w_1 (Addr.mk (w.heap.size + (0 : Nat)) (0 : Nat) none) (0 : Nat) [Value.int IntKind.i64 (0 : Int), Value.int IntKind.i64 (0 : Int), Value.int IntKind.i64 (0 : Int), Value.slice none (0 : Nat) (0 : Nat)] ∧ ∀ (w1 : World), SetC w_1 (Addr.mk (w.heap.size + (0 : Nat)) (0 : Nat) none) [Value.int IntKind.i64 (0 : Int), Value.int IntKind.i64 (0 : Int), Value.int IntKind.i64 (0 : Int), Value.slice none (0 : Nat) (0 : Nat)] w1 → ∃ (n : Int), ∃ (n_1 : Int), ∃ (n_2 : Int), ∃ (p : Option Addr), ∃ (n_3 : Nat), ∃ (c : Nat), CellsAre w1 (Addr.mk (w.heap.size + (0 : Nat)) (0 : Nat) none) (0 : Nat) [Value.int IntKind.i64 n, Value.int IntKind.i64 n_1, Value.int IntKind.i64 n_2, Value.slice p n_3 c] ∧ R (Ending.returned (Value.tuple #[Value.agg #[Value.int IntKind.i64 n, Value.int IntKind.i64 n_1, Value.int IntKind.i64 n_2, Value.slice p n_3 c], Value.bool false])) w1) (∃ (p : Option Addr), ∃ (n : Nat), ∃ (c : Nat), w_1.cell? (x.add (0 : Nat)) = some (Value.slice p n c) ∧ optP p fun (a : Addr) => ((0 : Int) ≤ y ∧ y < (↑n : Int)) ∧ ∃ (n : Int), ∃ (n_1 : Int), ∃ (n_2 : Int), ∃ (n_3 : Int), ∃ (n_4 : Int), CellsAre w_1 (a.add (y.toNat * (5 : Nat))) (0 : Nat) [Value.int IntKind.i64 n, Value.int IntKind.i32 n_1, Value.int IntKind.i16 n_2, Value.int IntKind.i8 n_3, Value.int IntKind.i8 n_4] ∧ ∀ (w1 : World), Ext w_1 [OB.cells [Value.int IntKind.i64 n, Value.int IntKind.i32 n_1, Value.int IntKind.i16 n_2, Value.int IntKind.i8 n_3, Value.int IntKind.i8 n_4] (70 : Nat), OB.cells [Value.int IntKind.i64 (IntKind.i64.wrap n_3), Value.int IntKind.i64 (IntKind.i64.wrap n_2), Value.int IntKind.i64 (IntKind.i64.wrap n_4), Value.slice none (0 : Nat) (0 : Nat)] (58 : Nat)] w1 → ∀ (J : List Value → World → Prop), (∀ (w1 : World), (∃ (n_5 : Int), ∃ (n_6 : Int), ∃ (n_7 : Int), ∃ (p : Option Addr), ∃ (n_8 : Nat), ∃ (c : Nat), CellsAre w1 (Addr.mk (w_1.heap.size + [OB.cells [Value.int IntKind.i64 n, Value.int IntKind.i32 n_1, Value.int IntKind.i16 n_2, Value.int IntKind.i8 n_3, Value.int IntKind.i8 n_4] (70 : Nat)].length) (0 : Nat) none) (0 : Nat) [Value.int IntKind.i64 n_5, Value.int IntKind.i64 n_6, Value.int IntKind.i64 n_7, Value.slice p n_8 c] ∧ CanStore w1 (Addr.mk (w.heap.size + (0 : Nat)) (0 : Nat) none) (0 : Nat) [Value.int IntKind.i64 n_5, Value.int IntKind.i64 n_6, Value.int IntKind.i64 n_7, Value.slice p n_8 c] ∧ ∀ (w1_1 : World), SetC w1 (Addr.mk (w.heap.size + (0 : Nat)) (0 : Nat) none) [Value.int IntKind.i64 n_5, Value.int IntKind.i64 n_6, Value.int IntKind.i64 n_7, Value.slice p n_8 c] w1_1 → ∃ (n : Int), ∃ (n_9 : Int), ∃ (n_10 : Int), ∃ (p : Option Addr), ∃ (n_11 : Nat), ∃ (c : Nat), CellsAre w1_1 (Addr.mk (w.heap.size + (0 : Nat)) (0 : Nat) none) (0 : Nat) [Value.int IntKind.i64 n, Value.int IntKind.i64 n_9, Value.int IntKind.i64 n_10, Value.slice p n_11 c] ∧ R (Ending.returned (Value.tuple #[Value.agg #[Value.int IntKind.i64 n, Value.int IntKind.i64 n_9, Value.int IntKind.i64 n_10, Value.slice p n_11 c], Value.bool true])) w1_1) → J [] w1) → Br (decide (n_1 > (0 : Int))) (∃ (n_5 : Int), w1.cell? ((Addr.mk (w_1.heap.size + (0 : Nat)) (0 : Nat) none).add (1 : Nat)) = some (Value.int IntKind.i32 n_5) ∧ ∃ (w1_1 : World), ∃ (p : Option Addr), ∃ (n_6 : Nat), ∃ (c : Nat), Sem.run Tryz.prog (Instr.makeSlice (25 : Nat) (Value.int IntKind.i32 n_5) (Value.int IntKind.i32 n_5)) w1 = Result.ok (Value.slice p n_6 c) w1_1 ∧ CanStore w1_1 ((Addr.mk (w_1.heap.size + [OB.cells [Value.int IntKind.i64 n, Value.int IntKind.i32 n_1, Value.int IntKind.i16 n_2, Value.int IntKind.i8 n_3, Value.int IntKind.i8 n_4] (70 : Nat)].length) (0 : Nat) none).add (3 : Nat)) (0 : Nat) [Value.slice p n_6 c] ∧ ∀ (w1 : World), SetC w1_1 ((Addr.mk (w_1.heap.size + [OB.cells [Value.int IntKind.i64 n, Value.int IntKind.i32 n_1, Value.int IntKind.i16 n_2, Value.int IntKind.i8 n_3, Value.int IntKind.i8 n_4] (70 : Nat)].length) (0 : Nat) none).add (3 : Nat)) [Value.slice p n_6 c] w1 → CallsF Tryz.prog (36 : Nat) (Array.mk [Value.pointer (some x), Value.int IntKind.i64 y]) w1 fun (e : Ending) (w : World) => ∃ (p : Option Addr), ∃ (n_7 : Nat), ∃ (c : Nat), e = Ending.returned (Value.slice p n_7 c) ∧ ∃ (I : Nat → List Value → World → Prop), (∃ (n : Nat), I n [Value.int IntKind.i64 (0 : Int)] w) ∧ ∀ (n_8 : Nat) (n_9 : Int) (w1 : World), I n_8 [Value.int IntKind.i64 n_9] w1 → Br (decide (n_9 < (↑n_7 : Int))) (optP p fun (a : Addr) => ((0 : Int) ≤ n_9 ∧ n_9 < (↑n_7 : Int)) ∧ ∃ (n_10 : Int), w1.cell? (a.add (n_9.toNat * (1 : Nat))) = some (Value.int IntKind.i32 n_10) ∧ ∃ (p : Option Addr), ∃ (n_11 : Nat), ∃ (c : Nat), w1.cell? ((Addr.mk (w_1.heap.size + [OB.cells [Value.int IntKind.i64 n, Value.int IntKind.i32 n_1, Value.int IntKind.i16 n_2, Value.int IntKind.i8 n_3, Value.int IntKind.i8 n_4] (70 : Nat)].length) (0 : Nat) none).add (3 : Nat)) = some (Value.slice p n_11 c) ∧ optP p fun (a : Addr) => ((0 : Int) ≤ n_9 ∧ n_9 < (↑n_11 : Int)) ∧ CanStore w1 (a.add (n_9.toNat * (1 : Nat))) (0 : Nat) [Value.int IntKind.i64 (IntKind.i64.wrap n_10)] ∧ ∀ (w1_2 : World), SetC w1 (a.add (n_9.toNat * (1 : Nat))) [Value.int IntKind.i64 (IntKind.i64.wrap n_10)] w1_2 → ∃ (n' : Nat), n' < n_8 ∧ I n' [Value.int IntKind.i64 (IntKind.i64.wrap (n_9 + (1 : Int)))] w1_2) (J [] w1)) (J [] w1))
theorem E_formula_Store_Node (x : Addr) (y : Int) (w : World) (R : Ending → World → Prop) : shFn Tryz.prog Tryz.f37.ntmps Tryz.f37.results.toList (Tryz.f37.body.getD .skip) [Value.pointer (some x), Value.int IntKind.i64 y] w R = S_formula_Store_Node x y w R := by kernel_rfl
theorem C_formula_Store_Node (x : Addr) (y : Int) (w : World) (R : Ending → World → Prop) (h : S_formula_Store_Node x y w R) : CallsF Tryz.prog 37 #[Value.pointer (some x), Value.int IntKind.i64 y] w R :=
 ⟨Tryz.call37, calls_of_sh A1G1mixed Tryz.func37 rfl (Nat.le_of_ble_eq_true rfl) ((E_formula_Store_Node x y w R).mpr h)⟩

/-- credence/formula.mix -/
def S_formula_mix (x : Int) (w : World) (R : Ending → World → Prop) : Prop :=
 (0 : Int) ≤ (30 : Int) ∧ (0 : Int) ≤ (27 : Int) ∧ (0 : Int) ≤ (31 : Int) ∧ R (Ending.returned (Value.int IntKind.u64 (bitsV BinOp.xor IntKind.u64 (IntKind.u64.wrap (bitsV BinOp.xor IntKind.u64 (IntKind.u64.wrap (bitsV BinOp.xor IntKind.u64 (IntKind.u64.wrap (x + (11400714819323198485 : Int))) (shrV IntKind.u64 (IntKind.u64.wrap (x + (11400714819323198485 : Int))) (30 : Int)) * (13787848793156543929 : Int))) (shrV IntKind.u64 (IntKind.u64.wrap (bitsV BinOp.xor IntKind.u64 (IntKind.u64.wrap (x + (11400714819323198485 : Int))) (shrV IntKind.u64 (IntKind.u64.wrap (x + (11400714819323198485 : Int))) (30 : Int)) * (13787848793156543929 : Int))) (27 : Int)) * (10723151780598845931 : Int))) (shrV IntKind.u64 (IntKind.u64.wrap (bitsV BinOp.xor IntKind.u64 (IntKind.u64.wrap (bitsV BinOp.xor IntKind.u64 (IntKind.u64.wrap (x + (11400714819323198485 : Int))) (shrV IntKind.u64 (IntKind.u64.wrap (x + (11400714819323198485 : Int))) (30 : Int)) * (13787848793156543929 : Int))) (shrV IntKind.u64 (IntKind.u64.wrap (bitsV BinOp.xor IntKind.u64 (IntKind.u64.wrap (x + (11400714819323198485 : Int))) (shrV IntKind.u64 (IntKind.u64.wrap (x + (11400714819323198485 : Int))) (30 : Int)) * (13787848793156543929 : Int))) (27 : Int)) * (10723151780598845931 : Int))) (31 : Int))))) w
theorem E_formula_mix (x : Int) (w : World) (R : Ending → World → Prop) : shFn Tryz.prog Tryz.f76.ntmps Tryz.f76.results.toList (Tryz.f76.body.getD .skip) [Value.int IntKind.u64 x] w R = S_formula_mix x w R := by kernel_rfl
theorem C_formula_mix (x : Int) (w : World) (R : Ending → World → Prop) (h : S_formula_mix x w R) : CallsF Tryz.prog 76 #[Value.int IntKind.u64 x] w R :=
 ⟨Tryz.call76, calls_of_sh A1G1mixed Tryz.func76 rfl (Nat.le_of_ble_eq_true rfl) ((E_formula_mix x w R).mpr h)⟩

/-- credence/formula.hashNode -/
def S_formula_hashNode (x : Int) (y : Int) (z : Int) (u : Int) (v : Nat) (vc : Array Value) (w : World) (R : Ending → World → Prop) : Prop :=
 (0 : Int) ≤ (8 : Int) ∧ (0 : Int) ≤ (16 : Int) ∧ CallsF Tryz.prog (76 : Nat) (Array.mk [Value.int IntKind.u64 (bitsV BinOp.or IntKind.u64 (bitsV BinOp.or IntKind.u64 (IntKind.u64.wrap x) (shlV IntKind.u64 (IntKind.u64.wrap (IntKind.i64.wrap (z + (1 : Int)))) (8 : Int))) (shlV IntKind.u64 (IntKind.u64.wrap y) (16 : Int)))]) w fun (e : Ending) (w : World) => ∃ (n : Int), e = Ending.returned (Value.int IntKind.u64 n) ∧ ∃ (I : Nat → List Value → World → Prop), (∃ (n_1 : Nat), I n_1 [Value.int IntKind.u64 n, Value.int IntKind.i64 (0 : Int)] w) ∧ ∀ (n : Nat) (n_1 n_2 : Int) (w1 : World), I n [Value.int IntKind.u64 n_1, Value.int IntKind.i64 n_2] w1 → Br (decide (n_2 < u)) (CallsF Tryz.prog v (Array.mk [] ++ #[Value.int IntKind.i64 n_2] ++ vc) w1 fun (e : Ending) (w : World) => ∃ (n_3 : Int), e = Ending.returned (Value.int IntKind.i64 n_3) ∧ CallsF Tryz.prog (76 : Nat) (Array.mk [Value.int IntKind.u64 (bitsV BinOp.xor IntKind.u64 n_1 (IntKind.u64.wrap n_3))]) w fun (e : Ending) (w : World) => ∃ (n_4 : Int), e = Ending.returned (Value.int IntKind.u64 n_4) ∧ ∃ (n' : Nat), n' < n ∧ I n' [Value.int IntKind.u64 n_4, Value.int IntKind.i64 (IntKind.i64.wrap (n_2 + (1 : Int)))] w) (R (Ending.returned (Value.int IntKind.u64 n_1)) w1)
theorem E_formula_hashNode (x : Int) (y : Int) (z : Int) (u : Int) (v : Nat) (vc : Array Value) (w : World) (R : Ending → World → Prop) : shFn Tryz.prog Tryz.f53.ntmps Tryz.f53.results.toList (Tryz.f53.body.getD .skip) [Value.int IntKind.i64 x, Value.int IntKind.i64 y, Value.int IntKind.i64 z, Value.int IntKind.i64 u, Value.func (Fn.func v) #[] vc] w R = S_formula_hashNode x y z u v vc w R := by kernel_rfl
theorem C_formula_hashNode (x : Int) (y : Int) (z : Int) (u : Int) (v : Nat) (vc : Array Value) (w : World) (R : Ending → World → Prop) (h : S_formula_hashNode x y z u v vc w R) : CallsF Tryz.prog 53 #[Value.int IntKind.i64 x, Value.int IntKind.i64 y, Value.int IntKind.i64 z, Value.int IntKind.i64 u, Value.func (Fn.func v) #[] vc] w R :=
 ⟨Tryz.call53, calls_of_sh A1G1mixed Tryz.func53 rfl (Nat.le_of_ble_eq_true rfl) ((E_formula_hashNode x y z u v vc w R).mpr h)⟩

/-- (*credence/formula.Store).intern$1 -/
def S_formula_Store_intern_1 (x : Int) (cap0 : Addr) (w : World) (R : Ending → World → Prop) : Prop :=
 ∃ (p : Option Addr), ∃ (n : Nat), ∃ (c : Nat), w.cell? cap0 = some (Value.slice p n c) ∧ optP p fun (a : Addr) => ((0 : Int) ≤ x ∧ x < (↑n : Int)) ∧ ∃ (n : Int), w.cell? (a.add (x.toNat * (1 : Nat))) = some (Value.int IntKind.i64 n) ∧ R (Ending.returned (Value.int IntKind.i64 n)) w
theorem E_formula_Store_intern_1 (x : Int) (cap0 : Addr) (w : World) (R : Ending → World → Prop) : shFn Tryz.prog Tryz.f54.ntmps Tryz.f54.results.toList (Tryz.f54.body.getD .skip) [Value.int IntKind.i64 x, Value.pointer (some cap0)] w R = S_formula_Store_intern_1 x cap0 w R := by kernel_rfl
theorem C_formula_Store_intern_1 (x : Int) (cap0 : Addr) (w : World) (R : Ending → World → Prop) (h : S_formula_Store_intern_1 x cap0 w R) : CallsF Tryz.prog 54 #[Value.int IntKind.i64 x, Value.pointer (some cap0)] w R :=
 ⟨Tryz.call54, calls_of_sh A1G1mixed Tryz.func54 rfl (Nat.le_of_ble_eq_true rfl) ((E_formula_Store_intern_1 x cap0 w R).mpr h)⟩

/-- (*credence/formula.Store).grow$1 -/
def S_formula_Store_grow_1 (x : Int) (cap0 : Addr) (w : World) (R : Ending → World → Prop) : Prop :=
 ∃ (p : Option Addr), ∃ (n : Nat), ∃ (c : Nat), w.cell? cap0 = some (Value.slice p n c) ∧ optP p fun (a : Addr) => ((0 : Int) ≤ x ∧ x < (↑n : Int)) ∧ ∃ (n : Int), w.cell? (a.add (x.toNat * (1 : Nat))) = some (Value.int IntKind.i32 n) ∧ R (Ending.returned (Value.int IntKind.i64 (IntKind.i64.wrap n))) w
theorem E_formula_Store_grow_1 (x : Int) (cap0 : Addr) (w : World) (R : Ending → World → Prop) : shFn Tryz.prog Tryz.f77.ntmps Tryz.f77.results.toList (Tryz.f77.body.getD .skip) [Value.int IntKind.i64 x, Value.pointer (some cap0)] w R = S_formula_Store_grow_1 x cap0 w R := by kernel_rfl
theorem C_formula_Store_grow_1 (x : Int) (cap0 : Addr) (w : World) (R : Ending → World → Prop) (h : S_formula_Store_grow_1 x cap0 w R) : CallsF Tryz.prog 77 #[Value.int IntKind.i64 x, Value.pointer (some cap0)] w R :=
 ⟨Tryz.call77, calls_of_sh A1G1mixed Tryz.func77 rfl (Nat.le_of_ble_eq_true rfl) ((E_formula_Store_grow_1 x cap0 w R).mpr h)⟩

/-- (*credence/formula.Store).equal -/
def S_formula_Store_equal (x : Addr) (y : Int) (z : Int) (u : Int) (v : Int) (q : Option Addr) (qn : Nat) (qc : Nat) (w : World) (R : Ending → World → Prop) : Prop :=
 ∃ (p : Option Addr), ∃ (n : Nat), ∃ (c : Nat), w.cell? (x.add (0 : Nat)) = some (Value.slice p n c) ∧ optP p fun (a : Addr) => ((0 : Int) ≤ y ∧ y < (↑n : Int)) ∧ ∃ (n : Int), ∃ (n_1 : Int), ∃ (n_2 : Int), ∃ (n_3 : Int), ∃ (n_4 : Int), CellsAre w (a.add (y.toNat * (5 : Nat))) (0 : Nat) [Value.int IntKind.i64 n, Value.int IntKind.i32 n_1, Value.int IntKind.i16 n_2, Value.int IntKind.i8 n_3, Value.int IntKind.i8 n_4] ∧ ∀ (w1 : World), Ext w [OB.cells [Value.int IntKind.i64 n, Value.int IntKind.i32 n_1, Value.int IntKind.i16 n_2, Value.int IntKind.i8 n_3, Value.int IntKind.i8 n_4] (70 : Nat)] w1 → ∀ (J : List Value → World → Prop), (∀ (b : Bool) (w1 : World), Br b (R (Ending.returned (Value.bool false)) w1) (CallsF Tryz.prog (36 : Nat) (Array.mk [Value.pointer (some x), Value.int IntKind.i64 y]) w1 fun (e : Ending) (w : World) => ∃ (p : Option Addr), ∃ (n : Nat), ∃ (c : Nat), e = Ending.returned (Value.slice p n c) ∧ ∃ (I : Nat → List Value → World → Prop), (∃ (n : Nat), I n [Value.bool false, Value.int IntKind.i64 (0 : Int)] w) ∧ ∀ (n_5 : Nat) (b : Bool) (n_6 : Int) (w1 : World), I n_5 [Value.bool b, Value.int IntKind.i64 n_6] w1 → Br (decide (n_6 < (↑n : Int))) (optP p fun (a : Addr) => ((0 : Int) ≤ n_6 ∧ n_6 < (↑n : Int)) ∧ ∃ (n : Int), w1.cell? (a.add (n_6.toNat * (1 : Nat))) = some (Value.int IntKind.i32 n) ∧ optP q fun (a : Addr) => ((0 : Int) ≤ n_6 ∧ n_6 < (↑qn : Int)) ∧ ∃ (n_7 : Int), w1.cell? (a.add (n_6.toNat * (1 : Nat))) = some (Value.int IntKind.i64 n_7) ∧ Br (IntKind.i64.wrap n != n_7) (R (Ending.returned (Value.bool false)) w1) (∃ (n' : Nat), n' < n_5 ∧ I n' [Value.bool b, Value.int IntKind.i64 (IntKind.i64.wrap (n_6 + (1 : Int)))] w1)) (R (Ending.returned (Value.bool true)) w1)) → J [Value.bool b] w1) → ∃ (n : Int), w1.cell? ((Addr.mk (w.heap.size + (0 : Nat)) (0 : Nat) none).add (3 : Nat)) = some (Value.int IntKind.i8 n) ∧ Br (IntKind.i64.wrap n != z) (J [Value.bool true] w1) (∃ (n : Int), w1.cell? ((Addr.mk (w.heap.size + (0 : Nat)) (0 : Nat) none).add (2 : Nat)) = some (Value.int IntKind.i16 n) ∧ Br (IntKind.i64.wrap n != u) (J [Value.bool true] w1) (∃ (n : Int), w1.cell? ((Addr.mk (w.heap.size + (0 : Nat)) (0 : Nat) none).add (4 : Nat)) = some (Value.int IntKind.i8 n) ∧ Br (IntKind.i64.wrap n != v) (J [Value.bool true] w1) (∃ (n : Int), w1.cell? ((Addr.mk (w.heap.size + (0 : Nat)) (0 : Nat) none).add (1 : Nat)) = some (Value.int IntKind.i32 n) ∧ J [Value.bool (IntKind.i64.wrap n != (↑qn : Int))] w1)))
theorem E_formula_Store_equal (x : Addr) (y : Int) (z : Int) (u : Int) (v : Int) (q : Option Addr) (qn : Nat) (qc : Nat) (w : World) (R : Ending → World → Prop) : shFn Tryz.prog Tryz.f55.ntmps Tryz.f55.results.toList (Tryz.f55.body.getD .skip) [Value.pointer (some x), Value.int IntKind.i64 y, Value.int IntKind.i64 z, Value.int IntKind.i64 u, Value.int IntKind.i64 v, Value.slice q qn qc] w R = S_formula_Store_equal x y z u v q qn qc w R := by kernel_rfl
theorem C_formula_Store_equal (x : Addr) (y : Int) (z : Int) (u : Int) (v : Int) (q : Option Addr) (qn : Nat) (qc : Nat) (w : World) (R : Ending → World → Prop) (h : S_formula_Store_equal x y z u v q qn qc w R) : CallsF Tryz.prog 55 #[Value.pointer (some x), Value.int IntKind.i64 y, Value.int IntKind.i64 z, Value.int IntKind.i64 u, Value.int IntKind.i64 v, Value.slice q qn qc] w R :=
 ⟨Tryz.call55, calls_of_sh A1G1mixed Tryz.func55 rfl (Nat.le_of_ble_eq_true rfl) ((E_formula_Store_equal x y z u v q qn qc w R).mpr h)⟩

/-- (*credence/formula.Store).grow -/
def S_formula_Store_grow (x : Addr) (w : World) (R : Ending → World → Prop) : Prop :=
 ∃ (p : Option Addr), ∃ (n : Nat), ∃ (c : Nat), w.cell? (x.add (2 : Nat)) = some (Value.slice p n c) ∧ ∃ (w1 : World), ∃ (p : Option Addr), ∃ (n_1 : Nat), ∃ (c : Nat), Sem.run Tryz.prog (Instr.makeSlice (72 : Nat) (Value.int IntKind.i64 (IntKind.i64.wrap ((2 : Int) * (↑n : Int)))) (Value.int IntKind.i64 (IntKind.i64.wrap ((2 : Int) * (↑n : Int))))) w = Result.ok (Value.slice p n_1 c) w1 ∧ CanStore w1 (x.add (2 : Nat)) (0 : Nat) [Value.slice p n_1 c] ∧ ∀ (w1_1 : World), SetC w1 (x.add (2 : Nat)) [Value.slice p n_1 c] w1_1 → ∃ (p : Option Addr), ∃ (n : Nat), ∃ (c : Nat), w1_1.cell? (x.add (2 : Nat)) = some (Value.slice p n c) ∧ ∃ (I : Nat → List Value → World → Prop), (∃ (n : Nat), I n [Value.int IntKind.i64 (2 : Int)] w1_1) ∧ ∀ (n_2 : Nat) (n_3 : Int) (w1 : World), I n_2 [Value.int IntKind.i64 n_3] w1 → ∃ (p : Option Addr), ∃ (n_4 : Nat), ∃ (c : Nat), w1.cell? (x.add (0 : Nat)) = some (Value.slice p n_4 c) ∧ Br (decide (n_3 < (↑n_4 : Int))) (∃ (p : Option Addr), ∃ (n_5 : Nat), ∃ (c : Nat), w1.cell? (x.add (0 : Nat)) = some (Value.slice p n_5 c) ∧ optP p fun (a : Addr) => ((0 : Int) ≤ n_3 ∧ n_3 < (↑n_5 : Int)) ∧ ∃ (n_6 : Int), ∃ (n_7 : Int), ∃ (n_8 : Int), ∃ (n_9 : Int), ∃ (n_10 : Int), CellsAre w1 (a.add (n_3.toNat * (5 : Nat))) (0 : Nat) [Value.int IntKind.i64 n_6, Value.int IntKind.i32 n_7, Value.int IntKind.i16 n_8, Value.int IntKind.i8 n_9, Value.int IntKind.i8 n_10] ∧ ∀ (w1_2 : World), Ext w1 [OB.cells [Value.int IntKind.i64 n_6, Value.int IntKind.i32 n_7, Value.int IntKind.i16 n_8, Value.int IntKind.i8 n_9, Value.int IntKind.i8 n_10] (70 : Nat)] w1_2 → CallsF Tryz.prog (36 : Nat) (Array.mk [Value.pointer (some x), Value.int IntKind.i64 n_3]) w1_2 fun (e : Ending) (w : World) => ∃ (p : Option Addr), ∃ (n_11 : Nat), ∃ (c : Nat), e = Ending.returned (Value.slice p n_11 c) ∧ ∃ (n_12 : Int), w.cell? ((Addr.mk (w1.heap.size + (0 : Nat)) (0 : Nat) none).add (3 : Nat)) = some (Value.int IntKind.i8 n_12) ∧ ∃ (n_13 : Int), w.cell? ((Addr.mk (w1.heap.size + (0 : Nat)) (0 : Nat) none).add (2 : Nat)) = some (Value.int IntKind.i16 n_13) ∧ ∃ (n_14 : Int), w.cell? ((Addr.mk (w1.heap.size + (0 : Nat)) (0 : Nat) none).add (4 : Nat)) = some (Value.int IntKind.i8 n_14) ∧ ∀ (w1 : World), Ext w [OB.cells [Value.slice p n_11 c] (72 : Nat)] w1 → CallsF Tryz.prog (53 : Nat) (Array.mk [Value.int IntKind.i64 (IntKind.i64.wrap n_12), Value.int IntKind.i64 (IntKind.i64.wrap n_13), Value.int IntKind.i64 (IntKind.i64.wrap n_14), Value.int IntKind.i64 (↑n_11 : Int), Value.func (Fn.func (77 : Nat)) (Array.mk []) (Array.mk [Value.pointer (some (Addr.mk (w.heap.size + (0 : Nat)) (0 : Nat) none))])]) w1 fun (e : Ending) (w : World) => ∃ (n_15 : Int), e = Ending.returned (Value.int IntKind.u64 n_15) ∧ ∃ (I_1 : Nat → List Value → World → Prop), (∃ (n_16 : Nat), I_1 n_16 [Value.int IntKind.u64 (bitsV BinOp.and IntKind.u64 n_15 (IntKind.u64.wrap (IntKind.i64.wrap ((↑n : Int) - (1 : Int)))))] w) ∧ ∀ (n_16 : Nat) (n_17 : Int) (w1 : World), I_1 n_16 [Value.int IntKind.u64 n_17] w1 → ∃ (p : Option Addr), ∃ (n_18 : Nat), ∃ (c : Nat), w1.cell? (x.add (2 : Nat)) = some (Value.slice p n_18 c) ∧ optP p fun (a : Addr) => ((0 : Int) ≤ n_17 ∧ n_17 < (↑n_18 : Int)) ∧ ∃ (n_19 : Int), w1.cell? (a.add (n_17.toNat * (1 : Nat))) = some (Value.int IntKind.i32 n_19) ∧ Br (n_19 != (0 : Int)) (∃ (n' : Nat), n' < n_16 ∧ I_1 n' [Value.int IntKind.u64 (bitsV BinOp.and IntKind.u64 (IntKind.u64.wrap (n_17 + (1 : Int))) (IntKind.u64.wrap (IntKind.i64.wrap ((↑n : Int) - (1 : Int)))))] w1) (∃ (p : Option Addr), ∃ (n : Nat), ∃ (c : Nat), w1.cell? (x.add (2 : Nat)) = some (Value.slice p n c) ∧ optP p fun (a : Addr) => ((0 : Int) ≤ n_17 ∧ n_17 < (↑n : Int)) ∧ CanStore w1 (a.add (n_17.toNat * (1 : Nat))) (0 : Nat) [Value.int IntKind.i32 (IntKind.i32.wrap (IntKind.i64.wrap (n_3 + (1 : Int))))] ∧ ∀ (w1_3 : World), SetC w1 (a.add (n_17.toNat * (1 : Nat))) [Value.int IntKind.i32 (IntKind.i32.wrap (IntKind.i64.wrap (n_3 + (1 : Int))))] w1_3 → ∃ (n' : Nat), n' < n_2 ∧ I n' [Value.int IntKind.i64 (IntKind.i64.wrap (n_3 + (1 : Int)))] w1_3)) (R (Ending.returned (Value.tuple #[])) w1)
theorem E_formula_Store_grow (x : Addr) (w : World) (R : Ending → World → Prop) : shFn Tryz.prog Tryz.f56.ntmps Tryz.f56.results.toList (Tryz.f56.body.getD .skip) [Value.pointer (some x)] w R = S_formula_Store_grow x w R := by kernel_rfl
theorem C_formula_Store_grow (x : Addr) (w : World) (R : Ending → World → Prop) (h : S_formula_Store_grow x w R) : CallsF Tryz.prog 56 #[Value.pointer (some x)] w R :=
 ⟨Tryz.call56, calls_of_sh A1G1mixed Tryz.func56 rfl (Nat.le_of_ble_eq_true rfl) ((E_formula_Store_grow x w R).mpr h)⟩

/-- (*credence/formula.Store).intern -/
def S_formula_Store_intern (x : Addr) (y : Int) (z : Int) (u : Int) (v : Option Addr) (vn : Nat) (vc : Nat) (w : World) (R : Ending → World → Prop) : Prop :=
 ∃ (p : Option Addr), ∃ (n : Nat), ∃ (c : Nat), w.cell? (x.add (2 : Nat)) = some (Value.slice p n c) ∧ ∀ (w1 : World), Ext w [OB.cells [Value.slice v vn vc] (25 : Nat)] w1 → CallsF Tryz.prog (53 : Nat) (Array.mk [Value.int IntKind.i64 y, Value.int IntKind.i64 z, Value.int IntKind.i64 u, Value.int IntKind.i64 (↑vn : Int), Value.func (Fn.func (54 : Nat)) (Array.mk []) (Array.mk [Value.pointer (some (Addr.mk (w.heap.size + (0 : Nat)) (0 : Nat) none))])]) w1 fun (e : Ending) (w_1 : World) => ∃ (n_1 : Int), e = Ending.returned (Value.int IntKind.u64 n_1) ∧ ∃ (I : Nat → List Value → World → Prop), (∃ (n_2 : Nat), I n_2 [Value.int IntKind.i64 (0 : Int), Value.int IntKind.u64 (bitsV BinOp.and IntKind.u64 n_1 (IntKind.u64.wrap (IntKind.i64.wrap ((↑n : Int) - (1 : Int)))))] w_1) ∧ ∀ (n_2 : Nat) (n_3 n_4 : Int) (w1 : World), I n_2 [Value.int IntKind.i64 n_3, Value.int IntKind.u64 n_4] w1 → ∃ (p : Option Addr), ∃ (n_5 : Nat), ∃ (c : Nat), w1.cell? (x.add (2 : Nat)) = some (Value.slice p n_5 c) ∧ optP p fun (a : Addr) => ((0 : Int) ≤ n_4 ∧ n_4 < (↑n_5 : Int)) ∧ ∃ (n_6 : Int), w1.cell? (a.add (n_4.toNat * (1 : Nat))) = some (Value.int IntKind.i32 n_6) ∧ Br (n_6 != (0 : Int)) (∃ (p : Option Addr), ∃ (n_7 : Nat), ∃ (c : Nat), w1.cell? (x.add (2 : Nat)) = some (Value.slice p n_7 c) ∧ optP p fun (a : Addr) => ((0 : Int) ≤ n_4 ∧ n_4 < (↑n_7 : Int)) ∧ ∃ (n_8 : Int), w1.cell? (a.add (n_4.toNat * (1 : Nat))) = some (Value.int IntKind.i32 n_8) ∧ ∃ (p : Option Addr), ∃ (n_9 : Nat), ∃ (c : Nat), w1.cell? (Addr.mk (w.heap.size + (0 : Nat)) (0 : Nat) none) = some (Value.slice p n_9 c) ∧ CallsF Tryz.prog (55 : Nat) (Array.mk [Value.pointer (some x), Value.int IntKind.i64 (IntKind.i64.wrap (IntKind.i64.wrap n_8 - (1 : Int))), Value.int IntKind.i64 y, Value.int IntKind.i64 z, Value.int IntKind.i64 u, Value.slice p n_9 c]) w1 fun (e : Ending) (w : World) => ∃ (b : Bool), e = Ending.returned (Value.bool b) ∧ Br b (R (Ending.returned (Value.int IntKind.i64 (IntKind.i64.wrap (IntKind.i64.wrap n_8 - (1 : Int))))) w) (∃ (n' : Nat), n' < n_2 ∧ I n' [Value.int IntKind.i64 n_3, Value.int IntKind.u64 (bitsV BinOp.and IntKind.u64 (IntKind.u64.wrap (n_4 + (1 : Int))) (IntKind.u64.wrap (IntKind.i64.wrap ((↑n : Int) - (1 : Int)))))] w)) (∃ (p : Option Addr), ∃ (n : Nat), ∃ (c : Nat), w1.cell? (x.add (0 : Nat)) = some (Value.slice p n c) ∧ Br (decide ((↑n : Int) ≥ (33554432 : Int))) (R (Ending.returned (Value.int IntKind.i64 (-1 : Int))) w1) (∃ (p : Option Addr), ∃ (n : Nat), ∃ (c : Nat), w1.drew.cell? (x.add (0 : Nat)) = some (Value.slice p n c) ∧ ∃ (p_1 : Option Addr), ∃ (n_7 : Nat), ∃ (c_1 : Nat), w1.drew.cell? (x.add (1 : Nat)) = some (Value.slice p_1 n_7 c_1) ∧ ∃ (p_2 : Option Addr), ∃ (n_8 : Nat), ∃ (c_2 : Nat), w1.drew.cell? (Addr.mk (w.heap.size + (0 : Nat)) (0 : Nat) none) = some (Value.slice p_2 n_8 c_2) ∧ ∀ (w1_1 : World), Ext w1.drew [OB.cells [Value.int IntKind.i64 (↑n_7 : Int), Value.int IntKind.i32 (IntKind.i32.wrap (↑n_8 : Int)), Value.int IntKind.i16 (IntKind.i16.wrap z), Value.int IntKind.i8 (IntKind.i8.wrap y), Value.int IntKind.i8 (IntKind.i8.wrap u)] (70 : Nat)] w1_1 → w1_1.cell? (x.add (0 : Nat)) = some (Value.slice p n c) ∧ ∃ (w1_2 : World), ∃ (p_3 : Option Addr), ∃ (n_9 : Nat), ∃ (c_3 : Nat), Sem.run Tryz.prog (Builtin.append_ (Array.mk [(71 : Nat), (71 : Nat)]) (71 : Nat) (Array.mk [Value.slice p n c, Value.slice (some (Addr.mk (w1.drew.heap.size + (0 : Nat)) (0 : Nat) none)) (1 : Nat) (1 : Nat)])) w1_1 = Result.ok (Value.slice p_3 n_9 c_3) w1_2 ∧ CanStore w1_2 (x.add (0 : Nat)) (0 : Nat) [Value.slice p_3 n_9 c_3] ∧ ∀ (w1 : World), SetC w1_2 (x.add (0 : Nat)) [Value.slice p_3 n_9 c_3] w1 → ∃ (p : Option Addr), ∃ (n : Nat), ∃ (c : Nat), w1.cell? (Addr.mk (w.heap.size + (0 : Nat)) (0 : Nat) none) = some (Value.slice p n c) ∧ ∃ (I : Nat → List Value → World → Prop), (∃ (n : Nat), I n [Value.int IntKind.i64 (0 : Int)] w1) ∧ ∀ (n_10 : Nat) (n_11 : Int) (w1 : World), I n_10 [Value.int IntKind.i64 n_11] w1 → Br (decide (n_11 < (↑n : Int))) (optP p fun (a : Addr) => ((0 : Int) ≤ n_11 ∧ n_11 < (↑n : Int)) ∧ ∃ (n : Int), w1.cell? (a.add (n_11.toNat * (1 : Nat))) = some (Value.int IntKind.i64 n) ∧ ∃ (p : Option Addr), ∃ (n_12 : Nat), ∃ (c : Nat), w1.cell? (x.add (1 : Nat)) = some (Value.slice p n_12 c) ∧ ∀ (w1_3 : World), Ext w1 [OB.cells [Value.int IntKind.i32 (IntKind.i32.wrap n)] (21 : Nat)] w1_3 → ∃ (w1_4 : World), ∃ (p_4 : Option Addr), ∃ (n : Nat), ∃ (c_4 : Nat), Sem.run Tryz.prog (Builtin.append_ (Array.mk [(72 : Nat), (72 : Nat)]) (72 : Nat) (Array.mk [Value.slice p n_12 c, Value.slice (some (Addr.mk (w1.heap.size + (0 : Nat)) (0 : Nat) none)) (1 : Nat) (1 : Nat)])) w1_3 = Result.ok (Value.slice p_4 n c_4) w1_4 ∧ CanStore w1_4 (x.add (1 : Nat)) (0 : Nat) [Value.slice p_4 n c_4] ∧ ∀ (w1 : World), SetC w1_4 (x.add (1 : Nat)) [Value.slice p_4 n c_4] w1 → ∃ (n' : Nat), n' < n_10 ∧ I n' [Value.int IntKind.i64 (IntKind.i64.wrap (n_11 + (1 : Int)))] w1) (∃ (p : Option Addr), ∃ (n : Nat), ∃ (c : Nat), w1.drew.cell? (x.add (2 : Nat)) = some (Value.slice p n c) ∧ ∃ (p_4 : Option Addr), ∃ (n_12 : Nat), ∃ (c : Nat), w1.drew.cell? (x.add (0 : Nat)) = some (Value.slice p_4 n_12 c) ∧ optP p fun (a : Addr) => ((0 : Int) ≤ n_4 ∧ n_4 < (↑n : Int)) ∧ CanStore w1.drew (a.add (n_4.toNat * (1 : Nat))) (0 : Nat) [Value.int IntKind.i32 (IntKind.i32.wrap (↑n_12 : Int))] ∧ ∀ (w1_3 : World), SetC w1.drew (a.add (n_4.toNat * (1 : Nat))) [Value.int IntKind.i32 (IntKind.i32.wrap (↑n_12 : Int))] w1_3 → ∃ (p : Option Addr), ∃ (n : Nat), ∃ (c : Nat), w1_3.cell? (x.add (0 : Nat)) = some (Value.slice p n c) ∧ ∃ (p : Option Addr), ∃ (n_13 : Nat), ∃ (c : Nat), w1_3.drew.cell? (x.add (0 : Nat)) = some (Value.slice p n_13 c) ∧ ∃ (p : Option Addr), ∃ (n_14 : Nat), ∃ (c : Nat), w1_3.drew.cell? (x.add (2 : Nat)) = some (Value.slice p n_14 c) ∧ ∀ (J : List Value → World → Prop), (∀ (w1 : World), R (Ending.returned (Value.int IntKind.i64 (IntKind.i64.wrap ((↑n : Int) - (1 : Int))))) w1 → J [] w1) → Br (decide (IntKind.i64.wrap ((2 : Int) * (↑n_13 : Int)) > (↑n_14 : Int))) (CallsF Tryz.prog (56 : Nat) (Array.mk [Value.pointer (some x)]) w1_3.drew fun (e : Ending) (w : World) => e = Ending.returned (Value.tuple #[]) ∧ J [] w) (J [] w1_3.drew))))
theorem E_formula_Store_intern (x : Addr) (y : Int) (z : Int) (u : Int) (v : Option Addr) (vn : Nat) (vc : Nat) (w : World) (R : Ending → World → Prop) : shFn Tryz.prog Tryz.f33.ntmps Tryz.f33.results.toList (Tryz.f33.body.getD .skip) [Value.pointer (some x), Value.int IntKind.i64 y, Value.int IntKind.i64 z, Value.int IntKind.i64 u, Value.slice v vn vc] w R = S_formula_Store_intern x y z u v vn vc w R := by kernel_rfl
theorem C_formula_Store_intern (x : Addr) (y : Int) (z : Int) (u : Int) (v : Option Addr) (vn : Nat) (vc : Nat) (w : World) (R : Ending → World → Prop) (h : S_formula_Store_intern x y z u v vn vc w R) : CallsF Tryz.prog 33 #[Value.pointer (some x), Value.int IntKind.i64 y, Value.int IntKind.i64 z, Value.int IntKind.i64 u, Value.slice v vn vc] w R :=
 ⟨Tryz.call33, calls_of_sh A1G1mixed Tryz.func33 rfl (Nat.le_of_ble_eq_true rfl) ((E_formula_Store_intern x y z u v vn vc w R).mpr h)⟩

/-- (*credence/formula.Store).Pick -/
def S_formula_Store_Pick (x : Addr) (y : Int) (z : Int) (w : World) (R : Ending → World → Prop) : Prop :=
 CallsF Tryz.prog (32 : Nat) (Array.mk [Value.int IntKind.i64 y, Value.int IntKind.i64 z]) w fun (e : Ending) (w : World) => ∃ (b : Bool), e = Ending.returned (Value.bool b) ∧ Br (!b) (R (Ending.returned (Value.int IntKind.i64 (-1 : Int))) w) (CallsF Tryz.prog (33 : Nat) (Array.mk [Value.pointer (some x), Value.int IntKind.i64 (2 : Int), Value.int IntKind.i64 y, Value.int IntKind.i64 z, Value.slice none (0 : Nat) (0 : Nat)]) w fun (e : Ending) (w : World) => ∃ (n : Int), e = Ending.returned (Value.int IntKind.i64 n) ∧ R (Ending.returned (Value.int IntKind.i64 n)) w)
theorem E_formula_Store_Pick (x : Addr) (y : Int) (z : Int) (w : World) (R : Ending → World → Prop) : shFn Tryz.prog Tryz.f14.ntmps Tryz.f14.results.toList (Tryz.f14.body.getD .skip) [Value.pointer (some x), Value.int IntKind.i64 y, Value.int IntKind.i64 z] w R = S_formula_Store_Pick x y z w R := by kernel_rfl
theorem C_formula_Store_Pick (x : Addr) (y : Int) (z : Int) (w : World) (R : Ending → World → Prop) (h : S_formula_Store_Pick x y z w R) : CallsF Tryz.prog 14 #[Value.pointer (some x), Value.int IntKind.i64 y, Value.int IntKind.i64 z] w R :=
 ⟨Tryz.call14, calls_of_sh A1G1mixed Tryz.func14 rfl (Nat.le_of_ble_eq_true rfl) ((E_formula_Store_Pick x y z w R).mpr h)⟩

/-- (*credence/formula.Store).Not -/
def S_formula_Store_Not (x : Addr) (y : Int) (w : World) (R : Ending → World → Prop) : Prop :=
 CallsF Tryz.prog (35 : Nat) (Array.mk [Value.pointer (some x), Value.int IntKind.i64 y]) w fun (e : Ending) (w : World) => ∃ (b : Bool), e = Ending.returned (Value.bool b) ∧ Br (!b) (R (Ending.returned (Value.int IntKind.i64 (-1 : Int))) w) (Br (decide (y < (2 : Int))) (R (Ending.returned (Value.int IntKind.i64 (IntKind.i64.wrap ((1 : Int) - y)))) w) (∃ (p : Option Addr), ∃ (n : Nat), ∃ (c : Nat), w.cell? (x.add (0 : Nat)) = some (Value.slice p n c) ∧ optP p fun (a : Addr) => ((0 : Int) ≤ y ∧ y < (↑n : Int)) ∧ ∃ (n : Int), w.cell? ((a.add (y.toNat * (5 : Nat))).add (3 : Nat)) = some (Value.int IntKind.i8 n) ∧ Br (n == (3 : Int)) (CallsF Tryz.prog (36 : Nat) (Array.mk [Value.pointer (some x), Value.int IntKind.i64 y]) w fun (e : Ending) (w : World) => ∃ (p : Option Addr), ∃ (n : Nat), ∃ (c : Nat), e = Ending.returned (Value.slice p n c) ∧ optP p fun (a : Addr) => ((0 : Int) ≤ (0 : Int) ∧ (0 : Int) < (↑n : Int)) ∧ ∃ (n : Int), w.cell? (a.add (0 : Nat)) = some (Value.int IntKind.i32 n) ∧ R (Ending.returned (Value.int IntKind.i64 (IntKind.i64.wrap n))) w) (∀ (w1 : World), Ext w [OB.cells [Value.int IntKind.i64 y] (3 : Nat)] w1 → CallsF Tryz.prog (33 : Nat) (Array.mk [Value.pointer (some x), Value.int IntKind.i64 (3 : Int), Value.int IntKind.i64 (0 : Int), Value.int IntKind.i64 (0 : Int), Value.slice (some (Addr.mk (w.heap.size + (0 : Nat)) (0 : Nat) none)) (1 : Nat) (1 : Nat)]) w1 fun (e : Ending) (w : World) => ∃ (n : Int), e = Ending.returned (Value.int IntKind.i64 n) ∧ R (Ending.returned (Value.int IntKind.i64 n)) w)))
theorem E_formula_Store_Not (x : Addr) (y : Int) (w : World) (R : Ending → World → Prop) : shFn Tryz.prog Tryz.f16.ntmps Tryz.f16.results.toList (Tryz.f16.body.getD .skip) [Value.pointer (some x), Value.int IntKind.i64 y] w R = S_formula_Store_Not x y w R := by kernel_rfl
theorem C_formula_Store_Not (x : Addr) (y : Int) (w : World) (R : Ending → World → Prop) (h : S_formula_Store_Not x y w R) : CallsF Tryz.prog 16 #[Value.pointer (some x), Value.int IntKind.i64 y] w R :=
 ⟨Tryz.call16, calls_of_sh A1G1mixed Tryz.func16 rfl (Nat.le_of_ble_eq_true rfl) ((E_formula_Store_Not x y w R).mpr h)⟩


end Go.Proofs.YtajfdcbknghipaaGreatDoor
end

section
/- The formula store in memory: what holds of its blocks, and what is read there. No condition. -/
namespace Go.Proofs.YtajfdcbknghipaaGreatDoor
open Go Go.Sh Go.Fm

abbrev vi (n : Int) : Value := .int .i64 n
def entC (k : Nat) (n : Nd) : List Value := [.int .i64 k, .int .i32 n.ins.length, .int .i16 n.block, .int .i8 n.kind, .int .i8 n.alt]
def ents : Nat → List Nd → List Value
  | _, [] => []
  | k, n :: l => entC k n ++ ents (k + n.ins.length) l
def i32s (l : List Nat) : List Value := l.map fun (x : Nat) => Value.int .i32 (x : Int)
def ints (l : List Int) : List Value := l.map fun x => .int .i64 x

theorem ents_get : ∀ {L : List Nd} {k i : Nat} {n : Nd}, L[i]? = some n → ∀ j, j < 5 → (ents k L)[i * 5 + j]? = (entC (k + off L i) n)[j]?
  | [], _, _, _, h, _, _ => by cases h
  | m :: L, k, 0, n, h, j, hj => by
    simp only [List.getElem?_cons_zero, Option.some.injEq] at h
    subst h
    rw [off_zero, Nat.zero_mul, Nat.zero_add, Nat.add_zero, ents, List.getElem?_append_left (by simpa [entC] using hj)]
  | m :: L, k, i + 1, n, h, j, hj => by
    rw [off_cons, ents, List.getElem?_append_right (by simp [entC]; omega)]
    have := ents_get (L := L) (k := k + m.ins.length) (i := i) (n := n) (by simpa using h) j hj
    rw [show (i + 1) * 5 + j - (entC k m).length = i * 5 + j by simp [entC]; omega, this]
    congr 2; omega
theorem ents_length : ∀ (L : List Nd) (k : Nat), (ents k L).length = L.length * 5
  | [], _ => rfl
  | n :: L, k => by rw [ents, List.length_append, ents_length L]; simp [entC]; omega
theorem ents_snoc : ∀ (L : List Nd) (k : Nat) (n : Nd), ents k (L ++ [n]) = ents k L ++ entC (k + (insA L).length) n
  | [], k, n => by simp [ents, insA]
  | m :: L, k, n => by
    rw [List.cons_append, ents, ents, ents_snoc L, insA_cons, List.length_append, List.append_assoc]
    congr 3; omega

/-- The parts of a store in memory. -/
structure SD where
  bs : Nat
  bt : Nat
  pe : Option Addr
  pi : Option Addr
  ce : Nat
  ci : Nat
  T : List Int
def SD.fp (d : SD) : Nat → Prop := fun b => b = d.bs ∨ b = d.bt ∨ At d.pe b ∨ At d.pi b

/-- A store of the nodes L lies at s. -/
structure StM (w : World) (s : Addr) (L : List Nd) (d : SD) : Prop where
  addr : s = ⟨d.bs, 0, none⟩
  hdr : Blk w d.bs [.slice d.pe L.length d.ce, .slice d.pi (insA L).length d.ci, .slice (some ⟨d.bt, 0, none⟩) d.T.length d.T.length] 74
  ent : Own w 70 5 d.pe L.length d.ce (ents 0 L)
  ins : Own w 21 1 d.pi (insA L).length d.ci (i32s (insA L))
  tab : Blk w d.bt (d.T.map fun x => .int .i32 x) 21
  ne1 : d.bs ≠ d.bt
  ne2 : ¬ At d.pe d.bs
  ne3 : ¬ At d.pe d.bt
  ne4 : ¬ At d.pi d.bs
  ne5 : ¬ At d.pi d.bt
  ne6 : ∀ b, At d.pe b → ¬ At d.pi b

theorem StM.keep {fp : Nat → Prop} {w w' : World} {s : Addr} {L : List Nd} {d : SD} (h : StM w s L d) (hm : Mod fp w w') (hn : ∀ b, d.fp b → ¬ fp b) : StM w' s L d :=
  ⟨h.addr, h.hdr.keep hm (hn _ (.inl rfl)), h.ent.keep hm fun b hb => hn _ (.inr (.inr (.inl hb))), h.ins.keep hm fun b hb => hn _ (.inr (.inr (.inr hb))), h.tab.keep hm (hn _ (.inr (.inl rfl))), h.ne1, h.ne2, h.ne3, h.ne4, h.ne5, h.ne6⟩
theorem StM.lt {w : World} {s : Addr} {L : List Nd} {d : SD} (h : StM w s L d) : ∀ b, d.fp b → b < w.heap.size := by
  rintro b (rfl | rfl | hb | hb)
  · exact h.hdr.lt
  · exact h.tab.lt
  · exact h.ent.lt b hb
  · exact h.ins.lt b hb
theorem NoB.not {b : Nat} : ¬ NoB b := fun h => h
theorem StM.same {w w' : World} {s : Addr} {L : List Nd} {d : SD} (h : StM w s L d) (hm : Mod NoB w w') : StM w' s L d := h.keep hm fun _ _ => NoB.not

theorem StM.c0 {w : World} {s : Addr} {L : List Nd} {d : SD} (h : StM w s L d) : w.cell? (s.add 0) = some (.slice d.pe L.length d.ce) := by
  rw [h.addr, own_add, h.hdr.cell]; rfl
theorem StM.c1 {w : World} {s : Addr} {L : List Nd} {d : SD} (h : StM w s L d) : w.cell? (s.add 1) = some (.slice d.pi (insA L).length d.ci) := by
  rw [h.addr, own_add, h.hdr.cell]; rfl
theorem StM.c2 {w : World} {s : Addr} {L : List Nd} {d : SD} (h : StM w s L d) : w.cell? (s.add 2) = some (.slice (some ⟨d.bt, 0, none⟩) d.T.length d.T.length) := by
  rw [h.addr, own_add, h.hdr.cell]; rfl

/-- Entry i, as it lies in memory. -/
theorem StM.entry {w : World} {s : Addr} {L : List Nd} {d : SD} (h : StM w s L d) {i : Nat} {n : Nd} (hi : L[i]? = some n) : ∃ a, d.pe = some a ∧ CellsAre w (a.add (i * 5)) 0 (entC (off L i) n) := by
  have h0 := ents_get (k := 0) hi 0 (by omega)
  simp only [Nat.zero_add, Nat.add_zero] at h0
  obtain ⟨a, ha, _⟩ := h.ent.row.at (i := i * 5) (v := .int .i64 (off L i)) (by rw [h0]; rfl)
  refine ⟨a, ha, ?_⟩
  have hr := h.ent.row
  rw [ha] at hr
  refine hr.cells _ _ _ fun j v hj => ?_
  have hj5 : j < 5 := by have := (List.getElem?_eq_some_iff.1 hj).1; simpa [entC] using this
  rw [Nat.add_zero, ents_get (k := 0) hi j hj5, Nat.zero_add]
  exact hj
theorem StM.entry_cell {w : World} {s : Addr} {L : List Nd} {d : SD} (h : StM w s L d) {i : Nat} {n : Nd} (hi : L[i]? = some n) : ∃ a, d.pe = some a ∧ ∀ j v, (entC (off L i) n)[j]? = some v → w.cell? ((a.add (i * 5)).add j) = some v := by
  obtain ⟨a, ha, hc⟩ := h.entry hi
  refine ⟨a, ha, fun j v hj => ?_⟩
  have key : ∀ (vs : List Value) (k j : Nat) (v : Value), CellsAre w (a.add (i * 5)) k vs → vs[j]? = some v → w.cell? ((a.add (i * 5)).add (k + j)) = some v := by
    intro vs
    induction vs with
    | nil => intro k j v _ h; cases h
    | cons u vs ih =>
      intro k j v hc hj
      cases j with
      | zero => simp only [List.getElem?_cons_zero, Option.some.injEq] at hj; subst hj; exact hc.1
      | succ j => have := ih (k + 1) j v hc.2 (by simpa using hj); rw [show k + (j + 1) = k + 1 + j by omega]; exact this
  simpa using key _ 0 j v hc hj
/-- The inputs of node i, as they lie in memory. -/
theorem StM.insRow {w : World} {s : Addr} {L : List Nd} {d : SD} (h : StM w s L d) {i : Nat} {n : Nd} (hi : L[i]? = some n) (hn : n.ins ≠ []) : ∃ a, d.pi = some a ∧ Row w (some (a.add (off L i))) (i32s n.ins) := by
  rcases n with ⟨k, b, al, ins⟩
  cases ins with
  | nil => exact absurd rfl hn
  | cons x xs =>
    have h0 := insA_get hi 0 x rfl
    obtain ⟨a, ha, _⟩ := h.ins.row.at (i := off L i + 0) (v := .int .i32 x) (by unfold i32s; rw [List.getElem?_map, h0]; rfl)
    refine ⟨a, ha, .inr ⟨_, rfl, fun j v hj => ?_⟩⟩
    unfold i32s at hj
    rw [List.getElem?_map] at hj
    cases hx : (x :: xs)[j]? with
    | none => rw [hx] at hj; cases hj
    | some y =>
      rw [hx] at hj
      simp only [Option.map_some, Option.some.injEq] at hj
      subst hj
      have h1 := insA_get hi j y hx
      obtain ⟨a', ha', hc⟩ := h.ins.row.at (i := off L i + j) (v := .int .i32 y) (by unfold i32s; rw [List.getElem?_map, h1]; rfl)
      rw [ha] at ha'
      injection ha' with ha'
      subst ha'
      rw [add_add]; exact hc

end Go.Proofs.YtajfdcbknghipaaGreatDoor
end

section
/- Contracts of the small functions of the formula store. Each says under which conditions on memory it holds. -/
namespace Go.Proofs.YtajfdcbknghipaaGreatDoor
open Go Go.Sh Go.Fm

variable {w : World} {s : Addr} {L : List Nd} {d : SD}

theorem ret_bool {a b : Bool} (h : a = b) : Ending.returned (.bool a) = .returned (.bool b) := by rw [h]
theorem ret_i64 {a b : Int} (h : a = b) : Ending.returned (.int .i64 a) = .returned (.int .i64 b) := by rw [h]

def validP (b a : Int) : Bool := decide (0 ≤ b ∧ b < 4096 ∧ -1 ≤ a ∧ a < 16)
theorem validPick_ok (b a : Int) (w : World) : CallsF Tryz.prog 32 #[.int .i64 b, .int .i64 a] w (Ret (.bool (validP b a)) NoB w) := by
  refine C_formula_validPick _ _ _ _ ?_
  intro J hJ
  unfold validP at *
  refine Br_dec (fun h1 => Br_dec (fun h2 => Br_dec (fun h3 => ?_) fun h3 => ?_) fun h2 => ?_) fun h1 => ?_ <;> refine hJ _ _ ⟨ret_bool ?_, Mod.refl _ _⟩ <;>
    first | exact decide_eq_decide.2 (by omega) | exact (decide_eq_false (by omega)).symm

theorem has_ok (h : StM w s L d) (a : Int) : CallsF Tryz.prog 35 #[.pointer (some s), .int .i64 a] w (Ret (.bool (decide (0 ≤ a ∧ a < L.length))) NoB w) := by
  refine C_formula_Store_has _ _ _ _ ?_
  intro J hJ
  refine Br_dec (fun h1 => ⟨_, _, _, h.c0, hJ _ _ ⟨ret_bool ?_, Mod.refl _ _⟩⟩) fun h1 => hJ _ _ ⟨ret_bool ?_, Mod.refl _ _⟩ <;> first | exact decide_eq_decide.2 (by omega) | exact (decide_eq_false (by omega)).symm

/-- inputsOf: the inputs of a node, as a slice of the store's own memory. -/
theorem inputsOf_ok (h : StM w s L d) (hb : (insA L).length ≤ 2147483647) {a : Nat} {n : Nd} (ha : L[a]? = some n) :
    CallsF Tryz.prog 36 #[.pointer (some s), .int .i64 a] w fun e w' => ∃ p c, e = .returned (.slice p n.ins.length c) ∧ Row w' p (i32s n.ins) ∧ (∀ b, At p b → d.fp b) ∧ Mod NoB w w' := by
  have hoff := off_le ha
  have hin := h.ins.le
  refine C_formula_Store_inputsOf _ _ _ _ ?_
  obtain ⟨ad, hpe, hc⟩ := h.entry ha
  have hlt : a < L.length := (List.getElem?_eq_some_iff.1 ha).1
  refine ⟨_, _, _, h.c0, ?_⟩
  rw [hpe]
  refine ⟨⟨by omega, by omega⟩, _, _, _, _, _, by rw [Int.toNat_natCast]; exact hc, _, _, _, (h.same (drew_mod w)).c1, ?_⟩
  have e1 : IntKind.i64.wrap (n.ins.length : Int) = n.ins.length := wrap_i64 (by omega) (by omega)
  have e2 : IntKind.i64.wrap ((off L a : Int) + (n.ins.length : Int)) = ((off L a + n.ins.length : Nat) : Int) := by rw [wrap_i64 (by omega) (by omega)]; omega
  rw [e1, e2]
  refine ⟨⟨by omega, by omega⟩, ⟨by omega, by rw [Int.toNat_natCast]; omega⟩, fun w1 hw1 => ?_⟩
  rw [Int.toNat_natCast, Int.toNat_natCast, Nat.add_sub_cancel_left]
  have hm : Mod NoB w w1 := (drew_mod w).then hw1.mod
  refine ⟨_, _, rfl, ?_, ?_, hm⟩
  · by_cases hn : n.ins = []
    · rw [hn]; exact .inl rfl
    · obtain ⟨ai, hpi, hrow⟩ := h.insRow ha hn
      have hpos : 0 < n.ins.length := List.length_pos_iff.2 hn
      unfold sliceA
      rw [if_neg (by omega), hpi, Nat.mul_one]
      exact hrow.keep hm fun _ _ => NoB.not
  · rintro b ⟨x, hx, rfl⟩
    unfold sliceA at hx
    split at hx
    · exact .inr (.inr (.inr ⟨x, hx, rfl⟩))
    · cases hp : d.pi with
      | none => rw [hp] at hx; cases hx
      | some y =>
        rw [hp] at hx
        simp only [Option.map_some, Option.some.injEq] at hx
        subst hx
        refine .inr (.inr (.inr ⟨y, hp, ?_⟩))
        rw [add_block]

/-! The hash of a node, as a function. -/
def mixF (x : Int) : Int :=
  let a := IntKind.u64.wrap (x + 11400714819323198485)
  let b := IntKind.u64.wrap (bitsV .xor .u64 a (shrV .u64 a 30) * 13787848793156543929)
  let c := IntKind.u64.wrap (bitsV .xor .u64 b (shrV .u64 b 27) * 10723151780598845931)
  bitsV .xor .u64 c (shrV .u64 c 31)
theorem mix_ok (x : Int) (w : World) : CallsF Tryz.prog 76 #[.int .u64 x] w (Ret (.int .u64 (mixF x)) NoB w) := by
  refine C_formula_mix _ _ _ ?_
  exact ⟨by omega, by omega, by omega, rfl, Mod.refl _ _⟩

def hash0 (kind block alt : Int) : Int := mixF (bitsV .or .u64 (bitsV .or .u64 (IntKind.u64.wrap kind) (shlV .u64 (IntKind.u64.wrap (IntKind.i64.wrap (alt + 1))) 8)) (shlV .u64 (IntKind.u64.wrap block) 16))
def hashL (h : Int) : List Nat → Int
  | [] => h
  | x :: xs => hashL (mixF (bitsV .xor .u64 h (IntKind.u64.wrap x))) xs
theorem hashL_snoc (h : Int) (l : List Nat) (x : Nat) : hashL h (l ++ [x]) = mixF (bitsV .xor .u64 (hashL h l) (IntKind.u64.wrap x)) := by
  induction l generalizing h with
  | nil => rfl
  | cons y l ih => exact ih _
def hashN (n : Nd) : Int := hashL (hash0 n.kind n.block n.alt) n.ins

/-- hashNode, handed a function that gives the inputs. -/
theorem hashNode_ok {n : Nd} {f : Nat} {cap : Array Value} (hlen : n.ins.length ≤ 9223372036854775806)
    (hf : ∀ w', Mod NoB w w' → ∀ (i x : Nat), n.ins[i]? = some x → CallsF Tryz.prog f (#[] ++ #[.int .i64 (i : Nat)] ++ cap) w' (Ret (.int .i64 x) NoB w')) :
    CallsF Tryz.prog 53 #[.int .i64 n.kind, .int .i64 n.block, .int .i64 n.alt, .int .i64 n.ins.length, .func (.func f) #[] cap] w (Ret (.int .u64 (hashN n)) NoB w) := by
  refine C_formula_hashNode _ _ _ _ _ _ _ _ ?_
  refine ⟨by omega, by omega, (mix_ok _ _).mono ?_⟩
  rintro e w1 ⟨rfl, hm1⟩
  refine ⟨_, rfl, fun m vs w' => ∃ k : Nat, k ≤ n.ins.length ∧ m = n.ins.length - k ∧ vs = [.int .u64 (hashL (hash0 n.kind n.block n.alt) (n.ins.take k)), .int .i64 k] ∧ Mod NoB w w', ⟨_, 0, Nat.zero_le _, rfl, rfl, hm1⟩, ?_⟩
  rintro m n1 n2 w2 ⟨k, hk, rfl, hvs, hm2⟩
  simp only [List.cons.injEq, Value.int.injEq, true_and, and_true] at hvs
  obtain ⟨rfl, rfl⟩ := hvs
  refine Br_dec (fun hlt => ?_) fun hge => ?_
  · have hk' : k < n.ins.length := by omega
    have hx : n.ins[k]? = some n.ins[k] := List.getElem?_eq_getElem hk'
    refine (hf w2 hm2 k _ hx).mono ?_
    rintro e w3 ⟨rfl, hm3⟩
    refine ⟨_, rfl, (mix_ok _ _).mono ?_⟩
    rintro e w4 ⟨rfl, hm4⟩
    refine ⟨_, rfl, n.ins.length - (k + 1), by omega, k + 1, hk', rfl, ?_, (hm2.then hm3).then hm4⟩
    rw [List.take_succ_eq_append_getElem hk', hashL_snoc, wrap_i64 (by omega) (by omega)]
    rfl
  · have : k = n.ins.length := by omega
    subst this
    rw [List.take_length]
    exact ⟨rfl, hm2⟩

/-- The closure of intern: it reads the slice that it captured. -/
theorem intern1_ok {c : Addr} {p : Option Addr} {m mc : Nat} {l : List Int} {i : Nat} {x : Int} (hc : w.cell? c = some (.slice p m mc)) (hr : Row w p (ints l)) (hm : m = l.length) (hx : l[i]? = some x) :
    CallsF Tryz.prog 54 (#[] ++ #[.int .i64 i] ++ #[.pointer (some c)]) w (Ret (.int .i64 x) NoB w) := by
  have hlt := (List.getElem?_eq_some_iff.1 hx).1
  obtain ⟨a, hp, hcell⟩ := hr.at (i := i) (v := .int .i64 x) (by unfold ints; rw [List.getElem?_map, hx]; rfl)
  refine C_formula_Store_intern_1 _ _ _ _ ?_
  refine ⟨_, _, _, hc, ?_⟩
  rw [hp]
  exact ⟨⟨by omega, by omega⟩, _, by rw [Int.toNat_natCast, Nat.mul_one]; exact hcell, rfl, Mod.refl _ _⟩
theorem grow1_ok {c : Addr} {p : Option Addr} {m mc : Nat} {l : List Nat} {i x : Nat} (hc : w.cell? c = some (.slice p m mc)) (hr : Row w p (i32s l)) (hm : m = l.length) (hx : l[i]? = some x) (hb : x ≤ 2147483647) :
    CallsF Tryz.prog 77 (#[] ++ #[.int .i64 i] ++ #[.pointer (some c)]) w (Ret (.int .i64 x) NoB w) := by
  have hlt := (List.getElem?_eq_some_iff.1 hx).1
  obtain ⟨a, hp, hcell⟩ := hr.at (i := i) (v := .int .i32 x) (by unfold i32s; rw [List.getElem?_map, hx]; rfl)
  refine C_formula_Store_grow_1 _ _ _ _ ?_
  refine ⟨_, _, _, hc, ?_⟩
  rw [hp]
  exact ⟨⟨by omega, by omega⟩, _, by rw [Int.toNat_natCast, Nat.mul_one]; exact hcell, ret_i64 (wrap_i64 (by omega) (by omega)), Mod.refl _ _⟩

end Go.Proofs.YtajfdcbknghipaaGreatDoor
end

section
/- The comparison of a stored node with given fields. Conditions on memory as stated. -/
namespace Go.Proofs.YtajfdcbknghipaaGreatDoor
open Go Go.Sh Go.Fm

variable {w : World} {s : Addr} {L : List Nd} {d : SD}

def natI (l : List Nat) : List Int := l.map fun (x : Nat) => (x : Int)
theorem natI_get (l : List Nat) (i : Nat) : (natI l)[i]? = (l[i]?).map fun (x : Nat) => (x : Int) := by unfold natI; rw [List.getElem?_map]
theorem ints_get (l : List Int) (i : Nat) : (ints l)[i]? = (l[i]?).map fun x => Value.int .i64 x := by unfold ints; rw [List.getElem?_map]
theorem i32s_get (l : List Nat) (i : Nat) : (i32s l)[i]? = (l[i]?).map fun (x : Nat) => Value.int .i32 (x : Int) := by unfold i32s; rw [List.getElem?_map]

theorem equal_ok (h : StM w s L d) (hb : (insA L).length ≤ 2147483647) (hok : ∀ i n, L[i]? = some n → NdOK i n) (hL : L.length ≤ 2147483647) {a : Nat} {m n : Nd} (ha : L[a]? = some m) {p : Option Addr} {c : Nat} (hr : Row w p (ints (natI n.ins))) :
    CallsF Tryz.prog 55 #[.pointer (some s), .int .i64 a, .int .i64 n.kind, .int .i64 n.block, .int .i64 n.alt, .slice p n.ins.length c] w (Ret (.bool (decide (m = n))) NoB w) := by
  have hlt : a < L.length := (List.getElem?_eq_some_iff.1 ha).1
  have hm := hok a m ha
  have hml : m.ins.length ≤ 2147483647 := by have := off_le ha; omega
  refine C_formula_Store_equal _ _ _ _ _ _ _ _ _ _ ?_
  obtain ⟨ad, hpe, hc⟩ := h.entry ha
  refine ⟨_, _, _, h.c0, ?_⟩
  rw [hpe]
  refine ⟨⟨by omega, by omega⟩, _, _, _, _, _, by rw [Int.toNat_natCast]; exact hc, ?_⟩
  intro w1 hw1 J hJ
  have hbk := hw1.blk 0 rfl
  have hcell : ∀ j, w1.cell? ((⟨w.heap.size + 0, 0, none⟩ : Addr).add j) = (entC (off L a) m)[j]? := by
    intro j; rw [own_add, hbk.cell, Nat.zero_add]; rfl
  have hno : m ≠ n → J [.bool true] w1 := fun hne => hJ _ _ (Br_true rfl ⟨ret_bool (by simp [hne]), hw1.mod⟩)
  refine ⟨m.kind, hcell 3, ?_⟩
  rw [wrap_i64 (by have := hm.k0; omega) (by have := hm.k1; omega)]
  refine Br_ne (fun hne => hno (by rintro rfl; exact hne rfl)) fun hk => ?_
  refine ⟨m.block, hcell 2, ?_⟩
  rw [wrap_i64 (by have := hm.b0; omega) (by have := hm.b1; omega)]
  refine Br_ne (fun hne => hno (by rintro rfl; exact hne rfl)) fun hbl => ?_
  refine ⟨m.alt, hcell 4, ?_⟩
  rw [wrap_i64 (by have := hm.a0; omega) (by have := hm.a1; omega)]
  refine Br_ne (fun hne => hno (by rintro rfl; exact hne rfl)) fun hal => ?_
  refine ⟨m.ins.length, hcell 1, ?_⟩
  rw [wrap_i64 (by omega) (by omega)]
  by_cases hlen : m.ins.length = n.ins.length
  case neg =>
    have : (((m.ins.length : Nat) : Int) != ((n.ins.length : Nat) : Int)) = true := by rw [bne_iff_ne]; omega
    rw [this]
    exact hno (by rintro rfl; exact hlen rfl)
  have : (((m.ins.length : Nat) : Int) != ((n.ins.length : Nat) : Int)) = false := by rw [hlen]; simp
  rw [this]
  refine hJ _ _ (Br_false rfl ?_)
  refine (inputsOf_ok (h.same hw1.mod) hb ha).mono ?_
  rintro e w2 ⟨q, qc, rfl, hq, _, hm2⟩
  have hm02 : Mod NoB w w2 := hw1.mod.then hm2
  refine ⟨_, _, _, rfl, fun k vs w' => ∃ i : Nat, i ≤ m.ins.length ∧ k = m.ins.length - i ∧ vs = [.bool false, .int .i64 i] ∧ Mod NoB w2 w' ∧ m.ins.take i = n.ins.take i, ⟨_, 0, Nat.zero_le _, rfl, rfl, Mod.refl _ _, rfl⟩, ?_⟩
  rintro k b i w3 ⟨j, hj, rfl, hvs, hm3, heq⟩
  simp only [List.cons.injEq, Value.int.injEq, true_and, and_true, Value.bool.injEq] at hvs
  obtain ⟨rfl, rfl⟩ := hvs
  have hm03 : Mod NoB w w3 := hm02.then hm3
  refine Br_dec (fun hlt => ?_) fun hge => ?_
  · have hj' : j < m.ins.length := by omega
    have hjn : j < n.ins.length := by omega
    have hx : m.ins[j]? = some m.ins[j] := List.getElem?_eq_getElem hj'
    have hy : n.ins[j]? = some n.ins[j] := List.getElem?_eq_getElem hjn
    obtain ⟨aq, rfl, hcq⟩ := (hq.keep hm3 fun _ _ => NoB.not).at (i := j) (v := .int .i32 m.ins[j]) (by rw [i32s_get, hx]; rfl)
    obtain ⟨ap, rfl, hcp⟩ := (hr.keep hm03 fun _ _ => NoB.not).at (i := j) (v := .int .i64 n.ins[j]) (by rw [ints_get, natI_get, hy]; rfl)
    refine ⟨⟨by omega, by omega⟩, _, by rw [Int.toNat_natCast, Nat.mul_one]; exact hcq, ⟨by omega, by omega⟩, _, by rw [Int.toNat_natCast, Nat.mul_one]; exact hcp, ?_⟩
    have hxl := hm.lt _ (List.getElem_mem hj')
    rw [wrap_i64 (by omega) (by omega)]
    refine Br_ne (fun hne => ⟨ret_bool ?_, hm03⟩) fun hxy => ⟨m.ins.length - (j + 1), by omega, j + 1, hj', rfl, ?_, hm3, ?_⟩
    · have : m ≠ n := by rintro rfl; exact hne rfl
      simp [this]
    · rw [wrap_i64 (by omega) (by omega)]; rfl
    · rw [List.take_succ_eq_append_getElem hj', List.take_succ_eq_append_getElem hjn, heq]
      congr 2; omega
  · have hjl : j = m.ins.length := by omega
    subst hjl
    rw [List.take_length] at heq
    rw [hlen, List.take_length] at heq
    have : m = n := by cases m; cases n; simp only at hk hbl hal heq; subst hk; subst hbl; subst hal; subst heq; rfl
    exact ⟨ret_bool (by simp [this]), hm03⟩

end Go.Proofs.YtajfdcbknghipaaGreatDoor
end
