/- The law TransformCondition of the package credencelaw23 answers true at every input and leaves its arguments as they were (Rows.TransformConditionCardSaid); no condition beyond the card's own: the three listed tables stand as the program's text lays them. Part 1 of 25. -/
import Derived.Calls
import Derived.Still
import Derived.Laws.Sem
import Derived.Laws.World
import Derived.Laws.Entries

section
/- Definitions of a symbolic walk of the code of a function: it turns the code into a proposition on memory, which is then proved. No condition. -/
namespace Go.Sh
open Go

/-- Kinds of values. -/
inductive PK where
  | int (k : IntKind) | bool | str | ptr | sl | mp | any
/-- A component: one cell, or a row of cells. -/
inductive PC where
  | one (k : PK) | agg (ks : List PK)
inductive Pat where
  | c (p : PC) | tup (ps : List PC)

def exK : PK → (Value → Prop) → Prop
  | .int k, K => ∃ n : Int, K (.int k n)
  | .bool, K => ∃ b : Bool, K (.bool b)
  | .str, K => ∃ s : ByteArray, K (.string s)
  | .ptr, K => ∃ p : Option Addr, K (.pointer p)
  | .sl, K => ∃ (p : Option Addr) (n c : Nat), K (.slice p n c)
  | .mp, K => ∃ r : Option Nat, K (.map r)
  | .any, K => ∃ v : Value, K v
def exKs : List PK → (List Value → Prop) → Prop
  | [], K => K []
  | k :: ks, K => exK k fun v => exKs ks fun vs => K (v :: vs)
def exC : PC → (Value → Prop) → Prop
  | .one k, K => exK k K
  | .agg ks, K => exKs ks fun vs => K (.agg vs.toArray)
def exCs : List PC → (List Value → Prop) → Prop
  | [], K => K []
  | k :: ks, K => exC k fun v => exCs ks fun vs => K (v :: vs)
def exP : Pat → (Value → Prop) → Prop
  | .c p, K => exC p K
  | .tup ps, K => exCs ps fun vs => K (.tuple vs.toArray)

def allK : PK → (Value → Prop) → Prop
  | .int k, K => ∀ n : Int, K (.int k n)
  | .bool, K => ∀ b : Bool, K (.bool b)
  | .str, K => ∀ s : ByteArray, K (.string s)
  | .ptr, K => ∀ p : Option Addr, K (.pointer p)
  | .sl, K => ∀ (p : Option Addr) (n c : Nat), K (.slice p n c)
  | .mp, K => ∀ r : Option Nat, K (.map r)
  | .any, K => ∀ v : Value, K v
def allKs : List PK → (List Value → Prop) → Prop
  | [], K => K []
  | k :: ks, K => allK k fun v => allKs ks fun vs => K (v :: vs)
def allC : PC → (Value → Prop) → Prop
  | .one k, K => allK k K
  | .agg ks, K => allKs ks fun vs => K (.agg vs.toArray)
def allCs : List PC → (List Value → Prop) → Prop
  | [], K => K []
  | k :: ks, K => allC k fun v => allCs ks fun vs => K (v :: vs)

def pkOf (P : Program) (t : TypeId) : PK :=
  match P.underlying t with
  | some (.int k) => .int k
  | some .bool => .bool
  | some .string => .str
  | some (.pointer _) => .ptr
  | some (.slice _) => .sl
  | some (.map _ _) => .mp
  | _ => .any
def aggB (P : Program) (t : TypeId) : Bool :=
  match P.underlying t with
  | some (.struct _) => true
  | some (.array _ _) => true
  | _ => false
def flat (P : Program) : Nat → TypeId → List PK
  | 0, _ => []
  | n + 1, t =>
    match P.underlying t with
    | some (.struct fs) => fs.toList.flatMap fun f => flat P n f.type
    | some (.array len e) => (List.replicate len ()).flatMap fun _ => flat P n e
    | _ => [pkOf P t]
def pcOf (P : Program) (t : TypeId) : PC := bif aggB P t then .agg (flat P 8 t) else .one (pkOf P t)
def patOf (P : Program) (t : TypeId) : Pat :=
  match P.underlying t with
  | some (.tuple ts) => .tup (ts.toList.map (pcOf P))
  | _ => .c (pcOf P t)

/-- Own blocks: made since the base world, and known whole. -/
inductive OB where
  | cells (l : List Value) (t : TypeId)
  | obj (o : Obj)
def OB.toObj : OB → Obj
  | .cells l t => .cells l.toArray t
  | .obj o => o
def ext (w : World) : List OB → World
  | [] => w
  | o :: os => ext (w.alloc o.toObj) os
def Ext (w : World) (os : List OB) (w1 : World) : Prop := w1 = ext w os

inductive EV where
  | val (v : Value)
  | own (i off : Nat)
def ownAddr (w : World) (i off : Nat) : Addr := ⟨w.heap.size + i, off, none⟩
def EV.toV (w : World) : EV → Value
  | .val v => v
  | .own i off => .pointer (some ⟨w.heap.size + i, off, none⟩)

structure St where
  w : World
  own : List OB
  env : List (Nat × EV)

def look : List (Nat × EV) → Nat → Option EV
  | [], _ => none
  | (s, v) :: e, t => bif Nat.beq s t then some v else look e t
def drop1 : List (Nat × EV) → Nat → List (Nat × EV)
  | [], _ => []
  | (s, v) :: e, t => bif Nat.beq s t then drop1 e t else (s, v) :: drop1 e t
def drops (e : List (Nat × EV)) : List Nat → List (Nat × EV)
  | [] => e
  | t :: ts => drops (drop1 e t) ts
def setE (e : List (Nat × EV)) (t : Nat) (v : EV) : List (Nat × EV) := (t, v) :: drop1 e t
def St.put (st : St) (d : Option Nat) (v : EV) : St :=
  match d with
  | none => st
  | some d => ⟨st.w, st.own, setE st.env d v⟩
def St.op (st : St) : Operand → Option EV
  | .tmp t => look st.env t
  | .const v => some (.val v)
  | .global g => some (.val (.pointer (some ⟨g, 0, none⟩)))
  | .func f => some (.val (.func (.func f) #[] #[]))
/-- The operand's value. -/
def St.v (st : St) (x : Operand) (K : Value → Prop) : Prop :=
  match st.op x with
  | some e => K (e.toV st.w)
  | none => False
def St.vs (st : St) : List Operand → (List Value → Prop) → Prop
  | [], K => K []
  | x :: xs, K => st.v x fun v => st.vs xs fun vs => K (v :: vs)
def St.vi (st : St) : List (Nat × Operand) → (List (Nat × Value) → Prop) → Prop
  | [], K => K []
  | x :: xs, K => st.v x.2 fun v => st.vi xs fun vs => K ((x.1, v) :: vs)
def St.vo (st : St) : Option Operand → (Option Value → Prop) → Prop
  | none, K => K none
  | some x, K => st.v x fun v => K (some v)

def optP : Option Addr → (Addr → Prop) → Prop
  | some a, K => K a
  | none, _ => False
def Br : Bool → Prop → Prop → Prop
  | true, X, _ => X
  | false, _, Y => Y
def flushEnv (w : World) : List (Nat × EV) → List (Nat × EV)
  | [] => []
  | (s, v) :: e => (s, .val (v.toV w)) :: flushEnv w e
def flush (st : St) (K : St → Prop) : Prop :=
  match st.own with
  | [] => K ⟨st.w, [], flushEnv st.w st.env⟩
  | own => ∀ w1, Ext st.w own w1 → K ⟨w1, [], flushEnv st.w st.env⟩

def CellsAre (w : World) (a : Addr) : Nat → List Value → Prop
  | _, [] => True
  | i, v :: vs => w.cell? (a.add i) = some v ∧ CellsAre w a (i + 1) vs
def CanStore (w : World) (a : Addr) : Nat → List Value → Prop
  | _, [] => True
  | i, v :: vs => v.oneCell' = true ∧ (w.cell? (a.add i)).isSome = true ∧ w.frozen? (a.add i) = false ∧ CanStore w a (i + 1) vs
def setCells (w : World) (a : Addr) : Nat → List Value → World
  | _, [] => w
  | i, v :: vs => setCells (w.setCell (a.add i) v) a (i + 1) vs
def SetC (w : World) (a : Addr) (vs : List Value) (w1 : World) : Prop := w1 = setCells w a 0 vs

def cellsL : Value → List Value
  | .agg cs => cs.toList
  | v => [v]

/-- The worlds in which a quiet computation yields the same value: all, or some. -/
inductive AG where
  | pure
  | dep (p : World → Prop)
def AG.at_ : AG → World → Prop
  | .pure, _ => True
  | .dep p, w => p w
/-- A quiet computation: its value, and the worlds in which it yields the same value. -/
def RunQ (P : Program) (s : Sem Value) (p : Pat) (w : World) (K : Value → AG → Prop) : Prop :=
  exP p fun v => s.run P w = .ok v w ∧ K v (.dep fun w' => s.run P w' = .ok v w')
/-- A computation that may change the world. -/
def RunE (P : Program) (s : Sem Value) (p : Pat) (w : World) (K : Value → World → Prop) : Prop :=
  ∃ w1, exP p fun v => s.run P w = .ok v w1 ∧ K v w1
def RunU (P : Program) (s : Sem Unit) (w : World) (K : World → Prop) : Prop :=
  ∃ w1, s.run P w = .ok () w1 ∧ K w1

def bitsV (op : BinOp) (k : IntKind) (x y : Int) : Int :=
  match op with
  | .and => k.wrap (BitVec.ofInt k.bits x &&& BitVec.ofInt k.bits y).toNat
  | .or => k.wrap (BitVec.ofInt k.bits x ||| BitVec.ofInt k.bits y).toNat
  | .xor => k.wrap (BitVec.ofInt k.bits x ^^^ BitVec.ofInt k.bits y).toNat
  | _ => k.wrap (BitVec.ofInt k.bits x &&& ~~~(BitVec.ofInt k.bits y)).toNat
def shlV (k : IntKind) (x y : Int) : Int := k.wrap (x * 2 ^ (min y.toNat k.bits))
def shrV (k : IntKind) (x y : Int) : Int := x.fdiv (2 ^ (min y.toNat k.bits))
def sliceA (p : Option Addr) (m l : Nat) (sz : Nat) : Option Addr := if m = l then p else p.map (·.add (l * sz))

def kindEq : IntKind → IntKind → Bool
  | .i8, .i8 | .i16, .i16 | .i32, .i32 | .i64, .i64 | .u8, .u8 | .u16, .u16 | .u32, .u32 | .u64, .u64 => true
  | _, _ => false

def intBin (op : BinOp) (k : IntKind) (a b : Int) (K : Value → Prop) : Prop :=
  match op with
  | .add => K (.int k (k.wrap (a + b)))
  | .sub => K (.int k (k.wrap (a - b)))
  | .mul => K (.int k (k.wrap (a * b)))
  | .quo => b ≠ 0 ∧ K (.int k (k.wrap (a.tdiv b)))
  | .rem => b ≠ 0 ∧ K (.int k (a.tmod b))
  | .and => K (.int k (bitsV .and k a b))
  | .or => K (.int k (bitsV .or k a b))
  | .xor => K (.int k (bitsV .xor k a b))
  | .andNot => K (.int k (bitsV .andNot k a b))
  | .eql => K (.bool (a == b))
  | .neq => K (.bool (a != b))
  | .lss => K (.bool (decide (a < b)))
  | .leq => K (.bool (decide (a ≤ b)))
  | .gtr => K (.bool (decide (a > b)))
  | .geq => K (.bool (decide (a ≥ b)))
  | .shl => 0 ≤ b ∧ K (.int k (shlV k a b))
  | .shr => 0 ≤ b ∧ K (.int k (shrV k a b))

abbrev QK := EV → AG → Prop
abbrev always : AG := .pure
abbrev never : AG := .dep fun _ => False

def isShift : BinOp → Bool
  | .shl | .shr => true
  | _ => false
def isBoolDesc : Option TypeDesc → Bool
  | some .bool => true
  | _ => false

def isPtrDesc : Option TypeDesc → Bool
  | some (.pointer _) => true
  | _ => false
def isSlDesc : Option TypeDesc → Bool
  | some (.slice _) => true
  | _ => false
/-- A comparison or another operation, with the model's guard ahead. -/
def binRun (op : BinOp) (t : TypeId) (x y : Operand) (a b : Value) : Sem Value := do eqGuard op t x y a b; binOp op t a b
def binQ (P : Program) (W : World) (op : BinOp) (t : TypeId) (x y : Operand) (a b : Value) (ty : TypeId) (K : QK) : Prop :=
  match a, b with
  | .int k m, .int k' n => bif isShift op || kindEq k k' then intBin op k m n (fun v => K (.val v) always) else False
  | .bool p, .bool q =>
    bif isBoolDesc (P.underlying t) then
      match op with
      | .eql => K (.val (.bool (p == q))) always
      | .neq => K (.val (.bool (!(p == q)))) always
      | _ => False
    else False
  | .pointer p, .pointer none =>
    bif isPtrDesc (P.underlying t) then
      match op with
      | .eql => K (.val (.bool p.isNone)) always
      | .neq => K (.val (.bool (!p.isNone))) always
      | _ => False
    else False
  | .slice p n c, .slice none 0 0 =>
    bif isSlDesc (P.underlying t) then
      match op with
      | .eql => K (.val (.bool p.isNone)) always
      | .neq => K (.val (.bool (!p.isNone))) always
      | _ => False
    else False
  | a, b => RunQ P (binRun op t x y a b) (match op with | .eql | .neq | .lss | .leq | .gtr | .geq => .c (.one .bool) | _ => patOf P ty) W (fun v ag => K (.val v) ag)

def unQ (op : UnOp) (a : Value) (K : QK) : Prop :=
  match op, a with
  | .not, .bool b => K (.val (.bool (!b))) always
  | .neg, .int k n => K (.val (.int k (k.wrap (0 - n)))) always
  | .xor, .int k n => K (.val (.int k (bitsV .xor k (if k.signed then -1 else k.max) n))) always
  | _, _ => False

def convQ (P : Program) (dst : TypeId) (a : Value) (K : QK) : Prop :=
  match P.underlying dst, a with
  | some (.int k), .int _ n => K (.val (.int k (k.wrap n))) always
  | _, _ => False

def nilQ (e : EV) (K : QK) : Prop :=
  match e with
  | .own i off => K (.own i off) always
  | .val (.pointer p) => optP p fun a => K (.val (.pointer (some a))) always
  | .val (.iface t v) => K (.val (.iface t v)) always
  | .val (.func (.func f) a b) => K (.val (.func (.func f) a b)) always
  | _ => False

def fieldOf (P : Program) (s : TypeId) (f : Nat) : Option Field :=
  match P.underlying s with
  | some (.struct fs) => fs[f]?
  | _ => none

def fieldQ (P : Program) (s : TypeId) (f : Nat) (e : EV) (K : QK) : Prop :=
  match fieldOf P s f with
  | none => False
  | some fd =>
    match P.info? fd.type with
    | none => False
    | some ti =>
      match ti.size with
      | 0 => False
      | _ + 1 =>
        match e with
        | .own i off => K (.own i (off + fd.offset)) always
        | .val (.pointer p) => optP p fun a => K (.val (.pointer (some (a.add fd.offset)))) always
        | _ => False

/-- How an element of a slice or an array is reached: is it an array, its length, its element's size. -/
def elemOf (P : Program) (t : TypeId) : Option (Option Nat × Nat) :=
  match P.underlying t with
  | some (.slice e) => (P.info? e).map fun i => (none, i.size)
  | some (.array n e) => (P.info? e).map fun i => (some n, i.size)
  | _ => none

def indexQ (P : Program) (t : TypeId) (e i : EV) (K : QK) : Prop :=
  match elemOf P t, e, i with
  | some (none, sz), .val (.slice p n _), .val (.int _ k) => optP p fun a => (0 ≤ k ∧ k < n) ∧ K (.val (.pointer (some (a.add (k.toNat * sz))))) always
  | some (some n, sz), .own j off, .val (.int _ k) => (0 ≤ k ∧ k < n) ∧ K (.own j (off + k.toNat * sz)) always
  | some (some n, sz), .val (.pointer p), .val (.int _ k) => optP p fun a => (0 ≤ k ∧ k < n) ∧ K (.val (.pointer (some (a.add (k.toNat * sz))))) always
  | _, _, _ => False

def nthOB : List OB → Nat → Option OB
  | [], _ => none
  | o :: _, 0 => some o
  | _ :: os, n + 1 => nthOB os n
def ownCells (st : St) (i : Nat) : Option (List Value) :=
  match nthOB st.own i with
  | some (.cells l _) => some l
  | _ => none
def nthV : List Value → Nat → Option Value
  | [], _ => none
  | v :: _, 0 => some v
  | _ :: vs, n + 1 => nthV vs n
def takeV : List Value → Nat → Nat → Option (List Value)
  | _, _, 0 => some []
  | l, i, n + 1 => match nthV l i with
    | none => none
    | some v => match takeV l (i + 1) n with
      | none => none
      | some vs => some (v :: vs)

def len? : List Value → Nat
  | [] => 0
  | _ :: l => len? l + 1

def loadQ (P : Program) (st : St) (t : TypeId) (e : EV) (K : QK) : Prop :=
  match P.underlying t with
  | none => False
  | some _ =>
  match aggB P t with
  | false =>
    match e with
    | .own i off => match ownCells st i with
      | none => False
      | some l => match nthV l off with
        | none => False
        | some v => K (.val v) never
    | .val (.pointer p) => optP p fun a => exK (pkOf P t) fun v => st.w.cell? a = some v ∧ K (.val v) (.dep fun w' => w'.cell? a = some v)
    | _ => False
  | true =>
    match P.info? t with
    | none => False
    | some ti =>
      match e with
      | .own i off => match ownCells st i with
        | none => False
        | some l => match takeV l off ti.size with
          | none => False
          | some vs => K (.val (.agg vs.toArray)) never
      | .val (.pointer p) => optP p fun a => exKs (flat P 8 t) fun vs => match Nat.beq (len? vs) ti.size with
        | true => CellsAre st.w a 0 vs ∧ K (.val (.agg vs.toArray)) (.dep fun w' => CellsAre w' a 0 vs)
        | false => False
      | _ => False

def boundsL (lo hi mx : Option Value) (len cap : Nat) (K : Nat → Nat → Nat → Prop) : Prop :=
  match mx with
  | some (.int _ m) =>
    match hi, lo with
    | some (.int _ h), none => (0 ≤ m ∧ m ≤ cap) ∧ (0 ≤ h ∧ h ≤ m.toNat) ∧ K 0 h.toNat m.toNat
    | some (.int _ h), some (.int _ l) => (0 ≤ m ∧ m ≤ cap) ∧ (0 ≤ h ∧ h ≤ m.toNat) ∧ (0 ≤ l ∧ l ≤ h.toNat) ∧ K l.toNat h.toNat m.toNat
    | _, _ => False
  | some _ => False
  | none =>
    match hi, lo with
    | none, none => K 0 len cap
    | none, some (.int _ l) => (0 ≤ l ∧ l ≤ len) ∧ K l.toNat len cap
    | some (.int _ h), none => (0 ≤ h ∧ h ≤ cap) ∧ K 0 h.toNat cap
    | some (.int _ h), some (.int _ l) => (0 ≤ h ∧ h ≤ cap) ∧ (0 ≤ l ∧ l ≤ h.toNat) ∧ K l.toNat h.toNat cap
    | _, _ => False

def sliceQ (P : Program) (W : World) (t : TypeId) (x : Value) (lo hi mx : Option Value) (K : QK) : Prop :=
  match P.underlying t, x with
  | some (.slice e), .slice p len cap =>
    match P.info? e with
    | none => False
    | some ti => boundsL lo hi mx len cap fun l h m => K (.val (.slice (sliceA p m l ti.size) (h - l) (m - l))) always
  | _, x => RunQ P (Instr.sliceAt t x lo hi mx) (.c (.one (match P.underlying t with | some .string => .str | _ => .sl))) W (fun v ag => K (.val v) ag)

def buildQ (P : Program) (t : TypeId) (parts : List (Nat × Value)) (K : List Value → Prop) : Prop :=
  match P.info? t, P.underlying t with
  | some ti, some (.struct fs) =>
    match fs.toList.all fun f => (P.info? f.type).isSome with
    | false => False
    | true =>
    match ti.zero with
    | none => False
    | some z =>
      match Instr.fill (fun i => (fs.map fun f => (f.offset, P.cellsOf f.type))[i]?) z.cells parts with
      | none => False
      | some cs => K cs.toList
  | some ti, some (.array _ e) =>
    match P.info? e with
    | none => False
    | some _ =>
    match ti.zero with
    | none => False
    | some z =>
      match Instr.fill (fun i => some (i * P.cellsOf e, P.cellsOf e)) z.cells parts with
      | none => False
      | some cs => K cs.toList
  | _, _ => False

def lenQ (P : Program) (W : World) (t : TypeId) (x : Value) (K : QK) : Prop :=
  match P.underlying t, x with
  | some (.slice _), .slice _ n _ => K (.val (.int .i64 n)) always
  | some .string, .string s => K (.val (.int .i64 s.size)) always
  | some (.array n _), _ => K (.val (.int .i64 n)) always
  | _, x => RunQ P (Builtin.len_ #[t] t #[x]) (.c (.one (.int .i64))) W (fun v ag => K (.val v) ag)

/-- The operations that leave the world alone. -/
def qop (P : Program) (st : St) (o : Oper) (K : QK) : Prop :=
  match o.op with
  | .move x | .assign x => match st.op x with | some e => K e always | none => False
  | .pick c a b =>
    match st.op c, st.op a, st.op b with
    | some (.val (.bool t)), some x, some y => Br t (K x always) (K y always)
    | _, _, _ => False
  | .nilCheck x => match st.op x with | some e => nilQ e K | none => False
  | .fieldAddr s x f => match st.op x with | some e => fieldQ P s f e K | none => False
  | .indexAddr t x i => match st.op x, st.op i with | some e, some j => indexQ P t e j K | _, _ => False
  | .load t x => match st.op x with | some e => loadQ P st t e K | none => False
  | .binOp op t x y _ => st.v x fun a => st.v y fun b => binQ P (ext st.w st.own) op t x y a b o.type K
  | .unOp op _ x => st.v x fun a => unQ op a K
  | .convert _ dst x => st.v x fun a => convQ P dst a K
  | .build t ps => st.vi ps.toList fun vs => buildQ P t vs fun cs => K (.val (.agg cs.toArray)) always
  | .extract x i => st.v x fun a => match a with
    | .tuple vs => match nthV vs.toList i with | some v => K (.val v) always | none => False
    | _ => False
  | .makeFunc fn fs cs => st.vs fs.toList fun a => st.vs cs.toList fun b => K (.val (.func fn a.toArray b.toArray)) always
  | .slice t x lo hi mx => st.v x fun a => st.vo lo fun l => st.vo hi fun h => st.vo mx fun m => sliceQ P (ext st.w st.own) t a l h m K
  | .field t x f => st.v x fun a => RunQ P (Instr.field t a f) (.c (pcOf P o.type)) (ext st.w st.own) (fun v ag => K (.val v) ag)
  | .index t x i => st.v x fun a => st.v i fun b => RunQ P (Instr.index t a b) (.c (pcOf P o.type)) (ext st.w st.own) (fun v ag => K (.val v) ag)
  | .lookup t x i ok => st.v x fun a => st.v i fun b => RunQ P (Instr.lookup t a b ok) (match ok, P.underlying t with
      | true, some (.map _ e) => .tup [pcOf P e, .one .bool]
      | _, some (.map _ e) => .c (pcOf P e)
      | _, _ => .c (.one .any)) (ext st.w st.own) (fun v ag => K (.val v) ag)
  | .makeInterface t x => st.v x fun a => RunQ P (Instr.makeInterface t a) (.c (.one .any)) (ext st.w st.own) (fun v ag => K (.val v) ag)
  | .typeAssert x t u ok => st.v x fun a => RunQ P (Instr.typeAssert a t u ok) (match ok with | true => .tup [pcOf P u, .one .bool] | false => .c (pcOf P u)) (ext st.w st.own) (fun v ag => K (.val v) ag)
  | .call c =>
    match c.callee, c.args.toList, c.argTypes.toList with
    | .builtin .len, [x], [t] => st.v x fun a => lenQ P (ext st.w st.own) t a K
    | .builtin .cap, [x], [t] => st.v x fun a => RunQ P (Builtin.cap_ #[t] o.type #[a]) (.c (.one (.int .i64))) (ext st.w st.own) (fun v ag => K (.val v) ag)
    | .builtin .min, xs, ts => st.vs xs fun vs => RunQ P (Builtin.min_ ts.toArray o.type vs.toArray) (.c (pcOf P o.type)) (ext st.w st.own) (fun v ag => K (.val v) ag)
    | .builtin .max, xs, ts => st.vs xs fun vs => RunQ P (Builtin.max_ ts.toArray o.type vs.toArray) (.c (pcOf P o.type)) (ext st.w st.own) (fun v ag => K (.val v) ag)
    | _, _, _ => False
  | _ => False

def isQuiet (o : Oper) : Bool :=
  match o.op with
  | .move _ | .assign _ | .pick .. | .nilCheck _ | .fieldAddr .. | .indexAddr .. | .load .. | .binOp .. | .unOp .. | .build .. | .extract .. | .makeFunc .. | .slice .. | .field .. | .index .. | .lookup .. | .makeInterface .. | .typeAssert .. => true
  | .call { callee := .builtin b, .. } => match b with | .len | .cap | .min | .max => true | _ => false
  | _ => false
/-- 'convert' is quiet between integers. -/
def isQuietIn (P : Program) (o : Oper) : Bool :=
  match o.op with
  | .convert s d _ => (match P.underlying d, P.underlying s with | some (.int _), some (.int _) => true | _, _ => false)
  | _ => isQuiet o

/-- A call of a function of the program. -/
def Enterable (P : Program) (f : FuncId) : Prop := ∀ args w, (callFunc f args).run P w = .ok (.enter f args) w
def CallsF (P : Program) (f : FuncId) (args : Array Value) (w : World) (R : Ending → World → Prop) : Prop := Enterable P f ∧ Calls P f args w R
/-- The call returns a value of the pattern. -/
def Rets (p : Pat) (K : Value → World → Prop) (e : Ending) (w : World) : Prop := exP p fun v => e = .returned v ∧ K v w
def CallV (P : Program) (f : Value) (args : List Value) (w : World) (R : Ending → World → Prop) : Prop :=
  match f with
  | .func (.func f) a b => CallsF P f (a ++ args.toArray ++ b) w R
  | _ => False

abbrev EK := EV → St → Prop
def zeroCellsOf (P : Program) (t : TypeId) : Option (List Value) :=
  match P.info? t with
  | none => none
  | some ti => match ti.zero with
    | none => none
    | some z => some (cellsL z)
def addOB (st : St) (o : OB) : St := ⟨st.w, st.own ++ [o], st.env⟩
def setNth : List Value → Nat → Value → List Value
  | [], _, _ => []
  | _ :: vs, 0, u => u :: vs
  | v :: vs, n + 1, u => v :: setNth vs n u
def setRow : List Value → Nat → List Value → List Value
  | l, _, [] => l
  | l, i, v :: vs => setRow (setNth l i v) (i + 1) vs
def setOB : List OB → Nat → OB → List OB
  | [], _, _ => []
  | _ :: os, 0, u => u :: os
  | o :: os, n + 1, u => o :: setOB os n u
def oneAll : List Value → Bool
  | [] => true
  | v :: vs => v.oneCell' && oneAll vs

def storeE (P : Program) (st : St) (t : TypeId) (e : EV) (v : Value) (K : EK) : Prop :=
  match P.info? t with
  | none => False
  | some ti =>
    match e with
    | .own i off =>
      match nthOB st.own i with
      | some (.cells l et) =>
        bif Nat.beq (len? (cellsL v)) ti.size && Nat.ble (off + ti.size) (len? l) && oneAll (cellsL v) then
          K (.val undef) ⟨st.w, setOB st.own i (.cells (setRow l off (cellsL v)) et), st.env⟩
        else False
      | _ => False
    | .val (.pointer p) => optP p fun a => match Nat.beq (len? (cellsL v)) ti.size with
        | true => flush st fun st => CanStore st.w a 0 (cellsL v) ∧ ∀ w1, SetC st.w a (cellsL v) w1 → K (.val undef) ⟨w1, [], st.env⟩
        | false => False
    | _ => False

/-- The operations that change the world, or make memory. -/
def eop (P : Program) (st : St) (o : Oper) (K : EK) : Prop :=
  match o.op with
  | .alloc t => match zeroCellsOf P t with
    | none => False
    | some z => K (.own st.own.length 0) (addOB st (.cells z t))
  | .box t x => st.v x fun v => K (.own st.own.length 0) (addOB st (.cells (cellsL v) t))
  | .buildSlice t len ps => st.vi ps.toList fun vs =>
    match P.underlying t with
    | some (.slice e) =>
      match P.info? e with
      | none => False
      | some ti => match ti.zero with
        | none => False
        | some z =>
          bif Nat.ble (len * ti.size) 1000 && Nat.beq (len? (cellsL z)) ti.size then
            match Instr.fill (fun i => some (i * ti.size, ti.size)) ((List.replicate len ()).flatMap fun _ => cellsL z).toArray vs with
            | none => False
            | some cs => K (.val (.slice (some ⟨st.w.heap.size + st.own.length, 0, none⟩) len len)) (addOB st (.cells cs.toList e))
          else False
    | _ => False
  | .makeMap t r =>
    match r with
    | none => K (.val (.map (some (st.w.heap.size + st.own.length)))) (addOB st (.obj (.map #[] 0)))
    | some x => flush st fun st => st.v x fun v => RunE P (Instr.makeMap t (some v)) (.c (.one .mp)) st.w fun v w1 => K (.val v) ⟨w1, [], st.env⟩
  | .store t a x => match st.op a with
    | some e => st.v x fun v => storeE P st t e v K
    | none => False
  | .makeSlice t l c => flush st fun st => st.v l fun a => st.v c fun b => RunE P (Instr.makeSlice t a b) (.c (.one .sl)) st.w fun v w1 => K (.val v) ⟨w1, [], st.env⟩
  | .mapUpdate t m k x | .insert t m k x => flush st fun st => st.v m fun a => st.v k fun b => st.v x fun c => RunU P (Instr.mapUpdate t a b c) st.w fun w1 => K (.val undef) ⟨w1, [], st.env⟩
  | .mapEntry t m k => flush st fun st => st.v m fun a => st.v k fun b => RunE P (Instr.mapEntry t a b) (match P.underlying t with | some (.map _ e) => .tup [pcOf P e, .one (.int .i64)] | _ => .c (.one .any)) st.w fun v w1 => K (.val v) ⟨w1, [], st.env⟩
  | .entryStore t m s x => flush st fun st => st.v m fun a => st.v s fun b => st.v x fun c => RunU P (Instr.entryStore t a b c) st.w fun w1 => K (.val undef) ⟨w1, [], st.env⟩
  | .convert s d x => flush st fun st => st.v x fun a => RunE P (convert s d a) (patOf P d) st.w fun v w1 => K (.val v) ⟨w1, [], st.env⟩
  | .range t x => flush st fun st => st.v x fun a => RunE P (Instr.range t a) (.c (.one .ptr)) st.w fun v w1 => K (.val v) ⟨w1, [], st.env⟩
  | .call c =>
    match c.callee with
    | .builtin .append => flush st fun st => st.vs c.args.toList fun vs => RunE P (Builtin.append_ c.argTypes o.type vs.toArray) (.c (.one .sl)) st.w fun v w1 => K (.val v) ⟨w1, [], st.env⟩
    | .builtin .copy => flush st fun st => st.vs c.args.toList fun vs => RunE P (Builtin.copy_ c.argTypes o.type vs.toArray) (.c (.one (.int .i64))) st.w fun v w1 => K (.val v) ⟨w1, [], st.env⟩
    | .builtin .delete => flush st fun st => st.vs c.args.toList fun vs => RunE P (Builtin.delete_ c.argTypes o.type vs.toArray) (.c (.one .any)) st.w fun v w1 => K (.val v) ⟨w1, [], st.env⟩
    | .builtin .clear => flush st fun st => st.vs c.args.toList fun vs => RunE P (Builtin.clear_ c.argTypes o.type vs.toArray) (.c (.one .any)) st.w fun v w1 => K (.val v) ⟨w1, [], st.env⟩
    | .value f => flush st fun st => st.v f fun g => st.vs c.args.toList fun vs => CallV P g vs st.w (Rets (patOf P o.type) fun v w1 => K (.val v) ⟨w1, [], st.env⟩)
    | _ => False
  | _ => False

def dstOK (n : Nat) : Option Nat → Bool
  | none => true
  | some d => Nat.blt d n

/-- One operation. -/
def sop (P : Program) (n : Nat) (st : St) (o : Oper) (K : St → Prop) : Prop :=
  match dstOK n o.dst with
  | false => False
  | true => match isQuietIn P o with
    | true => qop P st o fun e _ => K (st.put o.dst e)
    | false => eop P st o fun e st' => K (st'.put o.dst e)

def nthOp : List Oper → Nat → Option Oper
  | [], _ => none
  | o :: _, 0 => some o
  | _ :: os, n + 1 => nthOp os n
def gslot (ops : List Oper) (j : Nat) : Option Nat :=
  match nthOp ops j with
  | some o => o.dst
  | none => none
def beqB : Bool → Bool → Bool
  | true, true => true
  | false, false => true
  | _, _ => false

def undefV : Value → Bool
  | .tuple #[] => true
  | _ => false

def shOps (P : Program) (n : Nat) (all : List Oper) : List Oper → (St → Prop) → St → Prop
  | [], K, st => K st
  | o :: rest, K, st =>
    match o.guard with
    | none => sop P n st o fun st' => shOps P n all rest K st'
    | some (j, want) =>
      match gslot all j with
      | none => False
      | some s =>
        match dstOK n o.dst, dstOK n (some s), look st.env s with
        | true, true, some (.val (.bool b)) =>
          Br b
            (match want with
              | true => sop P n ⟨st.w, st.own, setE st.env s (.val (.bool true))⟩ o fun st' => shOps P n all rest K st'
              | false => shOps P n all rest K (St.put ⟨st.w, st.own, setE st.env s (.val (.bool true))⟩ o.dst (.val undef)))
            (match want with
              | false => sop P n ⟨st.w, st.own, setE st.env s (.val (.bool false))⟩ o fun st' => shOps P n all rest K st'
              | true => shOps P n all rest K (St.put ⟨st.w, st.own, setE st.env s (.val (.bool false))⟩ o.dst (.val undef)))
        | true, true, some (.val (.tuple _)) => shOps P n all rest K (st.put o.dst (.val undef))
        | _, _, _ => False

def noGuards (ops : List Oper) : Bool := ops.all fun o => match o.guard with | none => true | some _ => false

/-! Which slots a piece of code writes and reads. -/
def opTmps (l : List Operand) : List Nat := l.filterMap fun | .tmp t => some t | _ => none
def opsMods (l : List Oper) : List Nat := l.filterMap (·.dst)
def opsUses (l : List Oper) : List Nat := l.flatMap fun o => opTmps o.op.operands.toList
def mods : Code → List Nat
  | .region _ ops _ => opsMods ops.toList
  | .seq a b => mods a ++ mods b
  | .cond _ a b => mods a ++ mods b
  | .block _ b => mods b
  | .loop b => mods b
  | .scope b => mods b
  | _ => []
def uses : Code → List Nat
  | .region _ ops _ => opsUses ops.toList
  | .seq a b => uses a ++ uses b
  | .cond c a b => opTmps [c] ++ (uses a ++ uses b)
  | .block _ b => uses b
  | .loop b => uses b
  | .scope b => uses b
  | _ => []
def opsExpo : List Oper → List Nat → List Nat
  | [], _ => []
  | o :: os, set => (opTmps o.op.operands.toList).filter (fun t => !(set.any fun s => Nat.beq s t)) ++ opsExpo os (match o.dst with | some d => d :: set | none => set)
def mem (l : List Nat) (t : Nat) : Bool := l.any fun s => Nat.beq s t
def dedup : List Nat → List Nat
  | [] => []
  | t :: ts => bif mem ts t then dedup ts else t :: dedup ts
def falls : Code → Bool
  | .skip | .label _ | .region .. => true
  | .seq a b => falls a && falls b
  | .cond _ a b => falls a || falls b
  | .block id b => falls b || exits id b
  | .scope b => falls b
  | _ => false
where
  exits (id : Nat) : Code → Bool
  | .seq a b => exits id a || exits id b
  | .cond _ a b => exits id a || exits id b
  | .block _ b => exits id b
  | .loop b => exits id b
  | .scope b => exits id b
  | .exit i => Nat.beq i id
  | _ => false
def exitN (id : Nat) : Code → Nat
  | .seq a b => exitN id a + exitN id b
  | .cond _ a b => exitN id a + exitN id b
  | .block _ b => exitN id b
  | .loop b => exitN id b
  | .scope b => exitN id b
  | .exit i => bif Nat.beq i id then 1 else 0
  | _ => 0
/-- The slots that every way through writes. -/
def sure : Code → List Nat
  | .region _ ops _ => opsMods ops.toList
  | .seq a b => sure a ++ sure b
  | .cond _ a b => bif falls a then (bif falls b then (sure a).filter (mem (sure b)) else sure a) else sure b
  | .scope b => sure b
  | _ => []
/-- The slots that may be read before they are written. -/
def expo : Code → List Nat
  | .region _ ops _ => opsExpo ops.toList []
  | .seq a b => expo a ++ (expo b).filter fun t => !mem (sure a) t
  | .cond c a b => opTmps [c] ++ (expo a ++ expo b)
  | .block _ b => expo b
  | .loop b => expo b
  | .scope b => expo b
  | _ => []
/-- The pattern of what is written into a slot. -/
def slotPat (P : Program) (o : Oper) : PC :=
  match o.op with
  | .binOp .eql .. | .binOp .neq .. | .binOp .lss .. | .binOp .leq .. | .binOp .gtr .. | .binOp .geq .. => .one .bool
  | .unOp .not .. => .one .bool
  | .alloc _ | .box .. | .fieldAddr .. | .indexAddr .. => .one .ptr
  | .load t _ => pcOf P t
  | _ => pcOf P o.type
def opsPat (P : Program) (t : Nat) : List Oper → Option PC
  | [] => none
  | o :: os => match o.dst with
    | some d => bif Nat.beq d t then some (slotPat P o) else opsPat P t os
    | none => opsPat P t os
def codePat (P : Program) (t : Nat) : Code → Option PC
  | .region _ ops _ => opsPat P t ops.toList
  | .seq a b => match codePat P t a with | some p => some p | none => codePat P t b
  | .cond _ a b => match codePat P t a with | some p => some p | none => codePat P t b
  | .block _ b => codePat P t b
  | .loop b => codePat P t b
  | .scope b => codePat P t b
  | _ => none
def patsOf (P : Program) (c : Code) : List Nat → List PC
  | [] => []
  | t :: ts => (match codePat P t c with | some p => p | none => .one .any) :: patsOf P c ts

def valsAt (w : World) (e : List (Nat × EV)) : List Nat → Option (List Value)
  | [] => some []
  | t :: ts => match look e t with
    | none => none
    | some v => match valsAt w e ts with
      | none => none
      | some vs => some (v.toV w :: vs)
def setsE (e : List (Nat × EV)) : List Nat → List Value → List (Nat × EV)
  | t :: ts, v :: vs => setE (setsE e ts vs) t (.val v)
  | _, _ => e

/-- Ways meet again: what is behind them is stated once, for the slots 'js'. -/
def land (js : List Nat) (J : List Value → World → Prop) (st : St) : Prop :=
  match valsAt st.w st.env js with
  | none => False
  | some vs => match st.own with
    | [] => J vs st.w
    | own => ∀ w1, Ext st.w own w1 → J vs w1
def join (P : Program) (c : Code) (js : List Nat) (env : List (Nat × EV)) (kn : St → Prop) (paths : (St → Prop) → Prop) : Prop :=
  ∀ J : List Value → World → Prop, (allCs (patsOf P c js) fun vs => ∀ w1, kn ⟨w1, [], setsE env js vs⟩ → J vs w1) → paths (land js J)

def kindOfV : Value → PK
  | .int k _ => .int k
  | .bool _ => .bool
  | .string _ => .str
  | .pointer _ => .ptr
  | .slice _ _ _ => .sl
  | .map _ => .mp
  | _ => .any
def patOfV : Value → PC
  | .agg cs => .agg (cs.toList.map kindOfV)
  | v => .one (kindOfV v)
def patsOfV : List Value → List PC
  | [] => []
  | v :: vs => patOfV v :: patsOfV vs
def keysIn (e : List (Nat × EV)) (ts : List Nat) : List Nat := ts.filter fun t => match look e t with | some _ => true | none => false

def fitK : PK → Value → Bool
  | .int k, .int k' _ => kindEq k k'
  | .bool, .bool _ => true
  | .str, .string _ => true
  | .ptr, .pointer _ => true
  | .sl, .slice _ _ _ => true
  | .mp, .map _ => true
  | .any, _ => true
  | _, _ => false
def fitKs : List PK → List Value → Bool
  | [], [] => true
  | k :: ks, v :: vs => fitK k v && fitKs ks vs
  | _, _ => false
def fitC : PC → Value → Bool
  | .one k, v => fitK k v
  | .agg ks, .agg cs => fitKs ks cs.toList
  | _, _ => false
def fitCs : List PC → List Value → Bool
  | [], [] => true
  | k :: ks, v :: vs => fitC k v && fitCs ks vs
  | _, _ => false
def landF (ps : List PC) (js : List Nat) (J : List Value → World → Prop) (st : St) : Prop :=
  match valsAt st.w st.env js with
  | none => False
  | some vs => match fitCs ps vs with
    | false => False
    | true => match st.own with
      | [] => J vs st.w
      | own => ∀ w1, Ext st.w own w1 → J vs w1
/-- A loop: an invariant with a counter that falls. -/
def loopP (js : List Nat) (vs0 : List Value) (w0 : World) (env : List (Nat × EV)) (body : (St → Prop) → St → Prop) : Prop :=
  ∃ I : Nat → List Value → World → Prop, (∃ n, I n vs0 w0) ∧
    ∀ n, allCs (patsOfV vs0) fun vs => ∀ w1, I n vs w1 → body (landF (patsOfV vs0) js fun vs' w' => ∃ n', n' < n ∧ I n' vs' w') ⟨w1, [], setsE env js vs⟩

end Go.Sh
namespace Go.Sh
open Go

/-- Is operation i carried out ahead of operation j in every order? -/
def ancB (ops : Array Oper) : Nat → Nat → Nat → Bool
  | 0, _, _ => false
  | f + 1, i, j =>
    match ops[j]? with
    | none => false
    | some o => o.after.toList.any fun e => Region.binds .any e && (Nat.beq e.on i || ancB ops f i e.on)

/-- An order in which what only reads comes as early as it may. -/
def planOf (P : Program) (ops : Array Oper) : Nat → Array Bool → List (Nat × Bool)
  | 0, _ => []
  | f + 1, listed =>
    let rs := Region.ready .any ops listed
    match rs.find? (fun i => match ops[i]? with | some o => isQuietIn P o | none => false) with
    | some i => (i, false) :: planOf P ops f (listed.setIfInBounds i true)
    | none => match rs with
      | i :: _ => (i, true) :: planOf P ops f (listed.setIfInBounds i true)
      | [] => []
def planOK (P : Program) (ops : Array Oper) : List (Nat × Bool) → Array Bool → Bool
  | [], listed => (Region.ready .any ops listed).isEmpty
  | (i, false) :: rest, listed => (Region.ready .any ops listed).contains i && Region.free .any ops listed i && planOK P ops rest (listed.setIfInBounds i true)
  | (i, true) :: rest, listed => (match Region.ready .any ops listed with | [j] => Nat.beq j i | _ => false) && planOK P ops rest (listed.setIfInBounds i true)

def stable (ops : Array Oper) (i : Nat) (w : World) : List (Nat × AG) → Prop → Prop
  | [], K => K
  | (k, ag) :: pend, K => match ag, ancB ops ops.size k i with
    | .dep p, false => p w ∧ stable ops i w pend K
    | _, _ => stable ops i w pend K
def still (ops : Array Oper) (i : Nat) : List (Nat × AG) → List (Nat × AG)
  | [] => []
  | (k, ag) :: pend => match ancB ops ops.size k i with
    | true => still ops i pend
    | false => (k, ag) :: still ops i pend

def rawE (st : St) (e : EV) (K : EK) : Prop :=
  match st.own with
  | [] => K (.val (e.toV st.w)) ⟨st.w, [], flushEnv st.w st.env⟩
  | own => ∀ w1, Ext st.w own w1 → K (.val (e.toV st.w)) ⟨w1, [], flushEnv st.w st.env⟩

def rawOp (P : Program) (ops : Array Oper) (i : Nat) (eff : Bool) (o : Oper) (pend : List (Nat × AG)) (st : St) (next : List (Nat × AG) → St → Prop) : Prop :=
  match eff with
  | false => match isQuietIn P o with
    | true => qop P st o fun e ag => next ((i, ag) :: pend) (st.put o.dst e)
    | false => False
  | true => match isQuietIn P o with
    | true => False
    | false => eop P st o fun e st' => rawE st' e fun e st' => stable ops i st'.w pend (next (still ops i pend) (st'.put o.dst e))
def rawSkip (P : Program) (eff : Bool) (o : Oper) (K : Prop) : Prop :=
  match eff || isQuietIn P o with
  | true => K
  | false => False
def shRaw (P : Program) (n : Nat) (ops : Array Oper) : List (Nat × Bool) → List (Nat × AG) → (St → Prop) → St → Prop
  | [], _, K, st => K st
  | (i, eff) :: rest, pend, K, st =>
    match ops[i]? with
    | none => False
    | some o =>
      match o.guard with
      | none =>
        match dstOK n o.dst with
        | true => rawOp P ops i eff o pend st fun pend' st' => shRaw P n ops rest pend' K st'
        | false => False
      | some (j, want) =>
        match gslot ops.toList j with
        | none => False
        | some s =>
          match dstOK n o.dst, dstOK n (some s), look st.env s with
          | true, true, some (.val (.bool b)) =>
            Br b
              (match want with
                | true => rawOp P ops i eff o pend ⟨st.w, st.own, setE st.env s (.val (.bool true))⟩ fun pend' st' => shRaw P n ops rest pend' K st'
                | false => rawSkip P eff o (shRaw P n ops rest pend K (St.put ⟨st.w, st.own, setE st.env s (.val (.bool true))⟩ o.dst (.val undef))))
              (match want with
                | false => rawOp P ops i eff o pend ⟨st.w, st.own, setE st.env s (.val (.bool false))⟩ fun pend' st' => shRaw P n ops rest pend' K st'
                | true => rawSkip P eff o (shRaw P n ops rest pend K (St.put ⟨st.w, st.own, setE st.env s (.val (.bool false))⟩ o.dst (.val undef))))
          | true, true, some (.val (.tuple _)) => rawSkip P eff o (shRaw P n ops rest pend K (st.put o.dst (.val undef)))
          | _, _, _ => False

def shDraw (P : Program) (n : Nat) (ops : Array Oper) (K : St → Prop) (st : St) : Prop :=
  match ops.toList.all (isQuietIn P) with
  | true => match Region.lexB .any ops with
    | true => shOps P n ops.toList ops.toList K ⟨st.w.drew, st.own, st.env⟩
    | false => False
  | false => match planOK P ops (planOf P ops ops.size (Array.replicate ops.size false)) (Array.replicate ops.size false) && (Region.noSelect ops && Nat.beq (planOf P ops ops.size (Array.replicate ops.size false)).length ops.size) with
    | true => flush st fun st => shRaw P n ops (planOf P ops ops.size (Array.replicate ops.size false)) [] K ⟨st.w.drew, [], st.env⟩
    | false => False

def shReg (P : Program) (n : Nat) (ops : Array Oper) (draw : Bool) (K : St → Prop) (st : St) : Prop :=
  match draw with
  | false => shOps P n ops.toList ops.toList K st
  | true => shDraw P n ops K st

def keyed (e : List (Nat × EV)) (s : Nat) : Bool := match look e s with | some _ => true | none => false

/-- The walk of a piece of code: 'kn' behind it, 'ke' behind a jump out of a block, 'kr' at a return. -/
def sh (P : Program) (n : Nat) : Code → List Nat → (St → Prop) → (Nat → St → Prop) → (St → Prop) → St → Prop
  | .skip, _, kn, _, _, st => kn st
  | .label _, _, kn, _, _, st => kn st
  | .exit id, _, _, ke, _, st => ke id st
  | .ret, _, _, _, kr, st => kr st
  | .region id ops draw, live, kn, _, _, st =>
    match noGuards ops.toList with
    | true => shReg P n ops draw kn st
    | false => flush st fun st =>
      join P (.region id ops draw) (dedup ((opsMods ops.toList).filter (mem live))) (drops st.env (opsMods ops.toList)) kn fun J => shReg P n ops draw J st
  | .seq a b, live, kn, ke, kr, st => sh P n a (expo b ++ live) (fun st => sh P n b live kn ke kr st) ke kr st
  | .cond c a b, live, kn, ke, kr, st =>
    match st.op c with
    | some (.val (.bool t)) =>
      match falls a && falls b with
      | true => flush st fun st =>
        join P (.cond c a b) (dedup ((mods a ++ mods b).filter fun s => mem live s && (keyed st.env s || (mem (sure a) s && mem (sure b) s)))) (drops st.env (mods a ++ mods b)) kn fun J =>
          Br t (sh P n a live J ke kr st) (sh P n b live J ke kr st)
      | false => Br t (sh P n a live kn ke kr st) (sh P n b live kn ke kr st)
    | _ => False
  | .block id body, live, kn, ke, kr, st =>
    match Nat.ble ((bif falls body then 1 else 0) + exitN id body) 1 with
    | true => sh P n body live kn (fun i st => match Nat.beq i id with | true => kn st | false => ke i st) kr st
    | false => flush st fun st =>
      join P body (dedup ((mods body).filter fun s => mem live s && keyed st.env s)) (drops st.env (mods body)) kn fun J =>
        sh P n body live J (fun i st => match Nat.beq i id with | true => J st | false => ke i st) kr st
  | .loop body, live, _, ke, kr, st => flush st fun st =>
    match valsAt st.w st.env (dedup ((mods body).filter fun s => mem (expo body ++ live) s && keyed st.env s)) with
    | none => False
    | some vs0 => match fitCs (patsOfV vs0) vs0 with
      | false => False
      | true => loopP (dedup ((mods body).filter fun s => mem (expo body ++ live) s && keyed st.env s)) vs0 st.w (drops st.env (mods body)) fun kn' st' => sh P n body (expo body ++ live) kn' ke kr st'
  | .scope _, _, _, _, _, _ => False
  | .rangeFunc .., _, _, _, _, _ => False
  | .goto _, _, _, _, _, _ => False
  | .refuse _, _, _, _, _, _ => False

/-- The results of a function, read at its end. -/
def resultsK (P : Program) (st : St) : List ResultVar → (List Value → Prop) → Prop
  | [], K => K []
  | .tmp t :: rs, K => match look st.env t with
    | none => False
    | some e => resultsK P st rs fun vs => K (e.toV st.w :: vs)
  | .cell a t :: rs, K => match look st.env a with
    | none => False
    | some e => loadQ P st t e fun v _ => resultsK P st rs fun vs => K (v.toV st.w :: vs)
def retVal : List Value → Value
  | [v] => v
  | vs => .tuple vs.toArray
def resLive : List ResultVar → List Nat
  | [] => []
  | .tmp t :: rs => t :: resLive rs
  | .cell a _ :: rs => a :: resLive rs
def atRet (P : Program) (rs : List ResultVar) (R : Ending → World → Prop) (st : St) : Prop :=
  resultsK P st rs fun vs => match st.own with
    | [] => R (.returned (retVal vs)) st.w
    | own => ∀ w1, Ext st.w own w1 → R (.returned (retVal vs)) w1
def argEnv : Nat → List Value → List (Nat × EV)
  | _, [] => []
  | i, v :: vs => (i, .val v) :: argEnv (i + 1) vs

/-- The walk of a function, called with 'args' in the world 'w'. -/
def shFn (P : Program) (n : Nat) (rs : List ResultVar) (c : Code) (args : List Value) (w : World) (R : Ending → World → Prop) : Prop :=
  sh P n c (resLive rs) (atRet P rs R) (fun _ _ => False) (atRet P rs R) ⟨w, [], argEnv 0 args⟩

end Go.Sh
end

section
/- The quiet operations of the symbolic walk are carried out as the walk says. No condition. -/
namespace Go.Sh
open Go

/-! Patterns. -/
theorem exK_elim {k : PK} {K : Value → Prop} (h : exK k K) : ∃ v, K v := by
  cases k <;> simp only [exK] at h
  · obtain ⟨n, h⟩ := h; exact ⟨_, h⟩
  · obtain ⟨n, h⟩ := h; exact ⟨_, h⟩
  · obtain ⟨n, h⟩ := h; exact ⟨_, h⟩
  · obtain ⟨n, h⟩ := h; exact ⟨_, h⟩
  · obtain ⟨p, n, c, h⟩ := h; exact ⟨_, h⟩
  · obtain ⟨n, h⟩ := h; exact ⟨_, h⟩
  · exact h
theorem exKs_elim : ∀ {ks : List PK} {K : List Value → Prop}, exKs ks K → ∃ vs, K vs
  | [], _, h => ⟨_, h⟩
  | _ :: _, _, h => by
    obtain ⟨v, h⟩ := exK_elim h
    obtain ⟨vs, h⟩ := exKs_elim h
    exact ⟨_, h⟩
theorem exC_elim {k : PC} {K : Value → Prop} (h : exC k K) : ∃ v, K v := by
  cases k
  · exact exK_elim h
  · obtain ⟨vs, h⟩ := exKs_elim h; exact ⟨_, h⟩
theorem exCs_elim : ∀ {ks : List PC} {K : List Value → Prop}, exCs ks K → ∃ vs, K vs
  | [], _, h => ⟨_, h⟩
  | _ :: _, _, h => by
    obtain ⟨v, h⟩ := exC_elim h
    obtain ⟨vs, h⟩ := exCs_elim h
    exact ⟨_, h⟩
theorem exP_elim {p : Pat} {K : Value → Prop} (h : exP p K) : ∃ v, K v := by
  cases p
  · exact exC_elim h
  · obtain ⟨vs, h⟩ := exCs_elim h; exact ⟨_, h⟩

theorem optP_elim {p : Option Addr} {K : Addr → Prop} (h : optP p K) : ∃ a, p = some a ∧ K a := by
  cases p
  · exact h.elim
  · exact ⟨_, rfl, h⟩

/-! The environment. -/
/-- The number of slots; the slots that may be written, and what the others hold. -/
structure Fm where
  n : Nat
  M : List Nat
  T : Nat → Option Value
structure EnvOK (F : Fm) (w0 : World) (e : List (Nat × EV)) (a : Act) : Prop where
  defers : a.defers = []
  size : a.tmps.size = F.n
  frame : ∀ t, t ∉ F.M → a.tmps[t]? = F.T t
  get : ∀ t v, look e t = some v → a.tmps[t]? = some (v.toV w0)

theorem nbeq {a b : Nat} (h : a ≠ b) : Nat.beq a b = false := by
  cases hb : Nat.beq a b with
  | false => rfl
  | true => exact absurd (Nat.eq_of_beq_eq_true hb) h

theorem look_drop1 (e : List (Nat × EV)) (t s : Nat) : look (drop1 e t) s = if s = t then none else look e s := by
  induction e with
  | nil => simp [drop1, look]
  | cons p e ih =>
    obtain ⟨q, v⟩ := p
    simp only [drop1, look]
    by_cases hq : q = t
    · subst hq
      simp only [Nat.beq_refl, cond_true, ih]
      by_cases hs : s = q
      · simp [hs]
      · have : Nat.beq q s = false := nbeq (Ne.symm hs)
        simp [hs, this]
    · have h1 : Nat.beq q t = false := nbeq hq
      simp only [h1, cond_false, look, ih]
      by_cases hs : q = s
      · subst hs; simp [hq]
      · have h2 : Nat.beq q s = false := nbeq hs
        simp [h2]

theorem look_setE (e : List (Nat × EV)) (t s : Nat) (v : EV) : look (setE e t v) s = if s = t then some v else look e s := by
  simp only [setE, look, look_drop1]
  by_cases h : s = t
  · subst h; simp
  · have h2 : Nat.beq t s = false := nbeq (Ne.symm h)
    simp [h, h2]

variable {P : Program} {F : Fm} {st : St} {a : Act}

theorem EnvOK.getD {w0 : World} {e : List (Nat × EV)} (h : EnvOK F w0 e a) {t : Nat} {v : EV} (hl : look e t = some v) : a.tmps.getD t undef = v.toV w0 := by
  simp [h.get t v hl]

theorem EnvOK.op (h : EnvOK F st.w st.env a) {x : Operand} {e : EV} (hx : st.op x = some e) : a.eval x = e.toV st.w := by
  cases x with
  | tmp t => exact h.getD hx
  | const v => simp only [St.op, Option.some.injEq] at hx; subst hx; rfl
  | global g => simp only [St.op, Option.some.injEq] at hx; subst hx; rfl
  | func f => simp only [St.op, Option.some.injEq] at hx; subst hx; rfl

theorem EnvOK.v (h : EnvOK F st.w st.env a) {x : Operand} {K : Value → Prop} (hx : st.v x K) : K (a.eval x) := by
  unfold St.v at hx
  split at hx
  · rename_i e he; rw [h.op he]; exact hx
  · exact hx.elim
theorem EnvOK.vs (h : EnvOK F st.w st.env a) : ∀ {xs : List Operand} {K : List Value → Prop}, st.vs xs K → K (xs.map a.eval)
  | [], _, hx => hx
  | x :: xs, K, hx => by
    have h1 := h.v (x := x) (K := fun v => st.vs xs fun vs => K (v :: vs)) hx
    exact EnvOK.vs h (xs := xs) (K := fun vs => K (a.eval x :: vs)) h1
theorem EnvOK.vi (h : EnvOK F st.w st.env a) : ∀ {xs : List (Nat × Operand)} {K : List (Nat × Value) → Prop}, st.vi xs K → K (xs.map fun p => (p.1, a.eval p.2))
  | [], _, hx => hx
  | x :: xs, K, hx => by
    have h1 := h.v (x := x.2) (K := fun v => st.vi xs fun vs => K ((x.1, v) :: vs)) hx
    exact EnvOK.vi h (xs := xs) (K := fun vs => K ((x.1, a.eval x.2) :: vs)) h1
theorem EnvOK.vo (h : EnvOK F st.w st.env a) {x : Option Operand} {K : Option Value → Prop} (hx : st.vo x K) : K (x.map a.eval) := by
  cases x with
  | none => exact hx
  | some x => exact h.v (x := x) (K := fun v => K (some v)) hx

theorem EnvOK.putD {w0 : World} {e : List (Nat × EV)} (h : EnvOK F w0 e a) {d : Nat} (hd : d < F.n) (hdm : d ∈ F.M) (v : EV) : EnvOK F w0 (setE e d v) (a.put (some d) (v.toV w0)) where
  defers := h.defers
  size := by simp [Act.put, h.size]
  frame t ht := by
    simp only [Act.put]
    rw [Array.getElem?_setIfInBounds_ne (fun (e : d = t) => ht (by rw [← e]; exact hdm))]
    exact h.frame t ht
  get t u ht := by
    rw [look_setE] at ht
    simp only [Act.put]
    by_cases htd : t = d
    · subst htd
      simp only [if_true, Option.some.injEq] at ht
      subst ht
      simp [h.size, hd]
    · simp only [htd, if_false] at ht
      rw [Array.getElem?_setIfInBounds_ne (Ne.symm htd)]
      exact h.get t u ht
theorem EnvOK.put (h : EnvOK F st.w st.env a) {d : Option Nat} (hd : dstOK F.n d = true) (hdm : ∀ x, d = some x → x ∈ F.M) (v : EV) : EnvOK F (st.put d v).w (st.put d v).env (a.put d (v.toV st.w)) := by
  cases d with
  | none => exact h
  | some d => exact h.putD (by simpa [dstOK] using hd) (hdm d rfl) v

/-! Worlds with own blocks. -/
theorem ext_size (w : World) : ∀ os : List OB, (ext w os).heap.size = w.heap.size + os.length
  | [] => rfl
  | o :: os => by simp [ext, ext_size (w.alloc o.toObj) os]; omega
theorem ext_append (w : World) : ∀ (os : List OB) (o : OB), ext w (os ++ [o]) = (ext w os).alloc o.toObj
  | [], _ => rfl
  | p :: os, o => ext_append (w.alloc p.toObj) os o
theorem ext_old (w : World) : ∀ (os : List OB) (b : Nat), b < w.heap.size → (ext w os).heap[b]? = w.heap[b]?
  | [], _, _ => rfl
  | o :: os, b, h => by
    rw [ext, ext_old _ os b (by rw [World.size_alloc]; omega)]
    show (w.heap.push o.toObj)[b]? = _
    rw [Array.getElem?_push, if_neg (by omega)]
theorem ext_new (w : World) : ∀ (os : List OB) (i : Nat) (o : OB), nthOB os i = some o → (ext w os).heap[w.heap.size + i]? = some o.toObj
  | [], _, _, h => by simp [nthOB] at h
  | p :: os, 0, o, h => by
    simp only [nthOB, Option.some.injEq] at h
    subst h
    rw [ext, Nat.add_zero, ext_old _ os _ (by rw [World.size_alloc]; omega)]
    show (w.heap.push p.toObj)[w.heap.size]? = _
    simp
  | p :: os, i + 1, o, h => by
    have := ext_new (w.alloc p.toObj) os i o h
    rw [World.size_alloc] at this
    rw [ext, show w.heap.size + (i + 1) = w.heap.size + 1 + i by omega]
    exact this

theorem cell?_lt {w : World} {p : Addr} {v : Value} (h : w.cell? p = some v) : p.block < w.heap.size := by
  unfold World.cell? at h
  rcases Nat.lt_or_ge p.block w.heap.size with h' | h'
  · exact h'
  · simp [Array.getElem?_eq_none h'] at h
theorem cell?_congr {w w' : World} {p : Addr} (h : w'.heap[p.block]? = w.heap[p.block]?) : w'.cell? p = w.cell? p := by
  unfold World.cell?; rw [h]
theorem frozen?_congr {w w' : World} {p : Addr} (h : w'.heap[p.block]? = w.heap[p.block]?) : w'.frozen? p = w.frozen? p := by
  unfold World.frozen?; rw [h]
theorem ext_cell {w : World} {p : Addr} {v : Value} (os : List OB) (h : w.cell? p = some v) : (ext w os).cell? p = some v := by
  rw [cell?_congr (ext_old w os _ (cell?_lt h))]; exact h
theorem add_block (p : Addr) (k : Nat) : (p.add k).block = p.block := by unfold Addr.add; split <;> rfl
theorem CellsAre.ext {w : World} {p : Addr} (os : List OB) : ∀ {i : Nat} {vs : List Value}, CellsAre w p i vs → CellsAre (Sh.ext w os) p i vs
  | _, [], _ => trivial
  | _, _ :: _, h => ⟨ext_cell os h.1, CellsAre.ext os h.2⟩

/-! Runs. -/
theorem run_typeInfo {t : TypeId} {i : TypeInfo} (h : P.info? t = some i) (w : World) : (typeInfo t).run P w = .ok i w := by
  unfold typeInfo
  simp only [Sem.run_bind, run_program, Result.andThen_ok, h, Sem.run_pure]
theorem run_sizeOf' {t : TypeId} {i : TypeInfo} (h : P.info? t = some i) (w : World) : (sizeOf t).run P w = .ok i.size w := by
  unfold sizeOf
  simp only [Sem.run_bind, run_typeInfo h, Result.andThen_ok, Sem.run_pure]
theorem underlying_some {t : TypeId} {i : TypeInfo} (h : P.info? t = some i) : ∃ d, P.underlying t = some d ∨ P.underlying t = none := by
  cases P.underlying t with
  | none => exact ⟨.invalid, .inr rfl⟩
  | some d => exact ⟨d, .inl rfl⟩
theorem run_isAgg_true {t : TypeId} (h : aggB P t = true) (w : World) : (isAgg t).run P w = .ok true w := by
  unfold aggB at h
  split at h
  · rename_i d hd; unfold isAgg; simp only [Sem.run_bind, run_underlying hd, Result.andThen_ok, Sem.run_pure]
  · rename_i n e hd; unfold isAgg; simp only [Sem.run_bind, run_underlying hd, Result.andThen_ok, Sem.run_pure]
  · cases h
theorem run_isAgg_false {t : TypeId} {d : TypeDesc} (hd : P.underlying t = some d) (h : aggB P t = false) (w : World) : (isAgg t).run P w = .ok false w := by
  unfold aggB at h
  rw [hd] at h
  unfold isAgg
  simp only [Sem.run_bind, run_underlying hd, Result.andThen_ok]
  cases d <;> simp at h ⊢
theorem run_loadCellsFrom {w : World} {p : Addr} : ∀ {vs : List Value} {i : Nat} {acc : Array Value}, CellsAre w p i vs → (loadCellsFrom p i vs.length acc).run P w = .ok (acc ++ vs.toArray) w
  | [], _, _, _ => by simp [loadCellsFrom]
  | v :: vs, i, acc, h => by
    simp only [List.length_cons, loadCellsFrom, Sem.run_bind, run_load, h.1, Result.andThen_ok]
    rw [run_loadCellsFrom h.2]
    congr 1
    apply Array.ext'
    simp
theorem run_loadCells {w : World} {p : Addr} {vs : List Value} (h : CellsAre w p 0 vs) : (loadCells p vs.length).run P w = .ok vs.toArray w := by
  unfold loadCells; rw [run_loadCellsFrom h]; simp
theorem len?_eq : ∀ l : List Value, len? l = l.length
  | [] => rfl
  | _ :: l => by simp [len?, len?_eq l]

end Go.Sh
end
