/- The law TransformCondition of the package credencelaw23 answers true at every input and leaves its arguments as they were (Rows.TransformConditionCardSaid); no condition beyond the card's own: the three listed tables stand as the program's text lays them. Part 20 of 25. -/
import Derived.Test.YtajfdcbknghipaaGreatDoorW11
import Derived.Test.YtajfdcbknghipaaGreatDoorW13
import Derived.Test.YtajfdcbknghipaaGreatDoorW19
import Derived.Test.YtajfdcbknghipaaGreatDoorW15

section
/- The reference's way to And and Or comes to the same: plain Lean. -/
namespace Go.Fm

def pickAt (L : List Nd) (x : Nat) : Option Nd := match L[x]? with
  | some m => if m.kind = 2 then some m else none
  | none => none
def pickNd (L : List Nd) (kind : Int) (a : Nat) : Option Nd :=
  if kind = 5 then (match L[a]? with
    | some n => if n.kind = 3 then (match n.ins.head? with
      | some x => pickAt L x
      | none => none) else none
    | none => none)
  else pickAt L a
theorem blockOf_nd (L : List Nd) (x : Nat) : blockOf L x = (pickAt L x).map (·.block) := by
  unfold blockOf pickAt
  cases L[x]? with
  | none => rfl
  | some m => simp only; split <;> rfl
theorem pickOf_nd (L : List Nd) (kind : Int) (a : Nat) : pickOf L kind a = (pickNd L kind a).map (·.block) := by
  unfold pickOf pickNd
  split
  · cases L[a]? with
    | none => rfl
    | some n =>
      simp only
      split
      · cases n.ins.head? with
        | none => rfl
        | some x => exact blockOf_nd L x
      · rfl
  · exact blockOf_nd L a
theorem pickAt_some {L : List Nd} (h : WF L) {x : Nat} {m : Nd} (hx : pickAt L x = some m) : L[x]? = some m ∧ m = ⟨2, m.block, m.alt, []⟩ := by
  unfold pickAt at hx
  cases hl : L[x]? with
  | none => rw [hl] at hx; cases hx
  | some n =>
    rw [hl] at hx
    simp only at hx
    split at hx
    · rename_i hk
      injection hx with hx
      subst hx
      have hi := (h.ok x n hl).leaf (by omega)
      refine ⟨rfl, ?_⟩
      cases n
      simp only at hk hi
      subst hk; subst hi; rfl
    · cases hx
/-- Different nodes of the list are different picks. -/
theorem pickNd_inj {L : List Nd} (h : WF L) {kind : Int} {a b : Nat} {m : Nd} (ha : pickNd L kind a = some m) (hb : pickNd L kind b = some m) : a = b := by
  unfold pickNd at ha hb
  split at ha
  · rename_i h5
    rw [if_pos h5] at hb
    cases hla : L[a]? with
    | none => rw [hla] at ha; cases ha
    | some na =>
      cases hlb : L[b]? with
      | none => rw [hlb] at hb; cases hb
      | some nb =>
        rw [hla] at ha; rw [hlb] at hb
        simp only at ha hb
        split at ha
        case isFalse => cases ha
        split at hb
        case isFalse => cases hb
        rename_i hka hkb
        have oka := h.ok a na hla
        have okb := h.ok b nb hlb
        obtain ⟨x, hx⟩ := List.length_eq_one_iff.1 (oka.not1 hka)
        obtain ⟨y, hy⟩ := List.length_eq_one_iff.1 (okb.not1 hkb)
        rw [hx] at ha; rw [hy] at hb
        simp only [List.head?_cons] at ha hb
        have h1 := (pickAt_some h ha).1
        have h2 := (pickAt_some h hb).1
        have hxy : x = y := nodup_inj h.nodup h1 h2
        have pa := oka.plain (by omega)
        have pb := okb.plain (by omega)
        have hnn : na = nb := by
          cases na; cases nb
          simp only at hka hkb hx hy pa pb
          rw [hka, hkb, hx, hy, pa.1, pa.2, pb.1, pb.2, hxy]
        subst hnn
        exact nodup_inj h.nodup hla hlb
  · rename_i h5
    rw [if_neg h5] at hb
    exact nodup_inj h.nodup (pickAt_some h ha).1 (pickAt_some h hb).1
theorem pickNd_form {L : List Nd} (h : WF L) {kind : Int} {a : Nat} {m : Nd} (ha : pickNd L kind a = some m) : m = ⟨2, m.block, m.alt, []⟩ := by
  unfold pickNd at ha
  split at ha
  · cases hla : L[a]? with
    | none => rw [hla] at ha; cases ha
    | some na =>
      rw [hla] at ha
      simp only at ha
      split at ha
      · cases hh : na.ins.head? with
        | none => rw [hh] at ha; cases ha
        | some x => rw [hh] at ha; exact (pickAt_some h ha).2
      · cases ha
  · exact (pickAt_some h ha).2
theorem pick_alts {L : List Nd} (h : WF L) {kind : Int} {a b : Nat} {m m' : Nd} (ha : pickNd L kind a = some m) (hb : pickNd L kind b = some m') (hab : a ≠ b) (hbl : m.block = m'.block) : m.alt ≠ m'.alt := by
  intro hal
  have e : m = m' := by rw [pickNd_form h ha, pickNd_form h hb, hbl, hal]
  subst e
  exact hab (pickNd_inj h ha hb)

def allOf (L : List Nd) (kind : Int) (l : List Nat) : List Nat := l.flatMap (expand L kind)
/-- What has been kept of the first i. -/
def doneOf (kind : Int) (s : List Nat) (i : Nat) : List Nat := (s.take i).filter fun x => decide (x ≠ neutralOf kind)
theorem flat_filter (L : List Nd) (kind : Int) (l : List Nat) : flat L kind l = (srt (allOf L kind l)).filter fun x => decide (x ≠ neutralOf kind) := by
  refine (srt_eq (List.Pairwise.filter _ (srt_asc _)) fun x => ?_).symm
  rw [List.mem_filter, List.mem_filter, mem_srt]; rfl
theorem doneOf_all (L : List Nd) (kind : Int) (l : List Nat) : doneOf kind (srt (allOf L kind l)) (srt (allOf L kind l)).length = flat L kind l := by
  unfold doneOf; rw [List.take_length, flat_filter]
theorem doneOf_skip {kind : Int} {s : List Nat} {i : Nat} (h : s[i]? = some (neutralOf kind)) : doneOf kind s (i + 1) = doneOf kind s i := by
  unfold doneOf
  rw [List.take_add_one, h, List.filter_append]
  simp
theorem doneOf_push {kind : Int} {s : List Nat} {i x : Nat} (h : s[i]? = some x) (hx : x ≠ neutralOf kind) : doneOf kind s (i + 1) = doneOf kind s i ++ [x] := by
  unfold doneOf
  rw [List.take_add_one, h, List.filter_append]
  simp [hx]
/-- What has been kept is the beginning of what will be kept. -/
theorem doneOf_pre (kind : Int) (s : List Nat) (i : Nat) : ∃ r, s.filter (fun x => decide (x ≠ neutralOf kind)) = doneOf kind s i ++ r := by
  refine ⟨(s.drop i).filter fun x => decide (x ≠ neutralOf kind), ?_⟩
  unfold doneOf
  rw [← List.filter_append, List.take_append_drop]
theorem absorb_ne (kind : Int) : absorbOf kind ≠ neutralOf kind := by unfold absorbOf neutralOf; split <;> omega
theorem absorb_mem {L : List Nd} {kind : Int} {l : List Nat} : (flat L kind l).contains (absorbOf kind) = decide (absorbOf kind ∈ allOf L kind l) := by
  rw [Bool.eq_iff_iff, List.contains_iff_mem, decide_eq_true_iff, flat_filter, List.mem_filter, mem_srt]
  simp [absorb_ne]
theorem comb_absorb {L : List Nd} {kind : Int} {l : List Nat} (h : absorbOf kind ∈ allOf L kind l) : comb L kind l = (L, absorbOf kind) := by
  unfold comb
  rw [absorb_mem, decide_eq_true h]; simp
theorem neutral_lt2 (kind : Int) : neutralOf kind < 2 := by unfold neutralOf; split <;> omega
/-- A node and its negation. -/
theorem comb_compl {L : List Nd} (hw : WF L) {kind : Int} {l : List Nat} {x y : Nat} {n : Nd} (hx : x ∈ allOf L kind l) (hxn : x ≠ neutralOf kind) (hn : L[x]? = some n) (hk : n.kind = 3) (hi : n.ins = [y]) (hy : y ∈ allOf L kind l) : comb L kind l = (L, absorbOf kind) := by
  have hf : ∀ z, z ∈ flat L kind l ↔ z ∈ allOf L kind l ∧ z ≠ neutralOf kind := fun z => by rw [flat_filter, List.mem_filter, mem_srt, decide_eq_true_iff]
  have hyn : y ≠ neutralOf kind := by
    have := (hw.ok x n hn).ge y (by rw [hi]; exact List.mem_cons_self)
    have := neutral_lt2 kind
    omega
  have hc : compl L (flat L kind l) = true := by
    unfold compl
    rw [List.any_eq_true]
    refine ⟨x, (hf x).2 ⟨hx, hxn⟩, ?_⟩
    rw [hn]
    simp only [hi, List.any_cons, List.any_nil, Bool.or_false, Bool.and_eq_true, beq_iff_eq]
    exact ⟨hk, List.contains_iff_mem.2 ((hf y).2 ⟨hy, hyn⟩)⟩
  unfold comb
  rw [hc]; simp
/-- Two picks of one block. -/
theorem comb_excl {L : List Nd} {kind : Int} {l : List Nat} (h : ¬ ((flat L kind l).filterMap (pickOf L kind)).Nodup) : comb L kind l = (L, absorbOf kind) := by
  have : excl L kind (flat L kind l) = true := by unfold excl; rw [decide_eq_false h]; rfl
  unfold comb
  rw [this]; simp
def pickRest (L : List Nd) (kind : Int) (f : List Nat) : List Nd × Nat := match f with
  | [] => (L, neutralOf kind)
  | [a] => (L, a)
  | a :: b :: r => mk L ⟨kind, 0, 0, a :: b :: r⟩
theorem pickRest_big {L : List Nd} {kind : Int} {f : List Nat} (h0 : f.length ≠ 0) (h1 : f.length ≠ 1) : pickRest L kind f = mk L ⟨kind, 0, 0, f⟩ := by
  match f with
  | [] => exact absurd rfl h0
  | [a] => exact absurd rfl h1
  | a :: b :: r => rfl
theorem comb_rest {L : List Nd} (hw : WF L) {kind : Int} {l : List Nat} (h1 : absorbOf kind ∉ allOf L kind l) (h2 : ∀ x ∈ flat L kind l, ∀ n, L[x]? = some n → n.kind = 3 → ∀ y, n.ins = [y] → y ∉ allOf L kind l) (h3 : ((flat L kind l).filterMap (pickOf L kind)).Nodup) :
    comb L kind l = pickRest L kind (flat L kind l) := by
  have hc : compl L (flat L kind l) = false := by
    cases hq : compl L (flat L kind l) with
    | false => rfl
    | true =>
      exfalso
      unfold compl at hq
      rw [List.any_eq_true] at hq
      obtain ⟨x, hx, hb⟩ := hq
      cases hn : L[x]? with
      | none => rw [hn] at hb; cases hb
      | some n =>
        rw [hn] at hb
        simp only [Bool.and_eq_true, beq_iff_eq] at hb
        obtain ⟨y, hy⟩ := List.length_eq_one_iff.1 ((hw.ok x n hn).not1 hb.1)
        rw [hy] at hb
        simp only [List.any_cons, List.any_nil, Bool.or_false] at hb
        have hyf := List.contains_iff_mem.1 hb.2
        rw [flat_filter, List.mem_filter, mem_srt] at hyf
        exact h2 x hx n hn hb.1 y hy hyf.1
  have he : excl L kind (flat L kind l) = false := by unfold excl; rw [decide_eq_true h3]; rfl
  unfold comb
  rw [absorb_mem, decide_eq_false h1, hc, he]
  simp only [Bool.or_self, Bool.false_eq_true, if_false]
  generalize flat L kind l = f
  match f with
  | [] => rfl
  | [a] => rfl
  | a :: b :: r => rfl

end Go.Fm
end

section
/- The reference's pick and join. Conditions on memory as stated. -/
namespace Go.Proofs.YtajfdcbknghipaaGreatDoor
open Go Go.Sh Go.Fm Go.RowKit

variable {w : World} {B : Nat} {s : Addr} {L : List Nd} {d : RD}

theorem rpk_ok (h : RefM w s L d) (hwf : WF L) (hL : L.length < 30000) {a : Nat} (ha : a < L.length) (kind : Int) :
    CallsF Tryz.prog 120 #[.pointer (some s), .int .i64 a, .int .i64 kind] w fun e w' => ∃ (k b al : Int) (p : Option Addr) (n c : Nat), e = .returned (.tuple #[.agg #[.int .i64 k, .int .i64 b, .int .i64 al, .slice p n c], .bool (pickNd L kind a).isSome]) ∧ (∀ m, pickNd L kind a = some m → b = m.block ∧ al = m.alt) ∧ Mod NoB w w' := by
  refine C_credenceref22_Store_pick _ _ _ _ _ ?_
  have hn : L[a]? = some L[a] := List.getElem?_eq_getElem ha
  generalize L[a] = n at hn
  have hok := hwf.ok a n hn
  obtain ⟨ad, x, hpl, hxm, hk, hb, hal, hins, hc, hrow, hcell⟩ := h.node hn
  refine ⟨_, _, _, h.c0, optP_intro hpl ⟨⟨by omega, by omega⟩, _, _, _, _, _, _, by rw [Int.toNat_natCast]; exact hc, ?_⟩⟩
  intro w1 hw1
  have hb0 : Blk w1 (w.heap.size + 0) [.int .i64 0, .int .i64 0, .int .i64 0, .slice none 0 0] 58 := hw1.blk 0 rfl
  have hb1 : Blk w1 (w.heap.size + 1) [.int .i64 n.kind, .int .i64 n.block, .int .i64 n.alt, .slice x.p n.ins.length x.c] 58 := hw1.blk 1 rfl
  have h1 := h.same hw1.mod
  have hm1 := hw1.mod
  intro J hJ
  -- behind the choice: the node that is handed back lies in the second block
  have main : ∀ (w2 : World) (nd : Nd) (p : Option Addr) (c : Nat) (j : Bool), Mod (fun b => w.heap.size ≤ b) w1 w2 → Blk w2 (w.heap.size + 0) [.int .i64 0, .int .i64 0, .int .i64 0, .slice none 0 0] 58 →
      Blk w2 (w.heap.size + 1) [.int .i64 nd.kind, .int .i64 nd.block, .int .i64 nd.alt, .slice p nd.ins.length c] 58 → pickNd L kind a = (if nd.kind = 2 then some nd else none) → J [.bool j] w2 := by
    intro w2 nd p c j hm2 hb20 hb21 hp
    refine hJ _ _ ?_
    have hb20d := hb20.keep (drew_mod w2) NoB.not
    have hb21d := hb21.keep (drew_mod w2) NoB.not
    refine ⟨_, _, _, _, _, _, hb21d.cellsAre, nd.kind, hb21d.cellAt 0 0, hb20d.can rfl (Nat.le_refl _), ?_⟩
    intro w3 hw3
    have hm3 : Mod (· = w.heap.size + 0) w2.drew w3 := hw3.mod
    have hb3 := hw3.whole hb20d rfl
    refine ⟨(hb21d.keep hm3 (by omega)).cellAt 0 0, _, _, _, _, _, _, hb3.cellsAre, nd.kind, nd.block, nd.alt, p, nd.ins.length, c, ?_, ?_, ?_⟩
    · rw [hp]
      by_cases hk2 : nd.kind = 2
      · rw [if_pos hk2, hk2]; rfl
      · rw [if_neg hk2]
        have : (nd.kind == 2) = false := by simpa using hk2
        rw [this]; rfl
    · intro m hm
      rw [hp] at hm
      split at hm
      · injection hm with hm; subst hm; exact ⟨rfl, rfl⟩
      · cases hm
    · exact ((hm1.new _ hm2 fun b hb h' => by have h2 : w.heap.size ≤ b := h'; omega).then (drew_mod w2)).new _ hm3 fun b hb e => by have e' : b = w.heap.size + 0 := e; omega
  refine Br_eq (fun h5 => ?_) fun h5 => ?_
  rotate_left
  · refine main w1 n x.p x.c false (Mod.refl _ _) hb0 hb1 ?_
    unfold pickNd pickAt
    rw [if_neg h5, hn]
  refine ⟨n.kind, hb1.cellAt 0 0, Br_ne (fun h3 => ?_) fun h3 => ?_⟩
  · have hp : pickNd L kind a = none := by
      unfold pickNd
      rw [if_pos h5, hn]
      simp only
      rw [if_neg h3]
    refine ⟨hb0.can rfl (Nat.le_refl _), ?_⟩
    intro w2 hw2
    have hb2 := hw2.whole hb0 rfl
    have hm2 : Mod (· = w.heap.size + 0) w1 w2 := hw2.mod
    refine ⟨_, _, _, _, _, _, hb2.cellsAre, 0, 0, 0, none, 0, 0, by rw [hp]; rfl, fun m hm => ?_, hm1.new _ hm2 fun b hb e => by have e' : b = w.heap.size + 0 := e; omega⟩
    rw [hp] at hm; cases hm
  · obtain ⟨y, hy⟩ := List.length_eq_one_iff.1 (hok.not1 h3)
    have hyl := hok.lt y (by rw [hy]; exact List.mem_cons_self)
    have hyn : L[y]? = some (L[y]'(by omega)) := List.getElem?_eq_getElem _
    generalize L[y]'(by omega) = m at hyn
    have h1d := h1.same (drew_mod w1)
    have hb1d := hb1.keep (drew_mod w1) NoB.not
    obtain ⟨ay, hay, hcy⟩ := ((hrow.keep hm1 fun _ _ => NoB.not).keep (drew_mod w1) fun _ _ => NoB.not).at (i := 0) (v := .int .i64 y) (by rw [hy]; rfl)
    obtain ⟨ad2, x2, hpl2, hxm2, hk2, hb2', hal2, hins2, hc2, hrow2, hcell2⟩ := h1d.node hyn
    refine ⟨_, _, _, h1d.c0, x.p, n.ins.length, x.c, hb1d.cellAt 0 3, optP_intro hay ⟨⟨by omega, by rw [hy]; simp⟩, y, hcy, optP_intro hpl2 ⟨⟨by omega, by omega⟩, m.kind, m.block, m.alt, x2.p, m.ins.length, x2.c, by rw [Int.toNat_natCast]; exact hc2, hb1d.can rfl (by simp), ?_⟩⟩⟩
    intro w2 hw2
    have hm2 : Mod (· = w.heap.size + 1) w1.drew w2 := hw2.mod
    have hb2 := hw2.whole hb1d rfl
    refine main w2 m x2.p x2.c false ((drew_mod w1).to.then (hm2.mono fun b _ e => ?_)) ((hb0.keep (drew_mod w1) NoB.not).keep hm2 (by omega)) hb2 ?_
    · have e' : b = w.heap.size + 1 := e
      show w.heap.size ≤ b
      omega
    · unfold pickNd pickAt
      rw [if_pos h5, hn]
      simp only
      rw [if_pos h3, hy]
      simp only [List.head?_cons, hyn]

end Go.Proofs.YtajfdcbknghipaaGreatDoor
end

section
/- The reference's join, walked: it is And and Or as functions. Conditions on memory as stated. -/
namespace Go.Proofs.YtajfdcbknghipaaGreatDoor
open Go Go.Sh Go.Fm Go.RowKit

variable {w : World} {B : Nat} {s : Addr} {L : List Nd} {d : RD}

theorem RefM.allLt (h : RefM w s L d) : ∀ b, d.all b → b < w.heap.size := by
  rintro b (hb | ⟨x, hx, hb⟩)
  · exact h.lt b hb
  · exact h.insLt x hx b hb
/-- A set of numbers, as a map. -/
def SeenM (w : World) (r : Nat) (T : List Nat) : Prop := ∃ m : List (Int × Value), MapM encI w r m ∧ ∀ x : Nat, getM m (x : Int) = if x ∈ T then some (.bool true) else none
theorem SeenM.keep {fp : Nat → Prop} {w' : World} {r : Nat} {T : List Nat} (h : SeenM w r T) (hm : Mod fp w w') (hn : ¬ fp r) : SeenM w' r T := by
  obtain ⟨m, h1, h2⟩ := h
  exact ⟨m, h1.keep hm hn, h2⟩
theorem SeenM.only {w' : World} {r : Nat} {T : List Nat} (h : SeenM w r T) (hm : Mod NoB w w') : SeenM w' r T := h.keep hm fun h => h
theorem SeenM.lt {r : Nat} {T : List Nat} (h : SeenM w r T) : r < w.heap.size := by obtain ⟨m, h1, _⟩ := h; exact h1.lt
theorem SeenM.look {r : Nat} {T : List Nat} (h : SeenM w r T) (x : Nat) : (Instr.lookup 105 (.map (some r)) (.int .i64 x) false).run Tryz.prog w = .ok (.bool (decide (x ∈ T))) w := by
  obtain ⟨m, h1, h2⟩ := h
  have := lookup_ok (key_int map_seen) h1 (x : Int) (zero_bool w) false
  rw [h2] at this
  show (Instr.lookup 105 (.map (some r)) (encI x) false).run Tryz.prog w = _
  rw [this]
  by_cases hx : x ∈ T <;> simp [hx]
theorem SeenM.add {r : Nat} {T : List Nat} (h : SeenM w r T) (x : Nat) : ∃ w', (Instr.mapUpdate 105 (.map (some r)) (.int .i64 x) (.bool true)).run Tryz.prog w = .ok () w' ∧ SeenM w' r (T ++ [x]) ∧ Mod (· = r) w w' := by
  obtain ⟨m, h1, h2⟩ := h
  obtain ⟨w', h3, h4, h5⟩ := update_ok (key_int map_seen) h1 (x : Int) (.bool true)
  refine ⟨w', h3, ⟨_, h4, fun y => ?_⟩, h5⟩
  rw [getM_put, h2]
  by_cases hy : y = x
  · subst hy; simp
  · rw [if_neg (by omega)]
    simp [hy]

def altsM (L : List Nd) (kind : Int) (l : List Nat) : List (Int × Value) := l.filterMap fun a => (pickNd L kind a).map fun n => (n.block, Value.int .i64 n.alt)
theorem altsM_snoc (L : List Nd) (kind : Int) (l : List Nat) (x : Nat) : altsM L kind (l ++ [x]) = altsM L kind l ++ (match pickNd L kind x with | some m => [(m.block, Value.int .i64 m.alt)] | none => []) := by
  unfold altsM
  rw [List.filterMap_append]
  cases h : pickNd L kind x <;> simp [h]
theorem getM_alts_none {L : List Nd} {kind : Int} : ∀ {l : List Nat} {b : Int}, b ∉ l.filterMap (pickOf L kind) → getM (altsM L kind l) b = none
  | [], _, _ => rfl
  | a :: l, b, h => by
    unfold altsM
    rw [List.filterMap_cons] at h ⊢
    rw [pickOf_nd] at h
    cases hp : pickNd L kind a with
    | none =>
      rw [hp] at h
      simp only [Option.map_none] at h ⊢
      exact getM_alts_none h
    | some m =>
      rw [hp] at h
      simp only [Option.map_some, List.mem_cons, not_or] at h ⊢
      unfold getM
      rw [if_neg h.1]
      exact getM_alts_none h.2
theorem getM_alts_some {L : List Nd} {kind : Int} : ∀ {l : List Nat} {b : Int}, b ∈ l.filterMap (pickOf L kind) → ∃ a ∈ l, ∃ m, pickNd L kind a = some m ∧ m.block = b ∧ getM (altsM L kind l) b = some (.int .i64 m.alt)
  | [], _, h => by cases h
  | a :: l, b, h => by
    unfold altsM
    rw [List.filterMap_cons] at h ⊢
    rw [pickOf_nd] at h
    cases hp : pickNd L kind a with
    | none =>
      rw [hp] at h
      simp only [Option.map_none] at h ⊢
      obtain ⟨a', ha', m, h1, h2, h3⟩ := getM_alts_some h
      exact ⟨a', List.mem_cons_of_mem _ ha', m, h1, h2, h3⟩
    | some m =>
      rw [hp] at h
      simp only [Option.map_some, List.mem_cons] at h ⊢
      unfold getM
      by_cases hb : b = m.block
      · rw [if_pos hb]
        exact ⟨a, .inl rfl, m, hp, hb.symm, rfl⟩
      · rw [if_neg hb]
        obtain ⟨a', ha', m', h1, h2, h3⟩ := getM_alts_some (h.resolve_left hb)
        exact ⟨a', .inr ha', m', h1, h2, h3⟩

theorem not_nodup_pre {l r : List Nat} {f : Nat → Option Int} {x : Nat} {b : Int} (h1 : b ∈ l.filterMap f) (h2 : f x = some b) : ¬ ((l ++ [x] ++ r).filterMap f).Nodup := by
  intro h
  rw [List.filterMap_append, List.nodup_append] at h
  have h3 := h.1
  rw [List.filterMap_append, List.nodup_append] at h3
  exact h3.2.2 b h1 b (by simp [h2]) rfl

theorem append_ints {p q : Option Addr} {c : Nat} {l m : List Nat} (h : OwnN w p c l) (hr : Row w q (ints (natI m))) (mc : Nat) (hl : l.length + m.length ≤ 1000000000) :
    ∃ w' p' c', (Builtin.append_ #[25, 25] 25 #[.slice p l.length c, .slice q m.length mc]).run Tryz.prog w = .ok (.slice p' (l ++ m).length c') w' ∧ OwnN w' p' c' (l ++ m) ∧ Mod (At p) w w' ∧ (∀ b, At p' b → At p b ∨ w.heap.size ≤ b) := by
  have hmax : maxLen = 9223372036854775807 := rfl
  obtain ⟨p', c', w', hrun, hown, hm, hat⟩ := append_own (m := m.length) (mc := mc) (ty := 25) elem_int h hr (by rw [ints_len, natI_len, Nat.mul_one]) (by
    intro u hu
    simp only [ints, List.mem_map] at hu
    obtain ⟨y, _, rfl⟩ := hu; rfl) (by rw [hmax]; omega) (by omega)
  refine ⟨w', p', c', by rw [List.length_append]; exact hrun, ?_, hm, fun b hb => (hat b hb).imp id fun e => by omega⟩
  unfold OwnN
  rw [natI_append, ints_append, List.length_append]
  exact hown

theorem join_ok (h : RefM w s L d) (hwf : WF L) (hT : TabB B w) (hB : B ≤ w.heap.size) (hL : L.length ≤ 1000) {kind : Int} (hk : kind = 4 ∨ kind = 5) {y : Option Addr} {yc : Nat} {l : List Nat} (hr : Row w y (ints (natI l))) (hv : ∀ a ∈ l, a < L.length) (hl : l.length ≤ 1000) :
    CallsF Tryz.prog 104 #[.pointer (some s), .slice y l.length yc, .int .i64 kind, .int .i64 (absorbOf kind : Nat), .int .i64 (neutralOf kind : Nat)] w fun e w' => e = .returned (.int .i64 (comb L kind l).2) ∧ RNew w s d (comb L kind l).1 w' := by
  have hall := h.allLt
  have hexlen : ∀ a ∈ l, (expand L kind a).length ≤ 1000 := by
    intro a ha
    have hlt := hv a ha
    unfold expand
    rw [List.getElem?_eq_getElem hlt]
    simp only
    split
    · have := (hwf.ok a _ (List.getElem?_eq_getElem hlt)).len; omega
    · simp
  have halllen : ∀ i, (allOf L kind (l.take i)).length ≤ i * 1000 := by
    intro i
    induction i with
    | zero => simp [allOf]
    | succ i ih =>
      by_cases hi : i < l.length
      · have e : l.take (i + 1) = l.take i ++ [l[i]] := List.take_succ_eq_append_getElem hi
        have hx := hexlen l[i] (List.getElem_mem hi)
        unfold allOf at ih ⊢
        rw [e, List.flatMap_append, List.length_append, List.flatMap_cons, List.flatMap_nil, List.append_nil, Nat.succ_mul]
        omega
      · have e : l.take (i + 1) = l.take i := by rw [List.take_of_length_le (by omega), List.take_of_length_le (by omega)]
        rw [e]
        exact Nat.le_trans ih (Nat.mul_le_mul_right _ (Nat.le_succ i))
  refine C_credenceref22_Store_join _ _ _ _ _ _ _ _ _ ?_
  refine ⟨fun m vs w' => ∃ (i : Nat) (p : Option Addr) (c : Nat), m = l.length - i ∧ i ≤ l.length ∧ vs = [.int .i64 0, .slice p (allOf L kind (l.take i)).length c, .int .i64 i] ∧ OwnN w' p c (allOf L kind (l.take i)) ∧ (∀ b, At p b → w.heap.size ≤ b) ∧ Mod NoB w w',
    ⟨_, 0, none, 0, rfl, Nat.zero_le _, rfl, Own.none _ _ _, fun b hb => (At.none hb).elim, Mod.refl _ _⟩, ?_⟩
  rintro m z0 p' n' c' i' w1 ⟨i, p, c, rfl, hil, hvs, hown1, hp1, hm1⟩
  simp only [List.cons.injEq, Value.int.injEq, Value.slice.injEq, true_and, and_true] at hvs
  obtain ⟨rfl, ⟨rfl, rfl, rfl⟩, rfl⟩ := hvs
  have h1 := h.same hm1
  have hs1 := hm1.size
  have hi1000 := halllen i
  have hi1000' : i * 1000 ≤ 1000 * 1000 := Nat.mul_le_mul_right _ (by omega)
  refine Br_dec (fun hlt => ?_) fun hge => ?_
  · -- one more of the inputs
    have hi' : i < l.length := by omega
    have ha : l[i]? = some l[i] := List.getElem?_eq_getElem hi'
    have ham : l[i] ∈ l := List.getElem_mem hi'
    have htk : l.take (i + 1) = l.take i ++ [l[i]] := List.take_succ_eq_append_getElem hi'
    generalize l[i] = a at ha ham htk
    have haL := hv a ham
    have hn : L[a]? = some L[a] := List.getElem?_eq_getElem haL
    generalize L[a] = n at hn
    have hnx : allOf L kind (l.take (i + 1)) = allOf L kind (l.take i) ++ expand L kind a := by
      unfold allOf
      rw [htk, List.flatMap_append, List.flatMap_cons, List.flatMap_nil, List.append_nil]
    have hexa := hexlen a ham
    obtain ⟨ay, hay, hcy⟩ := (hr.keep hm1 fun _ _ => NoB.not).at (i := i) (v := .int .i64 a) (by rw [ints_get, natI_get, ha]; rfl)
    refine optP_intro hay ⟨⟨by omega, by omega⟩, a, by rw [Int.toNat_natCast, Nat.mul_one]; exact hcy, ?_⟩
    refine (rhas_ok h1 a).mono ?_
    rintro e w2 ⟨rfl, hm2⟩
    refine ⟨_, rfl, Br_false (by rw [Bool.not_eq_false', decide_eq_true_iff]; omega) ?_⟩
    have h2 := h1.same hm2
    have hm02 := hm1.then hm2
    have hown2 : OwnN w2 p' c' (allOf L kind (l.take i)) := hown1.keep hm2 fun _ _ => NoB.not
    obtain ⟨ad, x, hpl, hxm, hxk, hxb, hxal, hxins, hxc, hxrow, hxcell⟩ := h2.node hn
    refine ⟨_, _, _, h2.c0, optP_intro hpl ⟨⟨by omega, by omega⟩, n.kind, by rw [Int.toNat_natCast]; exact hxcell 0 _ rfl, ?_⟩⟩
    intro J hJ
    have hend : ∀ (w3 : World) (q : Option Addr) (cq : Nat), OwnN w3 q cq (allOf L kind (l.take i) ++ expand L kind a) → (∀ b, At q b → w.heap.size ≤ b) → Mod NoB w w3 → J [.slice q (allOf L kind (l.take i) ++ expand L kind a).length cq] w3 := by
      intro w3 q cq ho hq hm
      exact hJ _ _ _ _ ⟨l.length - (i + 1), by omega, i + 1, q, cq, rfl, hi', by rw [hnx, wrap_i64 (by omega) (by omega)]; rfl, by rw [hnx]; exact ho, hq, hm⟩
    have hs2 := hm2.size
    refine Br_eq (fun hke => ?_) fun hke => ?_
    · have he : expand L kind a = n.ins := by unfold expand; rw [hn]; simp only; rw [if_pos hke]
      rw [he] at hend hexa
      refine ⟨_, _, _, h2.c0, optP_intro hpl ⟨⟨by omega, by omega⟩, x.p, n.ins.length, x.c, by rw [Int.toNat_natCast]; exact hxcell 3 _ rfl, ?_⟩⟩
      obtain ⟨w3, p3, c3, hrun, ho3, hm3, hat3⟩ := append_ints hown2 hxrow x.c (by omega)
      refine ⟨w3, p3, _, c3, hrun, hend w3 p3 c3 ho3 (fun b hb => ?_) (hm02.new _ hm3 fun b hb hp => by have := hp1 b hp; omega)⟩
      rcases hat3 b hb with h' | h'
      · exact hp1 b h'
      · omega
    · have he : expand L kind a = [a] := by unfold expand; rw [hn]; simp only; rw [if_neg hke]
      rw [he] at hend
      intro w3 hw3
      obtain ⟨w4, p4, c4, hrun, ho4, hm4, hat4⟩ := hown2.push (x := a) (by omega) hw3
      have hl4 : (allOf L kind (l.take i)).length + 1 = (allOf L kind (l.take i) ++ [a]).length := by rw [List.length_append]; rfl
      rw [hl4] at hrun
      refine ⟨w4, p4, _, c4, hrun, hend w4 p4 c4 ho4 (fun b hb => ?_) (hm02.new _ hm4 fun b hb hp => by have := hp1 b hp; omega)⟩
      rcases hat4 b hb with h' | h'
      · exact hp1 b h'
      · omega
  -- all inputs have been spread out
  have hil' : i = l.length := by omega
  subst hil'
  rw [List.take_length] at hown1 hi1000 ⊢
  have hlen6 : (allOf L kind l).length ≤ 1000000 := by omega
  have hallL : ∀ x ∈ allOf L kind l, x < L.length := by
    intro x hx
    obtain ⟨a, ha, hxa⟩ := List.mem_flatMap.1 hx
    exact expand_lt hwf.ok (hv a ha) hxa
  generalize hAll : allOf L kind l = all at hown1 hlen6 hallL ⊢
  intro w2 hw2
  have hseen2 : SeenM w2 (w1.heap.size + 0) [] := ⟨[], hw2.mapM 0 rfl encI, fun x => rfl⟩
  have hs2 := hw2.size
  simp only [List.length_cons, List.length_nil] at hs2
  have hm02 := hm1.then hw2.mod
  have hplt : ∀ b, At p' b → b < w1.heap.size := Own.lt hown1
  refine ⟨fun m vs w' => ∃ i : Nat, m = all.length - i ∧ i ≤ all.length ∧ vs = [.int .i64 i] ∧ SeenM w' (w1.heap.size + 0) (all.take i) ∧ OwnN w' p' c' all ∧ Mod NoB w w' ∧ w2.heap.size ≤ w'.heap.size, ⟨_, 0, rfl, Nat.zero_le _, rfl, hseen2, hown1.keep hw2.mod fun _ _ => NoB.not, hm02, Nat.le_refl _⟩, ?_⟩
  rintro m i' w3 ⟨i, rfl, hi, hvs, hseen3, hown3, hm3, hsz3⟩
  simp only [List.cons.injEq, Value.int.injEq, true_and, and_true] at hvs
  subst hvs
  refine Br_dec (fun hlt => ?_) fun hge => ?_
  · have hi' : i < all.length := by omega
    have ha : all[i]? = some all[i] := List.getElem?_eq_getElem hi'
    have htk : all.take (i + 1) = all.take i ++ [all[i]] := List.take_succ_eq_append_getElem hi'
    generalize all[i] = a at ha htk
    obtain ⟨ap, hap, hcp⟩ := (Own.row hown3).at (i := i) (v := .int .i64 a) (by rw [ints_get, natI_get, ha]; rfl)
    obtain ⟨w4, hup, hseen4, hm4⟩ := hseen3.add a
    have hs4 := hm4.size
    refine optP_intro hap ⟨⟨by omega, by omega⟩, a, by rw [Int.toNat_natCast, Nat.mul_one]; exact hcp, w4, hup, all.length - (i + 1), by omega, i + 1, rfl, hi', by rw [wrap_i64 (by omega) (by omega)]; rfl, by rw [htk]; exact hseen4, hown3.keep hm4 fun b hb e => by have := hplt b hb; have e' : b = w1.heap.size + 0 := e; omega, hm3.new _ hm4 fun b hb e => by have e' : b = w1.heap.size + 0 := e; omega, by omega⟩
  have hil : i = all.length := by omega
  subst hil
  rw [List.take_length] at hseen3
  refine ⟨_, hseen3.look (absorbOf kind), Br_dec (fun hab => ?_) fun hab => ?_⟩
  · rw [comb_absorb (by rw [hAll]; exact hab)]
    exact ⟨rfl, h.post hm3⟩
  intro w4 hw4
  have halts4 : MapM encI w4 (w3.heap.size + 0) (altsM L kind []) := hw4.mapM 0 rfl encI
  have hs4 := hw4.size
  simp only [List.length_cons, List.length_nil] at hs4
  have hown4 : OwnN w4 p' c' all := hown3.keep hw4.mod fun _ _ => NoB.not
  refine (ascending_ok all.length all (Nat.le_refl _) hlen6 w4 p' c' (Own.row hown4) (Own.le hown4).1).mono ?_
  rintro e w5 ⟨ps, cs, rfl, hown5, hps, hm5⟩
  have hs5 := hm5.size
  have hm05 := (hm3.then hw4.mod).then hm5
  have hslen : (srt all).length ≤ 1000000 := by
    have := nodup_lenLe (asc_nodup (srt_asc all)) (n := L.length) fun x hx => hallL x ((mem_srt all x).1 hx)
    omega
  refine ⟨ps, (srt all).length, cs, rfl, ?_⟩
  have hfl : doneOf kind (srt all) (srt all).length = flat L kind l := by rw [← hAll, doneOf_all]
  have hpre : ∀ i, ∃ r, flat L kind l = doneOf kind (srt all) i ++ r := fun i => by
    obtain ⟨r, hr⟩ := doneOf_pre kind (srt all) i
    exact ⟨r, by rw [flat_filter, hAll]; exact hr⟩
  have hsmem : ∀ x ∈ srt all, x ∈ all := fun x hx => (mem_srt all x).1 hx
  have hsnd := asc_nodup (srt_asc all)
  have hpslt : ∀ b, At ps b → b < w5.heap.size := Own.lt hown5
  generalize srt all = ss at hown5 hslen hfl hpre hsmem hsnd ⊢
  refine ⟨fun m vs w' => ∃ (i : Nat) (t : Int) (q : Option Addr) (cq : Nat), m = ss.length - i ∧ i ≤ ss.length ∧ vs = [.int .i64 t, .slice q (doneOf kind ss i).length cq, .int .i64 i] ∧ OwnN w' q cq (doneOf kind ss i) ∧ (∀ b, At q b → w5.heap.size ≤ b) ∧
      MapM encI w' (w3.heap.size + 0) (altsM L kind (doneOf kind ss i)) ∧ SeenM w' (w1.heap.size + 0) all ∧ OwnN w' ps cs ss ∧ (∀ x ∈ doneOf kind ss i, ∀ n, L[x]? = some n → n.kind = 3 → ∀ y, n.ins = [y] → y ∉ all) ∧ ((doneOf kind ss i).filterMap (pickOf L kind)).Nodup ∧ Mod NoB w w' ∧ w5.heap.size ≤ w'.heap.size,
    ⟨_, 0, 0, none, 0, rfl, Nat.zero_le _, rfl, Own.none _ _ _, fun b hb => (At.none hb).elim, halts4.only hm5, (hseen3.only hw4.mod).only hm5, hown5, (fun x hx => nomatch hx), List.nodup_nil, hm05, Nat.le_refl _⟩, ?_⟩
  rintro m t' q' nq cq' i' w6 ⟨i, t, q, cq, rfl, hi, hvs, hown6, hq6, halts6, hseen6, hown6s, hnc, hnd, hm6, hsz6⟩
  simp only [List.cons.injEq, Value.int.injEq, Value.slice.injEq, true_and, and_true] at hvs
  obtain ⟨rfl, ⟨rfl, rfl, rfl⟩, rfl⟩ := hvs
  have h6 := h.same hm6
  have hs06 := hm6.size
  have hdl : (doneOf kind ss i).length ≤ 1000000 := by
    have h1 : (doneOf kind ss i).length ≤ (ss.take i).length := List.length_filter_le ..
    rw [List.length_take] at h1; omega
  refine Br_dec (fun hlt => ?_) fun hge => ?_
  rotate_left
  · -- all have been looked at
    have hil : i = ss.length := by omega
    subst hil
    rw [hfl] at hown6 hnc hnd ⊢
    have hcr := comb_rest hwf (by rw [hAll]; exact hab) (by rw [hAll]; exact hnc) hnd
    have hcab : (flat L kind l).contains (absorbOf kind) = false := by rw [absorb_mem, hAll]; exact decide_eq_false hab
    have hnok := ndOK_comb hwf hk hv hcab
    rw [hcr]
    have hrow6 := Own.row hown6
    have hqlt : ∀ b, At q' b → b < w6.heap.size := Own.lt hown6
    refine Br_eq (fun h0 => ?_) fun h0 => Br_eq (fun h1' => ?_) fun h1' => ?_
    · have : flat L kind l = [] := List.eq_nil_of_length_eq_zero (by omega)
      rw [this]
      exact ⟨rfl, h.post hm6⟩
    · obtain ⟨a, ha⟩ := List.length_eq_one_iff.1 (show (flat L kind l).length = 1 by omega)
      rw [ha] at hrow6 ⊢
      obtain ⟨aq, haq, hcq⟩ := hrow6.at (i := 0) (v := .int .i64 a) rfl
      exact optP_intro haq ⟨⟨by omega, by simp⟩, a, hcq, rfl, h.post hm6⟩
    · rw [pickRest_big (by omega) (by omega)]
      refine (make_ok h6 (hT.keep hB hm6 fun _ h => h.elim) (Nat.le_trans hB hm6.size) (by omega) (n := ⟨kind, 0, 0, flat L kind l⟩) (ndB_of hnok (by omega)) hrow6 fun b hb => ⟨fun hf => ?_, hqlt b hb⟩).mono ?_
      · have := hall b (.inl hf)
        have := hq6 b hb
        omega
      · rintro e w7 ⟨rfl, hpost⟩
        exact ⟨_, rfl, rfl, (hpost.pre hm6).new fun b hb => by have := hq6 b hb; omega⟩
  intro J hJ
  have hi' : i < ss.length := by omega
  have hx : ss[i]? = some ss[i] := List.getElem?_eq_getElem hi'
  have hxm : ss[i] ∈ ss := List.getElem_mem hi'
  generalize ss[i] = x at hx hxm
  have hxall := hsmem x hxm
  have hxL := hallL x hxall
  obtain ⟨ap, hap, hcp⟩ := (Own.row hown6s).at (i := i) (v := .int .i64 x) (by rw [ints_get, natI_get, hx]; rfl)
  refine optP_intro hap ⟨⟨by omega, by omega⟩, x, by rw [Int.toNat_natCast, Nat.mul_one]; exact hcp, ?_⟩
  have hwi : IntKind.i64.wrap ((i : Int) + 1) = ((i + 1 : Nat) : Int) := by rw [wrap_i64 (by omega) (by omega)]; omega
  rw [hwi] at hJ
  refine Br_eq (fun hxn => ?_) fun hxn => ?_
  · have hxn' : x = neutralOf kind := by omega
    have hds : doneOf kind ss (i + 1) = doneOf kind ss i := doneOf_skip (by rw [← hxn']; exact hx)
    refine hJ _ _ _ _ _ ⟨ss.length - (i + 1), by omega, i + 1, t', q', cq', rfl, hi', by rw [hds], ?_⟩
    rw [hds]
    exact ⟨hown6, hq6, halts6, hseen6, hown6s, hnc, hnd, hm6, hsz6⟩
  have hxn' : x ≠ neutralOf kind := by omega
  have hds : doneOf kind ss (i + 1) = doneOf kind ss i ++ [x] := doneOf_push hx hxn'
  obtain ⟨rr, hrr⟩ := hpre (i + 1)
  rw [hds] at hrr
  have hn : L[x]? = some L[x] := List.getElem?_eq_getElem hxL
  generalize L[x] = n at hn
  have hnok := hwf.ok x n hn
  obtain ⟨ad, fx, hpl, hfxm, hxk, hxb, hxal, hxins, hxc, hxrow, hxcell⟩ := h6.node hn
  refine ⟨_, _, _, h6.c0, optP_intro hpl ⟨⟨by omega, by omega⟩, _, _, _, _, _, _, by rw [Int.toNat_natCast]; exact hxc, ?_⟩⟩
  intro w7 hw7
  have hb7 := hw7.blk 0 rfl
  have h7 := h6.same hw7.mod
  have hs7 := hw7.mod.size
  have hm7 := hm6.then hw7.mod
  intro J1 hJ1
  have main : ∀ b : Bool, (b = true → ∃ y, n.kind = 3 ∧ n.ins = [y] ∧ y ∈ all) → (b = false → n.kind = 3 → ∀ y, n.ins = [y] → y ∉ all) → J1 [.bool b] w7 := by
    intro b hbt hbf
    refine hJ1 _ _ (Br_intro (fun ht => ?_) fun hf => ?_)
    · obtain ⟨y, h3, hy, hyall⟩ := hbt ht
      rw [comb_compl hwf (by rw [hAll]; exact hxall) hxn' hn h3 hy (by rw [hAll]; exact hyall)]
      exact ⟨rfl, h.post hm7⟩
    have hncx := hbf hf
    refine (rpk_ok h7 hwf (by omega) hxL kind).mono ?_
    rintro e w8 ⟨k8, b8, al8, p8, n8, c8, rfl, hpk, hm8⟩
    refine ⟨_, _, _, _, _, _, _, rfl, ?_⟩
    intro w9 hw9
    have hb9 := hw9.blk 0 rfl
    have hm78 := (hw7.mod.then hm8).then hw9.mod
    have hm9 := hm6.then hm78
    have hs9 := hm78.size
    have hnc' : ∀ z ∈ doneOf kind ss (i + 1), ∀ n, L[z]? = some n → n.kind = 3 → ∀ y, n.ins = [y] → y ∉ all := by
      intro z hz n' hn' h3 y hy
      rw [hds] at hz
      rcases List.mem_append.1 hz with hz | hz
      · exact hnc z hz n' hn' h3 y hy
      · simp only [List.mem_singleton] at hz
        subst hz
        rw [hn] at hn'
        injection hn' with hn'
        subst hn'
        exact hncx h3 y hy
    intro J2 hJ2
    -- behind the look at the pick: the node is kept
    have keep : ∀ (w10 : World) (t10 : Int), Mod (· = w3.heap.size + 0) w9 w10 → MapM encI w10 (w3.heap.size + 0) (altsM L kind (doneOf kind ss (i + 1))) → ((doneOf kind ss (i + 1)).filterMap (pickOf L kind)).Nodup → J2 [.int .i64 t10] w10 := by
      intro w10 t10 hm10 halts10 hnd10
      refine hJ2 _ _ ?_
      intro w11 hw11
      have hs10 := hm10.size
      have hown10 : OwnN w10 q' cq' (doneOf kind ss i) := (hown6.keep hm78 fun _ _ => NoB.not).keep hm10 fun b hb e => by have := hq6 b hb; have e' : b = w3.heap.size + 0 := e; omega
      obtain ⟨w12, p12, c12, hrun, ho12, hm12, hat12⟩ := hown10.push (x := x) (by omega) hw11
      refine ⟨w12, p12, _, c12, hrun, ?_⟩
      have hl12 : (doneOf kind ss i).length + 1 = (doneOf kind ss (i + 1)).length := by rw [hds, List.length_append]; rfl
      rw [hl12]
      have hs12 := hm12.size
      have hm010 := hm9.new _ hm10 fun b hb e => by have e' : b = w3.heap.size + 0 := e; omega
      have hpslt6 : ∀ b, At ps b → b < w5.heap.size := hpslt
      refine hJ _ _ _ _ _ ⟨ss.length - (i + 1), by omega, i + 1, t10, p12, c12, rfl, hi', rfl, by rw [hds]; exact ho12, fun b hb => ?_, ?_, ?_, ?_, hnc', hnd10, hm010.new _ hm12 fun b hb hp => by have := hq6 b hp; omega, by omega⟩
      · rcases hat12 b hb with h' | h'
        · exact hq6 b h'
        · omega
      · exact halts10.keep hm12 fun hp => by have := hq6 _ hp; omega
      · exact ((hseen6.only hm78).keep hm10 (by omega)).keep hm12 fun hp => by have := hq6 _ hp; omega
      · exact ((hown6s.keep hm78 fun _ _ => NoB.not).keep hm10 fun b hb e => by have h1 := hps b hb; have e' : b = w3.heap.size + 0 := e; omega).keep hm12 fun b hb hp => by have h1 := hpslt6 b hb; have h2 := hq6 b hp; omega
    have halts9 := halts6.only hm78
    have hpo := pickOf_nd L kind x
    cases hpn : pickNd L kind x with
    | none =>
      rw [hpn] at hpo
      refine Br_false rfl (keep w9 t' (Mod.refl _ _) ?_ ?_)
      · rw [hds, altsM_snoc, hpn, List.append_nil]; exact halts9
      · rw [hds, List.filterMap_append]
        have : [x].filterMap (pickOf L kind) = [] := by simp [hpo]
        rw [this, List.append_nil]; exact hnd
    | some pm =>
      rw [hpn] at hpo
      obtain ⟨rfl, rfl⟩ := hpk pm hpn
      have hpo' : pickOf L kind x = some pm.block := hpo
      refine Br_true rfl ?_
      refine ⟨pm.block, hb9.cellAt 0 1, ?_⟩
      have hlk := lookup_ok (key_int map_index) halts9 pm.block (zero_int w9) true
      rw [if_pos rfl] at hlk
      by_cases hin : pm.block ∈ (doneOf kind ss i).filterMap (pickOf L kind)
      · obtain ⟨a, ha, m', hm', hbl, hgm⟩ := getM_alts_some hin
        rw [hgm] at hlk
        refine ⟨m'.alt, true, hlk, ?_⟩
        intro J3 hJ3
        have hax : a ≠ x := by
          intro e
          subst e
          obtain ⟨j, hj⟩ := List.getElem?_of_mem (List.mem_filter.1 ha).1
          have hjl := (List.getElem?_eq_some_iff.1 hj).1
          rw [List.length_take] at hjl
          rw [List.getElem?_take] at hj
          split at hj
          · have := nodup_inj hsnd hj hx; omega
          · cases hj
        have hne := pick_alts hwf hm' hpn hax hbl
        refine Br_true rfl ⟨pm.alt, hb9.cellAt 0 2, hJ3 _ _ (Br_true ?_ ?_)⟩
        · simpa using hne
        · rw [comb_excl (by rw [hrr]; exact not_nodup_pre hin hpo')]
          exact ⟨rfl, h.post hm9⟩
      · rw [getM_alts_none hin] at hlk
        refine ⟨0, false, hlk, ?_⟩
        intro J3 hJ3
        refine Br_false rfl (hJ3 _ _ (Br_false rfl ?_))
        obtain ⟨w10, hup, halts10, hm10⟩ := update_ok (key_int map_index) halts9 pm.block (.int .i64 pm.alt)
        rw [putM_none _ (getM_alts_none hin)] at halts10
        refine ⟨pm.block, hb9.cellAt 0 1, pm.alt, hb9.cellAt 0 2, w10, hup, keep w10 t' hm10 ?_ ?_⟩
        · rw [hds, altsM_snoc, hpn]; exact halts10
        · rw [hds, List.filterMap_append, List.nodup_append]
          refine ⟨hnd, by simp [hpo'], fun u hu v hv' e => ?_⟩
          have : v = pm.block := by simpa [hpo'] using hv'
          subst this; subst e
          exact hin hu
  refine ⟨n.kind, hb7.cellAt 0 0, Br_eq (fun h3 => ?_) fun h3 => main false (fun h => by cases h) fun _ h3' => absurd h3' h3⟩
  obtain ⟨y, hy⟩ := List.length_eq_one_iff.1 (hnok.not1 h3)
  obtain ⟨ay, hay, hcy⟩ := (hxrow.keep hw7.mod fun _ _ => NoB.not).at (i := 0) (v := .int .i64 y) (by rw [hy]; rfl)
  refine ⟨fx.p, n.ins.length, fx.c, hb7.cellAt 0 3, optP_intro hay ⟨⟨by omega, by rw [hy]; simp⟩, y, hcy, _, (hseen6.only hw7.mod).look y, main _ (fun ht => ⟨y, h3, hy, of_decide_eq_true ht⟩) fun hf _ y' hy' => ?_⟩⟩
  rw [hy] at hy'
  injection hy' with hy'
  subst hy'
  exact of_decide_eq_false hf

end Go.Proofs.YtajfdcbknghipaaGreatDoor
end

section
/- The reference: And, Or, add, NewStore, Small. Conditions on memory as stated. -/
namespace Go.Proofs.YtajfdcbknghipaaGreatDoor
open Go Go.Sh Go.Fm Go.RowKit

variable {w : World} {B : Nat} {s : Addr} {L : List Nd} {d : RD}

theorem rand_ok (h : RefM w s L d) (hwf : WF L) (hT : TabB B w) (hB : B ≤ w.heap.size) (hL : L.length ≤ 1000) {y : Option Addr} {yc : Nat} {l : List Nat} (hr : Row w y (ints (natI l))) (hv : ∀ a ∈ l, a < L.length) (hl : l.length ≤ 1000) :
    CallsF Tryz.prog 84 #[.pointer (some s), .slice y l.length yc] w fun e w' => e = .returned (.int .i64 (comb L 4 l).2) ∧ RNew w s d (comb L 4 l).1 w' := by
  refine C_credenceref22_Store_And _ _ _ _ _ _ ?_
  refine (join_ok h hwf hT hB hL (.inl rfl) hr hv hl).mono ?_
  rintro e w1 ⟨rfl, hp⟩
  exact ⟨_, rfl, rfl, hp⟩
theorem ror_ok (h : RefM w s L d) (hwf : WF L) (hT : TabB B w) (hB : B ≤ w.heap.size) (hL : L.length ≤ 1000) {y : Option Addr} {yc : Nat} {l : List Nat} (hr : Row w y (ints (natI l))) (hv : ∀ a ∈ l, a < L.length) (hl : l.length ≤ 1000) :
    CallsF Tryz.prog 85 #[.pointer (some s), .slice y l.length yc] w fun e w' => e = .returned (.int .i64 (comb L 5 l).2) ∧ RNew w s d (comb L 5 l).1 w' := by
  refine C_credenceref22_Store_Or _ _ _ _ _ _ ?_
  refine (join_ok h hwf hT hB hL (.inr rfl) hr hv hl).mono ?_
  rintro e w1 ⟨rfl, hp⟩
  exact ⟨_, rfl, rfl, hp⟩

theorem radd_ok (h : RefM w s L d) (hwf : WF L) (hT : TabB B w) (hB : B ≤ w.heap.size) (hL : L.length ≤ 1000) {k b al : Int} {p : Option Addr} {n c : Nat} {z : Option Addr} {zc : Nat} {l : List Nat} (hvf : vform k b al l.length = true) (hr : Row w z (ints (natI l))) (hv : ∀ a ∈ l, a < L.length) (hl : l.length ≤ 1000) :
    CallsF Tryz.prog 63 #[.pointer (some s), .agg #[.int .i64 k, .int .i64 b, .int .i64 al, .slice p n c], .slice z l.length zc] w fun e w' => e = .returned (.int .i64 (addN L k b al l).2) ∧ RNew w s d (addN L k b al l).1 w' := by
  refine C_credenceref22_Store_add _ _ _ _ _ _ _ _ _ _ _ _ ?_
  refine Br_eq (fun h0 w1 hw1 => ?_) fun h0 => ?_
  · have e : addN L k b al l = (L, 0) := by unfold addN; rw [if_neg (by omega), if_neg (by omega), if_neg (by omega), if_neg (by omega)]
    rw [e]; exact ⟨rfl, h.post hw1.mod⟩
  refine Br_eq (fun h1 w1 hw1 => ?_) fun h1 => ?_
  · have e : addN L k b al l = (L, 1) := by unfold addN; rw [if_pos h1]
    rw [e]; exact ⟨rfl, h.post hw1.mod⟩
  have keepT : ∀ {w1 : World}, Mod NoB w w1 → TabB B w1 ∧ B ≤ w1.heap.size := fun hm => ⟨hT.keep hB hm fun _ h => h.elim, Nat.le_trans hB hm.size⟩
  refine Br_eq (fun h2 w1 hw1 => ?_) fun h2 => ?_
  · have e : addN L k b al l = mk L ⟨2, b, al, []⟩ := by unfold addN; rw [if_neg h1, if_pos h2]
    rw [e]
    have hp : validP b al = true := by
      unfold vform at hvf
      rw [if_neg (by omega), if_pos h2, Bool.and_eq_true] at hvf
      exact hvf.1
    unfold validP at hp
    refine (rpick_ok (h.same hw1.mod) (keepT hw1.mod).1 (keepT hw1.mod).2 (by omega) (of_decide_eq_true hp)).mono ?_
    rintro e w2 ⟨rfl, hpost⟩
    exact ⟨_, rfl, rfl, hpost.pre hw1.mod⟩
  refine Br_eq (fun h3 => ?_) fun h3 => ?_
  · have e : addN L k b al l = nt L (l.headD 0) := by unfold addN; rw [if_neg h1, if_neg h2, if_pos h3]
    rw [e]
    have hl1 : l.length = 1 := by
      unfold vform at hvf
      rw [if_neg (by omega), if_neg h2, if_pos h3] at hvf
      exact (of_decide_eq_true hvf).2.2
    obtain ⟨x, rfl⟩ := List.length_eq_one_iff.1 hl1
    obtain ⟨az, haz, hcz⟩ := hr.at (i := 0) (v := .int .i64 x) rfl
    refine optP_intro haz ⟨⟨by omega, by simp⟩, x, hcz, ?_⟩
    intro w1 hw1
    refine (rnot_ok (h.same hw1.mod) hwf (keepT hw1.mod).1 (keepT hw1.mod).2 (by omega) (hv x List.mem_cons_self)).mono ?_
    rintro e w2 ⟨rfl, hpost⟩
    exact ⟨_, rfl, rfl, hpost.pre hw1.mod⟩
  refine Br_eq (fun h4 w1 hw1 => ?_) fun h4 w1 hw1 => ?_
  · have e : addN L k b al l = comb L 4 l := by unfold addN; rw [if_neg h1, if_neg h2, if_neg h3, if_pos (.inl h4), h4]
    rw [e]
    refine (rand_ok (h.same hw1.mod) hwf (keepT hw1.mod).1 (keepT hw1.mod).2 hL (hr.keep hw1.mod fun _ _ h => h) hv hl).mono ?_
    rintro e w2 ⟨rfl, hpost⟩
    exact ⟨_, rfl, rfl, hpost.pre hw1.mod⟩
  · have h5 : k = 5 := by
      unfold vform at hvf
      rw [if_neg (by omega), if_neg h2, if_neg h3] at hvf
      split at hvf
      · rename_i h'; exact h'.resolve_left h4
      · cases hvf
    have e : addN L k b al l = comb L 5 l := by unfold addN; rw [if_neg h1, if_neg h2, if_neg h3, if_pos (.inr h5), h5]
    rw [e]
    refine (ror_ok (h.same hw1.mod) hwf (keepT hw1.mod).1 (keepT hw1.mod).2 hL (hr.keep hw1.mod fun _ _ h => h) hv hl).mono ?_
    rintro e w2 ⟨rfl, hpost⟩
    exact ⟨_, rfl, rfl, hpost.pre hw1.mod⟩

theorem rnew_ok (hT : TabB B w) (hB : B ≤ w.heap.size) : CallsF Tryz.prog 23 #[] w fun e w' => ∃ s d, e = .returned (.pointer (some s)) ∧ RefM w' s L0 d ∧ Mod NoB w w' ∧ ∀ b, d.all b → w.heap.size ≤ b := by
  refine C_credenceref22_NewStore _ _ ?_
  intro w1 hw1
  have hs1 := hw1.size
  simp only [List.length_cons, List.length_nil] at hs1
  have hd0 : RefM w1 ⟨w.heap.size + 1, 0, none⟩ [] ⟨w.heap.size + 1, w.heap.size + 0, none, 0, []⟩ :=
    ⟨rfl, hw1.blk 1 rfl, Own.none _ _ _, rfl, (fun x hx => nomatch hx), (fun x hx => nomatch hx), hw1.mapM 0 rfl encS, by show w.heap.size + 1 ≠ w.heap.size + 0; omega, fun hb => At.none hb, fun hb => At.none hb, (fun x hx => nomatch hx), fun x hx => nomatch hx⟩
  have n0 : NdB ⟨0, 0, 0, []⟩ := ⟨by show (-30000 : Int) ≤ 0 ∧ (0 : Int) ≤ 30000; omega, by show (-30000 : Int) ≤ 0 ∧ (0 : Int) ≤ 30000; omega, by show (-30000 : Int) ≤ 0 ∧ (0 : Int) ≤ 30000; omega, Nat.zero_le _, fun x hx => nomatch hx⟩
  have n1 : NdB ⟨1, 0, 0, []⟩ := ⟨by show (-30000 : Int) ≤ 1 ∧ (1 : Int) ≤ 30000; omega, by show (-30000 : Int) ≤ 0 ∧ (0 : Int) ≤ 30000; omega, by show (-30000 : Int) ≤ 0 ∧ (0 : Int) ≤ 30000; omega, Nat.zero_le _, fun x hx => nomatch hx⟩
  refine (make_ok hd0 (hT.keep hB hw1.mod fun _ h => h.elim) (Nat.le_trans hB hw1.mod.size) (by simp) n0 (q := none) (c := 0) (.inl rfl) fun b hb => (At.none hb).elim).mono ?_
  rintro e w2 ⟨rfl, d2, h2, hm2, hf2, ha2⟩
  have e0 : (mk [] ⟨0, 0, 0, []⟩) = ([⟨0, 0, 0, []⟩], 0) := rfl
  rw [e0] at h2 ⊢
  have hfp1 : ∀ b, RD.fp ⟨w.heap.size + 1, w.heap.size + 0, none, 0, []⟩ b → w.heap.size ≤ b := by
    rintro b (hb | hb | hb)
    · have e : b = w.heap.size + 1 := hb
      omega
    · have e : b = w.heap.size + 0 := hb
      omega
    · exact (At.none hb).elim
  have hm02 : Mod NoB w w2 := hw1.mod.new _ hm2 fun b hb hf => by have := hfp1 b hf; omega
  have hs2 := hm2.size
  have hfp2 : ∀ b, d2.fp b → w.heap.size ≤ b := fun b hb => by
    rcases hf2 b hb with h' | h'
    · exact hfp1 b h'
    · omega
  refine ⟨_, rfl, ?_⟩
  refine (make_ok h2 (hT.keep hB hm02 fun _ h => h.elim) (Nat.le_trans hB hm02.size) (by simp) n1 (q := none) (c := 0) (.inl rfl) fun b hb => (At.none hb).elim).mono ?_
  rintro e w3 ⟨rfl, d3, h3, hm3, hf3, ha3⟩
  have e1 : (mk [⟨0, 0, 0, []⟩] ⟨1, 0, 0, []⟩) = (L0, 1) := rfl
  rw [e1] at h3 ⊢
  refine ⟨_, rfl, _, d3, rfl, h3, hm02.new _ hm3 fun b hb hf => by have := hfp2 b hf; omega, fun b hb => ?_⟩
  have hs02 := hm02.size
  rcases ha3 b hb with h' | h' | h'
  · rcases ha2 b h' with h'' | h'' | h''
    · rcases h'' with h'' | ⟨x, hx, _⟩
      · exact hfp1 b h''
      · cases hx
    · omega
    · exact (At.none h'').elim
  · omega
  · exact (At.none h').elim

theorem small_ok {p : Option Addr} {c : Nat} {f : List FNode} (h : FormM B w p f) {m : Nat} (hm : m ≤ 1000000) (hf : f.length ≤ 9223372036854775807) :
    CallsF Tryz.prog 11 #[.agg #[.slice p f.length c], .int .i64 m] w (Ret (.bool (decide (f.length ≤ m ∧ ∀ x ∈ f, x.ins.length ≤ m))) NoB w) := by
  refine C_credenceref22_Small _ _ _ _ _ _ ?_
  refine Br_dec (fun h1 w1 hw1 => ⟨ret_bool ?_, hw1.mod⟩) fun h1 w1 hw1 => ?_
  · rw [eq_comm, decide_eq_false_iff_not]; omega
  refine ⟨fun k vs w' => ∃ i : Nat, k = f.length - i ∧ i ≤ f.length ∧ vs = [.bool false, .int .i64 i] ∧ (∀ x ∈ f.take i, x.ins.length ≤ m) ∧ Mod NoB w w', ⟨_, 0, rfl, Nat.zero_le _, rfl, fun x hx => by simp at hx, hw1.mod⟩, ?_⟩
  rintro k b' i' w2 ⟨i, rfl, hi, hvs, hall, hm2⟩
  simp only [List.cons.injEq, Value.int.injEq, Value.bool.injEq, true_and, and_true] at hvs
  obtain ⟨rfl, rfl⟩ := hvs
  refine Br_dec (fun hlt => ?_) fun hge => ?_
  rotate_left
  · refine ⟨ret_bool ?_, hm2⟩
    rw [eq_comm, decide_eq_true_iff]
    exact ⟨by omega, fun x hx => hall x (by rw [List.take_of_length_le (by omega)]; exact hx)⟩
  have hi' : i < f.length := by omega
  have hx : f[i]? = some f[i] := List.getElem?_eq_getElem hi'
  have hxm : f[i] ∈ f := List.getElem_mem hi'
  have htk : f.take (i + 1) = f.take i ++ [f[i]] := List.take_succ_eq_append_getElem hi'
  generalize f[i] = x at hx hxm htk
  obtain ⟨a, hpa, hc⟩ := (h.same hm2).node hx
  refine optP_intro hpa ⟨⟨by omega, by omega⟩, _, _, _, _, _, _, by rw [Int.toNat_natCast]; exact hc, Br_dec (fun hbig w3 hw3 => ⟨ret_bool ?_, hm2.then hw3.mod⟩) fun hsm w3 hw3 => ?_⟩
  · rw [eq_comm, decide_eq_false_iff_not]
    intro h'
    have := h'.2 x hxm
    omega
  · refine ⟨f.length - (i + 1), by omega, i + 1, rfl, hi', by rw [wrap_i64 (by omega) (by omega)]; rfl, fun y hy => ?_, hm2.then hw3.mod⟩
    rw [htk] at hy
    rcases List.mem_append.1 hy with hy | hy
    · exact hall y hy
    · simp only [List.mem_singleton] at hy
      subst hy; omega

end Go.Proofs.YtajfdcbknghipaaGreatDoor
end
