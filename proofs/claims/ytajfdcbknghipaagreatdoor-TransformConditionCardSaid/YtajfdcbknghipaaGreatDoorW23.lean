/- The law TransformCondition of the package credencelaw23 answers true at every input and leaves its arguments as they were (Rows.TransformConditionCardSaid); no condition beyond the card's own: the three listed tables stand as the program's text lays them. Part 23 of 25. -/
import Derived.Laws.Cover2
import Derived.Test.YtajfdcbknghipaaGreatDoorW13
import Derived.Test.YtajfdcbknghipaaGreatDoorW22

section
/- NNF as a machine with a stack: plain Lean. -/
namespace Go.Fm

abbrev Goal := Nat × Bool
/-- A goal that is being worked on. -/
structure Fr where
  g : Goal
  res : List Nat
def partsOf (L0 : List Nd) (g : Goal) : List Goal := (nodeAt L0 g.1).ins.map fun x => (x, !(g.2 == ((nodeAt L0 g.1).kind == 3)))
def finF (L0 L : List Nd) (f : Fr) : List Nd × Nat :=
  if (nodeAt L0 f.g.1).kind = 3 then (L, f.res.headD 0)
  else if (nodeAt L0 f.g.1).kind = 4 ∨ (nodeAt L0 f.g.1).kind = 5 then (if (!((nodeAt L0 f.g.1).kind == 4) == f.g.2) = true then comb L 4 f.res else comb L 5 f.res)
  else if f.g.2 then nt L f.g.1 else (L, f.g.1)
def getG : List (Goal × Nat) → Goal → Option Nat
  | [], _ => none
  | (k, v) :: m, g => if g = k then some v else getG m g
structure NS where
  L : List Nd
  D : List (Goal × Nat)
  S : List Fr
/-- One round of the loop; the top of the stack is the head of S. -/
def nstep (L0 : List Nd) (σ : NS) : NS := match σ.S with
  | [] => σ
  | f :: S =>
    match (partsOf L0 f.g)[f.res.length]? with
    | some p => match getG σ.D p with
      | some r => ⟨σ.L, σ.D, ⟨f.g, f.res ++ [r]⟩ :: S⟩
      | none => ⟨σ.L, σ.D, ⟨p, []⟩ :: f :: S⟩
    | none => ⟨(finF L0 σ.L f).1, σ.D ++ [(f.g, (finF L0 σ.L f).2)], S⟩
def niter (L0 : List Nd) : Nat → NS → NS
  | 0, σ => σ
  | n + 1, σ => niter L0 n (nstep L0 σ)
theorem niter_add (L0 : List Nd) (m n : Nat) (σ : NS) : niter L0 (m + n) σ = niter L0 n (niter L0 m σ) := by
  induction m generalizing σ with
  | zero => rw [Nat.zero_add]; rfl
  | succ m ih => rw [Nat.add_right_comm]; exact ih _

theorem niter_one (L0 : List Nd) (σ : NS) : niter L0 1 σ = nstep L0 σ := rfl
/-- The parts of a goal, one after the other. -/
def nparts (rec : List Nd → List (Goal × Nat) → Goal → List Nd × List (Goal × Nat)) : List Goal → List Nd → List (Goal × Nat) → List Nat → List Nd × List (Goal × Nat) × List Nat
  | [], L, D, rs => (L, D, rs)
  | p :: ps, L, D, rs => match getG D p with
    | some r => nparts rec ps L D (rs ++ [r])
    | none => nparts rec ps (rec L D p).1 (rec L D p).2 (rs ++ [(getG (rec L D p).2 p).getD 0])
/-- NNF by recursion. -/
def nn (L0 : List Nd) : Nat → List Nd → List (Goal × Nat) → Goal → List Nd × List (Goal × Nat)
  | 0, L, D, _ => (L, D)
  | fuel + 1, L, D, g =>
    let q := nparts (nn L0 fuel) (partsOf L0 g) L D []
    let r := finF L0 q.1 ⟨g, q.2.2⟩
    (r.1, q.2.1 ++ [(g, r.2)])
theorem getG_snoc (D : List (Goal × Nat)) (g h : Goal) (r : Nat) : getG (D ++ [(g, r)]) h = match getG D h with | some v => some v | none => if h = g then some r else none := by
  induction D with
  | nil => rfl
  | cons e D ih =>
    obtain ⟨k, v⟩ := e
    rw [List.cons_append, getG, getG]
    by_cases hk : h = k
    · simp [hk]
    · simp only [if_neg hk]; exact ih
/-- The machine does what the recursion says. -/
theorem nrun (L0 : List Nd) (hok : ∀ i n, L0[i]? = some n → NdOK i n) : ∀ (fuel : Nat) (g : Goal), g.1 < fuel → g.1 < L0.length → ∀ (L : List Nd) (D : List (Goal × Nat)) (S : List Fr), getG D g = none →
    ∃ n, niter L0 n ⟨L, D, ⟨g, []⟩ :: S⟩ = ⟨(nn L0 fuel L D g).1, (nn L0 fuel L D g).2, S⟩ ∧ (∃ r, getG (nn L0 fuel L D g).2 g = some r) ∧ ∀ h, g.1 < h.1 → getG (nn L0 fuel L D g).2 h = getG D h := by
  intro fuel
  induction fuel with
  | zero => intro g hg; omega
  | succ fuel ih =>
    intro g hg hgL L D S hD
    have hn : L0[g.1]? = some L0[g.1] := List.getElem?_eq_getElem hgL
    have hnA := nodeAt_eq hn
    have hpl : ∀ p ∈ partsOf L0 g, p.1 < g.1 := by
      intro p hp
      unfold partsOf at hp
      rw [hnA] at hp
      obtain ⟨x, hx, rfl⟩ := List.mem_map.1 hp
      exact (hok g.1 _ hn).lt x hx
    have key : ∀ (ps : List Goal) (rs : List Nat) (L1 : List Nd) (D1 : List (Goal × Nat)), (∀ p ∈ ps, p.1 < g.1) → partsOf L0 g = (partsOf L0 g).take rs.length ++ ps → rs.length + ps.length = (partsOf L0 g).length → getG D1 g = none →
        ∃ n, niter L0 n ⟨L1, D1, ⟨g, rs⟩ :: S⟩ = ⟨(nparts (nn L0 fuel) ps L1 D1 rs).1, (nparts (nn L0 fuel) ps L1 D1 rs).2.1, ⟨g, (nparts (nn L0 fuel) ps L1 D1 rs).2.2⟩ :: S⟩ ∧ (nparts (nn L0 fuel) ps L1 D1 rs).2.2.length = rs.length + ps.length ∧ getG (nparts (nn L0 fuel) ps L1 D1 rs).2.1 g = none ∧ ∀ h, g.1 ≤ h.1 → getG (nparts (nn L0 fuel) ps L1 D1 rs).2.1 h = getG D1 h := by
      intro ps
      induction ps with
      | nil => intro rs L1 D1 _ _ _ hD1; exact ⟨0, rfl, rfl, hD1, fun h _ => rfl⟩
      | cons p ps ihp =>
        intro rs L1 D1 hps hsp hlen hD1
        have hp := hps p List.mem_cons_self
        have hget : (partsOf L0 g)[rs.length]? = some p := by
          rw [hsp, List.getElem?_append_right (by rw [List.length_take]; omega), List.length_take]
          have : rs.length - min rs.length (partsOf L0 g).length = 0 := by simp only [List.length_cons] at hlen; omega
          rw [this]; rfl
        have hsp2 : ∀ r : Nat, partsOf L0 g = (partsOf L0 g).take (rs ++ [r]).length ++ ps := by
          intro r
          rw [List.length_append, List.length_singleton, List.take_add_one, hget]
          conv => lhs; rw [hsp]
          rw [List.append_assoc]; rfl
        rw [nparts]
        cases hg1 : getG D1 p with
        | some r =>
          simp only
          obtain ⟨n, h1, h2, h3, h4⟩ := ihp (rs ++ [r]) L1 D1 (fun q hq => hps q (List.mem_cons_of_mem _ hq)) (hsp2 r) (by rw [List.length_append]; simp only [List.length_cons, List.length_nil] at hlen ⊢; omega) hD1
          refine ⟨n + 1, ?_, by rw [h2, List.length_append]; simp only [List.length_cons, List.length_nil]; omega, h3, h4⟩
          rw [niter]
          have : nstep L0 ⟨L1, D1, ⟨g, rs⟩ :: S⟩ = ⟨L1, D1, ⟨g, rs ++ [r]⟩ :: S⟩ := by
            unfold nstep
            simp only [hget, hg1]
          rw [this]; exact h1
        | none =>
          simp only
          obtain ⟨n1, h1, ⟨r, hr⟩, h1g⟩ := ih p (by omega) (by omega) L1 D1 (⟨g, rs⟩ :: S) hg1
          have hD2 : getG (nn L0 fuel L1 D1 p).2 g = none := by rw [h1g g hp]; exact hD1
          rw [hr]
          obtain ⟨n, h2, h3, h4, h5⟩ := ihp (rs ++ [r]) (nn L0 fuel L1 D1 p).1 (nn L0 fuel L1 D1 p).2 (fun q hq => hps q (List.mem_cons_of_mem _ hq)) (hsp2 r) (by rw [List.length_append]; simp only [List.length_cons, List.length_nil] at hlen ⊢; omega) hD2
          refine ⟨1 + (n1 + (1 + n)), ?_, by show (nparts (nn L0 fuel) ps _ _ (rs ++ [r])).2.2.length = _; rw [h3, List.length_append]; simp only [List.length_cons, List.length_nil]; omega, h4, fun h hh => by show getG (nparts (nn L0 fuel) ps _ _ (rs ++ [r])).2.1 h = _; rw [h5 h hh, h1g h (by omega)]⟩
          rw [niter_add, niter_add, niter_add]
          have e1 : niter L0 1 ⟨L1, D1, ⟨g, rs⟩ :: S⟩ = ⟨L1, D1, ⟨p, []⟩ :: ⟨g, rs⟩ :: S⟩ := by
            rw [niter_one]
            unfold nstep
            simp only [hget, hg1]
          rw [e1, h1]
          have e2 : niter L0 1 ⟨(nn L0 fuel L1 D1 p).1, (nn L0 fuel L1 D1 p).2, ⟨g, rs⟩ :: S⟩ = ⟨(nn L0 fuel L1 D1 p).1, (nn L0 fuel L1 D1 p).2, ⟨g, rs ++ [r]⟩ :: S⟩ := by
            rw [niter_one]
            unfold nstep
            simp only [hget, hr]
          rw [e2]; exact h2
    obtain ⟨n, h1, h2, h3, h4⟩ := key (partsOf L0 g) [] L D hpl rfl (by simp) hD
    have hnn : nn L0 (fuel + 1) L D g = ((finF L0 (nparts (nn L0 fuel) (partsOf L0 g) L D []).1 ⟨g, (nparts (nn L0 fuel) (partsOf L0 g) L D []).2.2⟩).1, (nparts (nn L0 fuel) (partsOf L0 g) L D []).2.1 ++ [(g, (finF L0 (nparts (nn L0 fuel) (partsOf L0 g) L D []).1 ⟨g, (nparts (nn L0 fuel) (partsOf L0 g) L D []).2.2⟩).2)]) := rfl
    rw [hnn]
    generalize nparts (nn L0 fuel) (partsOf L0 g) L D [] = q at h1 h2 h3 h4 ⊢
    obtain ⟨L2, D2, rs⟩ := q
    simp only at h1 h2 h3 h4 ⊢
    refine ⟨n + 1, ?_, ⟨(finF L0 L2 ⟨g, rs⟩).2, by rw [getG_snoc, h3]; simp only [if_true]⟩, fun h hh => ?_⟩
    · rw [niter_add, h1, niter_one]
      unfold nstep
      have : (partsOf L0 g)[rs.length]? = none := List.getElem?_eq_none (by simp only [List.length_nil] at h2; omega)
      simp only [this]
    · rw [getG_snoc, h4 h (by omega)]
      cases getG D h with
      | some v => rfl
      | none =>
        have : ¬ h = g := fun e => by subst e; omega
        simp [this]
end Go.Fm
namespace Go.Fm
theorem finF_ext (L0 L : List Nd) (f : Fr) : ∃ e, (finF L0 L f).1 = L ++ e ∧ e.length ≤ 1 := by
  unfold finF
  split
  · exact ⟨[], by simp, by simp⟩
  split
  · split
    · exact comb_ext _ _ _
    · exact comb_ext _ _ _
  split
  · exact nt_ext _ _
  · exact ⟨[], by simp, by simp⟩
theorem finF_lt {L0 L : List Nd} {f : Fr} (h : WF L) (hg : f.g.1 < L.length) (hr : ∀ r ∈ f.res, r < L.length) (h3 : (nodeAt L0 f.g.1).kind = 3 → f.res ≠ []) : (finF L0 L f).2 < (finF L0 L f).1.length := by
  unfold finF
  split
  · rename_i hk
    have := h3 hk
    cases hi : f.res with
    | nil => exact absurd hi this
    | cons y r => exact hr y (by rw [hi]; exact List.mem_cons_self)
  split
  · split
    · exact comb_lt h (.inl rfl) hr
    · exact comb_lt h (.inr rfl) hr
  split
  · exact nt_lt h hg
  · exact hg
theorem nstep_le (L0 : List Nd) (σ : NS) : σ.L.length ≤ (nstep L0 σ).L.length := by
  obtain ⟨L, D, S⟩ := σ
  unfold nstep
  match S with
  | [] => exact Nat.le_refl _
  | f :: S =>
    simp only
    split
    · split <;> exact Nat.le_refl _
    · obtain ⟨e, he, _⟩ := finF_ext L0 L f
      show L.length ≤ (finF L0 L f).1.length
      rw [he, List.length_append]; omega
theorem niter_le (L0 : List Nd) : ∀ (n : Nat) (σ : NS), σ.L.length ≤ (niter L0 n σ).L.length
  | 0, _ => Nat.le_refl _
  | n + 1, σ => Nat.le_trans (nstep_le L0 σ) (niter_le L0 n _)
theorem getG_mem : ∀ {D : List (Goal × Nat)} {g : Goal} {r : Nat}, getG D g = some r → (g, r) ∈ D
  | [], _, _, h => by cases h
  | (k, v) :: D, g, r, h => by
    unfold getG at h
    split at h
    · rename_i hk
      injection h with h
      subst hk; subst h
      exact List.mem_cons_self
    · exact List.mem_cons_of_mem _ (getG_mem h)
end Go.Fm
end

section
/- NNF: its frames. Conditions on memory as stated. -/
namespace Go.Proofs.YtajfdcbknghipaaGreatDoor
open Go Go.Sh Go.Fm

variable {w : World} {s : Addr} {L L0 : List Nd} {d : SD}

def gC (g : Goal) : List Value := [.int .i64 (g.1 : Nat), .bool g.2]
theorem gC_len (g : Goal) : (gC g).length = 2 := rfl
theorem elem_goal : ElemOK Tryz.prog 88 86 2 16 (.agg #[.int .i64 0, .bool false]) := elem_of (by kernel_rfl) (by kernel_rfl) rfl (by decide)
theorem elem_frame : ElemOK Tryz.prog 87 83 1 8 (.pointer none) := elem_of (by kernel_rfl) (by kernel_rfl) rfl (by decide)

/-- A frame and where it lies. -/
structure FrRep where
  f : Fr
  b : Nat
  pp : Option Addr
  pc : Nat
  rp : Option Addr
  rc : Nat
def FrRep.bl (t : FrRep) : Nat → Prop := fun x => x = t.b ∨ At t.pp x ∨ At t.rp x
def FrRep.ptr (t : FrRep) : Value := .pointer (some ⟨t.b, 0, none⟩)
structure FrM (L0 : List Nd) (w : World) (t : FrRep) : Prop where
  blk : Blk w t.b [.int .i64 (t.f.g.1 : Nat), .bool t.f.g.2, .int .i64 (nodeAt L0 t.f.g.1).kind, .slice t.pp (partsOf L0 t.f.g).length t.pc, .slice t.rp t.f.res.length t.rc] 90
  parts : Own w 86 2 t.pp (partsOf L0 t.f.g).length t.pc ((partsOf L0 t.f.g).flatMap gC)
  res : OwnN w t.rp t.rc t.f.res
  ne1 : ¬ At t.pp t.b
  ne2 : ¬ At t.rp t.b
  ne3 : ∀ x, At t.pp x → ¬ At t.rp x
theorem FrM.keep {fp : Nat → Prop} {w' : World} {t : FrRep} (h : FrM L0 w t) (hm : Mod fp w w') (hn : ∀ x, t.bl x → ¬ fp x) : FrM L0 w' t :=
  ⟨h.blk.keep hm (hn _ (.inl rfl)), h.parts.keep hm fun b hb => hn _ (.inr (.inl hb)), h.res.keep hm fun b hb => hn _ (.inr (.inr hb)), h.ne1, h.ne2, h.ne3⟩
theorem FrM.only {w' : World} {t : FrRep} (h : FrM L0 w t) (hm : Mod NoB w w') : FrM L0 w' t := h.keep hm fun _ _ => NoB.not
theorem FrM.lt {t : FrRep} (h : FrM L0 w t) : ∀ x, t.bl x → x < w.heap.size := by
  rintro x (rfl | hx | hx)
  · exact h.blk.lt
  · exact h.parts.lt x hx
  · exact Own.lt h.res x hx
theorem FrM.part {t : FrRep} (h : FrM L0 w t) {i : Nat} {p : Goal} (hi : (partsOf L0 t.f.g)[i]? = some p) : ∃ a, t.pp = some a ∧ CellsAre w (a.add (i * 2)) 0 (gC p) := by
  have hg : ∀ j, j < 2 → ((partsOf L0 t.f.g).flatMap gC)[i * 2 + j]? = (gC p)[j]? := fun j hj => by rw [flatMap_get gC gC_len _ i j hj, hi]; rfl
  obtain ⟨a, ha, _⟩ := h.parts.row.at (i := i * 2 + 0) (v := .int .i64 (p.1 : Nat)) (by rw [hg 0 (by omega)]; rfl)
  have hr := h.parts.row
  rw [ha] at hr
  exact ⟨a, ha, hr.cells _ _ _ fun j v hj => by
    have hj2 : j < 2 := by have := (List.getElem?_eq_some_iff.1 hj).1; rw [gC_len] at this; exact this
    rw [Nat.add_zero, hg j hj2]; exact hj⟩

theorem newFrame_ok (h : StM w s L d) (hok : ∀ i n, L[i]? = some n → NdOK i n) (hL : L.length ≤ 30000) {g : Goal} (hg : g.1 < L.length) (hsame : nodeAt L g.1 = nodeAt L0 g.1) :
    CallsF Tryz.prog 38 #[.pointer (some s), .agg #[.int .i64 (g.1 : Nat), .bool g.2]] w fun e w' => ∃ t : FrRep, e = .returned t.ptr ∧ t.f = ⟨g, []⟩ ∧ FrM L0 w' t ∧ (∀ x, t.bl x → w.heap.size ≤ x) ∧ Mod NoB w w' := by
  obtain ⟨a, ng⟩ := g
  have hn : L[a]? = some L[a] := List.getElem?_eq_getElem hg
  generalize L[a] = n at hn
  have hnA : nodeAt L0 a = n := by rw [← hsame]; exact nodeAt_eq hn
  have hnok := hok a n hn
  have hnl := hnok.len
  have hpl : partsOf L0 (a, ng) = n.ins.map fun x => (x, !(ng == (n.kind == 3))) := by unfold partsOf; rw [hnA]
  refine C_transform_newFrame _ _ _ _ _ ?_
  intro w1 hw1
  have hb1 := hw1.blk 0 rfl
  refine (node_ok (h.same hw1.mod) hok hL hn).mono ?_
  rintro e w2 ⟨q, rfl, hins2, hm2⟩
  have hb2 := hb1.keep hm2 NoB.not
  have hs1 := hw1.size
  have hs2 := hm2.size
  simp only [List.length_cons, List.length_nil] at hs1
  refine ⟨_, _, _, _, _, _, _, rfl, _, _, hb2.cellsAre, ng, hb2.cellAt 0 1, ?_⟩
  intro w3 hw3
  have hbf : Blk w3 (w2.heap.size + 1) [.int .i64 a, .bool ng, .int .i64 n.kind, .slice none 0 0, .slice none 0 0] 90 := hw3.blk 1 rfl
  have hs3 := hw3.size
  simp only [List.length_cons, List.length_nil] at hs3
  have hm03 := (hw1.mod.then hm2).then hw3.mod
  have hqlt : ∀ b, At q b → b < w2.heap.size := Own.lt hins2.own
  have hfl : ∀ k, ((n.ins.take k).map fun x => (x, !(ng == (n.kind == 3)))).length ≤ 30000 := fun k => by rw [List.length_map, List.length_take]; omega
  refine ⟨fun m vs w' => ∃ (k : Nat) (pp : Option Addr) (pc : Nat), m = n.ins.length - k ∧ k ≤ n.ins.length ∧ vs = [.int .i64 k] ∧ Blk w' (w2.heap.size + 1) [.int .i64 a, .bool ng, .int .i64 n.kind, .slice pp ((n.ins.take k).map fun x => (x, !(ng == (n.kind == 3)))).length pc, .slice none 0 0] 90 ∧
      Own w' 86 2 pp ((n.ins.take k).map fun x => (x, !(ng == (n.kind == 3)))).length pc (((n.ins.take k).map fun x => (x, !(ng == (n.kind == 3)))).flatMap gC) ∧ (∀ b, At pp b → w3.heap.size ≤ b) ∧ Mod (fun b => w2.heap.size ≤ b) w3 w',
    ⟨_, 0, none, 0, rfl, Nat.zero_le _, rfl, hbf, Own.none _ _ _, fun b hb => (At.none hb).elim, Mod.refl _ _⟩, ?_⟩
  rintro m k' w4 ⟨k, pp, pc, rfl, hk, hvs, hb4, ho4, hpp, hm4⟩
  simp only [List.cons.injEq, Value.int.injEq, true_and, and_true] at hvs
  subst hvs
  have hs4 := hm4.size
  have hfk := hfl k
  refine Br_dec (fun hlt => ?_) fun hge => ?_
  · have hk' : k < n.ins.length := by omega
    have hx : n.ins[k]? = some n.ins[k] := List.getElem?_eq_getElem hk'
    have htk : n.ins.take (k + 1) = n.ins.take k ++ [n.ins[k]] := List.take_succ_eq_append_getElem hk'
    generalize n.ins[k] = x at hx htk
    obtain ⟨aq, hqa, hcq⟩ := ((hins2.row.keep hw3.mod fun _ _ => NoB.not).keep hm4 fun a' ha' h' => by have := hqlt _ ⟨a', ha', rfl⟩; have h2 : w2.heap.size ≤ a'.block := h'; omega).at (i := k) (v := .int .i64 x) (by rw [ints_get, natI_get, hx]; rfl)
    refine optP_intro hqa ⟨⟨by omega, by omega⟩, x, by rw [Int.toNat_natCast, Nat.mul_one]; exact hcq, pp, _, pc, hb4.cellAt 0 3, ?_⟩
    intro w5 hw5
    obtain ⟨w6, p6, c6, hrun, ho6, hm6, hat6⟩ := append_one (ty := 88) elem_goal ho4 (vs := gC (x, !(ng == (n.kind == 3)))) rfl (by
      intro u hu
      simp only [gC, List.mem_cons, List.not_mem_nil, or_false] at hu
      rcases hu with rfl | rfl <;> rfl) (by omega) (by omega) hw5
    have hb6 := hb4.keep hm6 fun hp => by have := hpp _ hp; omega
    refine ⟨w6, p6, _, c6, hrun, ?_, ?_⟩
    · show CanStore w6 ((⟨w2.heap.size + 1, 0, none⟩ : Addr).add 3) 0 _
      rw [own_add]
      exact canStore_blk hb6 _ 0 rfl (by simp)
    intro w7 hw7
    have hw7' : SetC w6 ((⟨w2.heap.size + 1, 0, none⟩ : Addr).add 3) [.slice p6 (((n.ins.take k).map fun x => (x, !(ng == (n.kind == 3)))).length + 1) c6] w7 := hw7
    rw [own_add] at hw7'
    have hb7 := hw7'.blk hb6
    have hm7 : Mod (· = w2.heap.size + 1) w6 w7 := hw7'.mod
    have hs6 := hm6.size
    have hl1 : ((n.ins.take (k + 1)).map fun x => (x, !(ng == (n.kind == 3)))).length = ((n.ins.take k).map fun x => (x, !(ng == (n.kind == 3)))).length + 1 := by rw [htk, List.map_append, List.length_append]; rfl
    have hp6 : ∀ b, At p6 b → w3.heap.size ≤ b := fun b hb => by
      rcases hat6 b hb with h' | h'
      · exact hpp b h'
      · omega
    refine ⟨n.ins.length - (k + 1), by omega, k + 1, p6, c6, rfl, hk', by rw [wrap_i64 (by omega) (by omega)]; rfl, ?_, ?_, hp6, ?_⟩
    · rw [hl1]; exact hb7
    · rw [hl1, htk, List.map_append, List.flatMap_append]
      have e : ([x].map fun x => (x, !(ng == (n.kind == 3)))).flatMap gC = gC (x, !(ng == (n.kind == 3))) := by simp
      rw [e]
      exact ho6.keep hm7 fun b hb e => by have := hp6 b hb; have e' : b = w2.heap.size + 1 := e; omega
    · refine (hm4.then (hm6.mono fun b _ hp => ?_)).then (hm7.mono fun b _ e => ?_)
      · have := hpp b hp
        show w2.heap.size ≤ b; omega
      · have e' : b = w2.heap.size + 1 := e
        show w2.heap.size ≤ b; omega
  · have hke : k = n.ins.length := by omega
    subst hke
    rw [List.take_length, ← hpl] at hb4 ho4
    refine ⟨⟨⟨(a, ng), []⟩, w2.heap.size + 1, pp, pc, none, 0⟩, rfl, rfl, ⟨?_, ho4, Own.none _ _ _, fun hb => ?_, At.none, fun x _ => At.none⟩, ?_, hm03.new _ hm4 fun b hb h' => by have h2 : w2.heap.size ≤ b := h'; omega⟩
    · rw [hnA]; exact hb4
    · have h1 : w3.heap.size ≤ w2.heap.size + 1 := hpp _ hb
      omega
    · rintro x (hx | hx | hx)
      · have e : x = w2.heap.size + 1 := hx
        omega
      · have h1 : w3.heap.size ≤ x := hpp _ hx
        omega
      · exact (At.none hx).elim

theorem finish_ok (h : StI w s L d) (hL : L.length < 30000) {t : FrRep} (ht : FrM L0 w t) (hg : t.f.g.1 < L.length) (hres : ∀ r ∈ t.f.res, r < L.length) (hlen : t.f.res.length ≤ 30000) (h3 : (nodeAt L0 t.f.g.1).kind = 3 → t.f.res ≠ []) :
    CallsF Tryz.prog 39 #[t.ptr, .pointer (some s)] w fun e w' => e = .returned (.int .i64 (finF L0 L t.f).2) ∧ StPost w s d (finF L0 L t.f).1 w' := by
  refine C_transform_frame_finish _ _ _ _ ?_
  refine ⟨_, ht.blk.cellAt 0 2, Br_eq (fun hk3 => ?_) fun hk3 => ?_⟩
  · have e : finF L0 L t.f = (L, t.f.res.headD 0) := by unfold finF; rw [if_pos hk3]
    rw [e]
    have hne := h3 hk3
    cases hr : t.f.res with
    | nil => exact absurd hr hne
    | cons x r =>
      obtain ⟨ar, har, hcr⟩ := (Own.row ht.res).at (i := 0) (v := .int .i64 x) (by rw [hr]; rfl)
      refine ⟨t.rp, t.f.res.length, t.rc, ht.blk.cellAt 0 4, optP_intro har ⟨⟨by omega, by rw [hr]; simp⟩, x, hcr, ?_, h.post (Mod.refl _ _)⟩⟩
      rfl
  intro J hJ
  have main : ∀ bb : Bool, bb = decide ((nodeAt L0 t.f.g.1).kind = 4 ∨ (nodeAt L0 t.f.g.1).kind = 5) → J [.bool bb] w := by
    intro bb hbb
    have hd := h.same (drew_mod w)
    have hbd := ht.blk.keep (drew_mod w) NoB.not
    have hrd : Row w.drew t.rp (ints (natI t.f.res)) := (Own.row ht.res).keep (drew_mod w) fun _ _ => NoB.not
    refine hJ _ _ (Br_intro (fun htr => ?_) fun hf => ?_)
    · have hk : (nodeAt L0 t.f.g.1).kind = 4 ∨ (nodeAt L0 t.f.g.1).kind = 5 := by rw [hbb] at htr; exact of_decide_eq_true htr
      refine ⟨_, hbd.cellAt 0 2, t.f.g.2, by rw [add_zero']; exact hbd.cellAt 0 1, Br_intro (fun hb => ?_) fun hb => ?_⟩
      · have e : finF L0 L t.f = comb L 4 t.f.res := by unfold finF; rw [if_neg hk3, if_pos hk, if_pos hb]
        rw [e]
        refine ⟨_, _, _, hbd.cellAt 0 4, ?_⟩
        refine (and_ok (c := t.rc) hd hL hrd hres (by omega)).mono ?_
        rintro e w1 ⟨rfl, hp⟩
        exact ⟨_, rfl, rfl, hp.pre (drew_mod w)⟩
      · have e : finF L0 L t.f = comb L 5 t.f.res := by unfold finF; rw [if_neg hk3, if_pos hk, if_neg (by rw [hb]; simp)]
        rw [e]
        refine ⟨_, _, _, hbd.cellAt 0 4, ?_⟩
        refine (or_ok (c := t.rc) hd hL hrd hres (by omega)).mono ?_
        rintro e w1 ⟨rfl, hp⟩
        exact ⟨_, rfl, rfl, hp.pre (drew_mod w)⟩
    · have hk : ¬ ((nodeAt L0 t.f.g.1).kind = 4 ∨ (nodeAt L0 t.f.g.1).kind = 5) := by rw [hbb] at hf; exact of_decide_eq_false hf
      refine ⟨t.f.g.2, by rw [add_zero']; exact ht.blk.cellAt 0 1, Br_intro (fun hb => ?_) fun hb => ?_⟩
      · have e : finF L0 L t.f = nt L t.f.g.1 := by unfold finF; rw [if_neg hk3, if_neg hk, if_pos hb]
        rw [e]
        refine ⟨_, by rw [add_zero']; exact ht.blk.cellAt 0 0, ?_⟩
        refine (not_ok h hL hg).mono ?_
        rintro e w1 ⟨rfl, hp⟩
        exact ⟨_, rfl, rfl, hp⟩
      · have e : finF L0 L t.f = (L, t.f.g.1) := by unfold finF; rw [if_neg hk3, if_neg hk, if_neg (by rw [hb]; simp)]
        rw [e]
        exact ⟨_, by rw [add_zero']; exact ht.blk.cellAt 0 0, rfl, h.post (Mod.refl _ _)⟩
  refine Br_eq (fun h4 => main _ ?_) fun h4 => main _ ?_
  · rw [Bool.eq_iff_iff]; simp [h4]
  · rw [Bool.eq_iff_iff]; simp [h4]

end Go.Proofs.YtajfdcbknghipaaGreatDoor
end

section
/- Keys that are goals. No condition. -/
namespace Go.Proofs.YtajfdcbknghipaaGreatDoor
open Go Go.Sh Go.Fm

def gV (g : Goal) : Value := .agg #[.int .i64 (g.1 : Nat), .bool g.2]
theorem map_goal : Tryz.prog.underlying 82 = some (.map 86 3) := by kernel_rfl
theorem eq_goal (a b : Goal) (w : World) : (Op.equal 86 (gV a) (gV b)).run Tryz.prog w = .ok (decide (a = b)) w := by
  have u3 := Tryz.underlying3
  have a3 := Tryz.isAgg3
  have z3 := Tryz.sizeOf3
  have u4 := Tryz.underlying4
  have a4 := Tryz.isAgg4
  have z4 := Tryz.sizeOf4
  have hS : Tryz.prog.underlying 86 = some (.struct (Tryz.prog.fieldsOf 86)) := by kernel_rfl
  have hp : Tryz.prog.stoodInHeld 86 = false := by kernel_rfl
  unfold Op.equal gV
  rw [show Op.maxDepth = 9999 + 1 from rfl, run_equalIn_struct w 9999 86 _ _ hS hp]
  simp only [Program.fieldsOf, Tryz.underlying86]
  go_simp
  obtain ⟨x, p⟩ := a
  obtain ⟨y, q⟩ := b
  by_cases h1 : x = y <;> cases p <;> cases q <;> simp [h1] <;> omega
theorem check_int (e : Bool) (n : Nat) (x : Int) (w : World) : (Instr.checkKey e (n + 1) 3 (.int .i64 x)).run Tryz.prog w = .ok () w := by
  unfold Instr.checkKey
  simp only [Sem.run_bind, run_underlying Tryz.underlying3, Result.andThen_ok, Sem.run_pure]
theorem check_bool (e : Bool) (n : Nat) (x : Bool) (w : World) : (Instr.checkKey e (n + 1) 4 (.bool x)).run Tryz.prog w = .ok () w := by
  unfold Instr.checkKey
  simp only [Sem.run_bind, run_underlying Tryz.underlying4, Result.andThen_ok, Sem.run_pure]
theorem check_goalN (e : Bool) (n : Nat) (k : Goal) (w : World) : (Instr.checkKey e (n + 1 + 1) 86 (gV k)).run Tryz.prog w = .ok () w := by
  have u3 := Tryz.underlying3
  have a3 := Tryz.isAgg3
  have z3 := Tryz.sizeOf3
  have u4 := Tryz.underlying4
  have a4 := Tryz.isAgg4
  have z4 := Tryz.sizeOf4
  have c1 := check_int e n
  have c2 := check_bool e n
  unfold gV
  rw [Instr.checkKey]
  simp only [Sem.run_bind, run_underlying Tryz.underlying86, Result.andThen_ok]
  rw [← Array.forIn_toList]
  simp only [List.forIn_cons, List.forIn_nil]
  go_simp
theorem check_goal (e : Bool) (k : Goal) (w : World) : (Instr.checkKey e 10000 86 (gV k)).run Tryz.prog w = .ok () w := check_goalN e 9998 k w
theorem key_goal : KeyW Tryz.prog 82 86 3 gV :=
  ⟨map_goal, by kernel_rfl, eq_goal, check_goal, fun a => by unfold gV; simp [Instr.sameBits]⟩

end Go.Proofs.YtajfdcbknghipaaGreatDoor
end

section
/- NNF, walked. Conditions on memory as stated. -/
namespace Go.Proofs.YtajfdcbknghipaaGreatDoor
open Go Go.Sh Go.Fm

variable {w : World} {s : Addr} {L L0 : List Nd} {d : SD}

def encD (D : List (Goal × Nat)) : List (Goal × Value) := D.map fun p => (p.1, Value.int .i64 (p.2 : Nat))
theorem getM_encD (D : List (Goal × Nat)) (g : Goal) : getM (encD D) g = (getG D g).map fun (r : Nat) => Value.int .i64 (r : Int) := by
  induction D with
  | nil => rfl
  | cons e D ih =>
    obtain ⟨k, v⟩ := e
    show getM ((k, Value.int .i64 (v : Nat)) :: encD D) g = _
    unfold getM getG
    by_cases h : g = k
    · simp [h]
    · simp only [if_neg h]; exact ih
theorem look_goal {r : Nat} {D : List (Goal × Nat)} (h : MapM gV w r (encD D)) (g : Goal) (ck : Bool) : (Instr.lookup 82 (.map (some r)) (.agg #[.int .i64 (g.1 : Nat), .bool g.2]) ck).run Tryz.prog w = .ok (if ck then .tuple #[.int .i64 ((getG D g).getD 0 : Nat), .bool (getG D g).isSome] else .int .i64 ((getG D g).getD 0 : Nat)) w := by
  have := lookup_okW key_goal h g (zero_int w) ck
  rw [getM_encD] at this
  show (Instr.lookup 82 (.map (some r)) (gV g) ck).run Tryz.prog w = _
  rw [this]
  cases getG D g <;> rfl

/-- The frames of the stack, bottom first. -/
structure StackM (L0 : List Nd) (B : Nat) (w : World) (d : SD) (r : Nat) (ps : Option Addr) (cs : Nat) (T : List FrRep) : Prop where
  own : Own w 83 1 ps T.length cs (T.map FrRep.ptr)
  fr : ∀ t ∈ T, FrM L0 w t
  sep : ∀ t ∈ T, ∀ x, t.bl x → B ≤ x ∧ x ≠ r ∧ ¬ At ps x ∧ ¬ d.fp x
  pair : T.Pairwise fun t u => ∀ x, t.bl x → ¬ u.bl x
  st : ∀ x, At ps x → B ≤ x ∧ x ≠ r ∧ ¬ d.fp x

theorem NNF_ok (h : StI w s L0 d) (hL : L0.length ≤ 30000) {a : Nat} (ha : a < L0.length) (hbig : (nn L0 (a + 1) L0 [] (a, false)).1.length < 30000) :
    CallsF Tryz.prog 17 #[.pointer (some s), .int .i64 a] w fun e w' => e = .returned (.int .i64 ((getG (nn L0 (a + 1) L0 [] (a, false)).2 (a, false)).getD 0 : Nat)) ∧ StPost w s d (nn L0 (a + 1) L0 [] (a, false)).1 w' := by
  have hok := h.wf.ok
  have hdlt := h.m.lt
  obtain ⟨N, hN, _, _⟩ := nrun L0 hok (a + 1) (a, false) (by show a < a + 1; omega) ha L0 [] [] rfl
  generalize nn L0 (a + 1) L0 [] (a, false) = res at hN hbig ⊢
  obtain ⟨Lf, Df⟩ := res
  simp only at hN hbig ⊢
  refine C_transform_NNF _ _ _ _ ?_
  have hna : L0[a]? = some L0[a] := List.getElem?_eq_getElem ha
  generalize L0[a] = na at hna
  refine (node_ok h.m hok hL hna).mono ?_
  rintro e w1 ⟨q0, rfl, hins1, hm1⟩
  refine ⟨_, _, _, _, _, _, _, rfl, Br_false rfl ?_⟩
  intro w2 hw2
  have hs1 := hm1.size
  have hs2 := hw2.size
  simp only [List.length_cons, List.length_nil] at hs2
  have hm02 := hm1.then hw2.mod
  have hmap2 : MapM gV w2 (w1.heap.size + 1) (encD []) := hw2.mapM 1 rfl gV
  refine (newFrame_ok (L0 := L0) (g := (a, false)) (h.m.same hm02) hok hL ha rfl).mono ?_
  rintro e w3 ⟨t0, rfl, ht0, hfr3, hbl3, hm3⟩
  refine ⟨_, rfl, ?_⟩
  intro w4 hw4
  have hm04 := (hm02.then hm3).then hw4.mod
  have hs3 := hm3.size
  have hs4 := hw4.size
  simp only [List.length_cons, List.length_nil] at hs4
  have hown4 : Own w4 83 1 (some ⟨w3.heap.size + 0, 0, none⟩) 1 1 [t0.ptr] := Own.fresh hw4 0 1 1 rfl rfl (by decide)
  have hmap4 : MapM gV w4 (w1.heap.size + 1) (encD []) := (hmap2.only hm3).only hw4.mod
  have hfr4 : FrM L0 w4 t0 := hfr3.only hw4.mod
  have hlt3 := hfr3.lt
  -- r: the block of the results' map
  have hrw : ([OB.cells [Value.int IntKind.i64 na.kind, .int .i64 na.block, .int .i64 na.alt, .slice q0 na.ins.length na.ins.length] 58] : List OB).length = 1 := rfl
  generalize hr : w1.heap.size + 1 = r at hmap4
  have hrB : w.heap.size ≤ r := by omega
  have hr2 : r < w2.heap.size := by omega
  refine ⟨fun m vs w' => ∃ (L : List Nd) (D : List (Goal × Nat)) (T : List FrRep) (ps : Option Addr) (cs : Nat) (di : SD), vs = [.int .i64 0, .slice ps T.length cs] ∧ niter L0 m ⟨L, D, (T.map FrRep.f).reverse⟩ = ⟨Lf, Df, []⟩ ∧
      StI w' s L di ∧ StackM L0 w.heap.size w' di r ps cs T ∧ MapM gV w' r (encD D) ∧ ¬ di.fp r ∧ (∀ x, di.fp x → d.fp x ∨ w.heap.size ≤ x) ∧ Mod d.fp w w' ∧ (∃ e, L = L0 ++ e) ∧ (∀ p ∈ D, p.2 < L.length) ∧ (∀ t ∈ T, t.f.g.1 < L0.length ∧ (∀ x ∈ t.f.res, x < L.length) ∧ t.f.res.length ≤ (partsOf L0 t.f.g).length) ∧ (T.map fun t => t.f.g.1).Pairwise (· > ·) ∧ (∀ t ∈ T, getG D t.f.g = none),
    ⟨N, L0, [], [t0], some ⟨w3.heap.size + 0, 0, none⟩, 1, d, rfl, by rw [← hN]; simp [ht0], h.same hm04, ⟨hown4, ?_, ?_, by simp, ?_⟩, hmap4, fun hd => by have := hdlt _ hd; omega, fun x hx => .inl hx, hm04.to, ⟨[], by simp⟩, (fun p hp => nomatch hp), ?_, by simp, fun t ht => rfl⟩, ?_⟩
  · intro t ht; simp only [List.mem_singleton] at ht; subst ht; exact hfr4
  · intro t ht x hx
    simp only [List.mem_singleton] at ht
    subst ht
    have h1 := hbl3 x hx
    have h2 := hlt3 x hx
    refine ⟨by omega, by omega, fun hp => by rw [at_some] at hp; omega, fun hd => by have := hdlt _ hd; omega⟩
  · intro x hx
    rw [at_some] at hx
    exact ⟨by omega, by omega, fun hd => by have := hdlt _ hd; omega⟩
  · intro t ht
    simp only [List.mem_singleton] at ht
    subst ht
    rw [ht0]
    exact ⟨ha, (fun x hx => nomatch hx), Nat.zero_le _⟩
  rintro m z ps' nT cs' w5 ⟨L, D, T, ps, cs, di, hvs, hit, h5, hst, hmap5, hnr, hfp5, hm5, ⟨ex, hex⟩, hD5, hV5, hdec, hund⟩
  simp only [List.cons.injEq, Value.int.injEq, Value.slice.injEq, true_and, and_true] at hvs
  obtain ⟨rfl, rfl, rfl, rfl⟩ := hvs
  have hLle : L.length ≤ Lf.length := by
    have := niter_le L0 m ⟨L, D, (T.map FrRep.f).reverse⟩
    rw [hit] at this; exact this
  have hL0le : L0.length ≤ L.length := by rw [hex, List.length_append]; omega
  have hsm5 := hm5.size
  refine Br_dec (fun hpos => ?_) fun hz => ?_
  rotate_left
  · -- the stack is empty
    have hT : T = [] := List.eq_nil_of_length_eq_zero (by omega)
    subst hT
    have hstay : ∀ (n : Nat) (σ : NS), σ.S = [] → niter L0 n σ = σ := by
      intro n
      induction n with
      | zero => intro σ _; rfl
      | succ n ih =>
        intro σ hσ
        have : nstep L0 σ = σ := by unfold nstep; rw [hσ]
        show niter L0 n (nstep L0 σ) = σ
        rw [this]; exact ih σ hσ
    rw [hstay _ _ rfl] at hit
    injection hit with e1 e2 e3
    subst e1; subst e2
    have hlk := look_goal hmap5 (a, false) false
    have hmr : (Value.map (some (w1.heap.size + [OB.cells [Value.int IntKind.i64 na.kind, .int .i64 na.block, .int .i64 na.alt, .slice q0 na.ins.length na.ins.length] 58].length))) = Value.map (some r) := by rw [hrw, hr]
    refine ⟨_, hlk, rfl, di, h5, hm5, hfp5⟩
  -- the top frame
  obtain ⟨T0, t, rfl⟩ : ∃ T0 t, T = T0 ++ [t] := by
    rcases List.eq_nil_or_concat T with rfl | ⟨T0, t, h⟩
    · simp at hpos
    · exact ⟨T0, t, by rw [h, List.concat_eq_append]⟩
  have htm : t ∈ T0 ++ [t] := List.mem_append_right _ (by simp)
  have hfr := hst.fr t htm
  have hsep := hst.sep t htm
  obtain ⟨hg0, hres0, hrl0⟩ := hV5 t htm
  have hrev : ((T0 ++ [t]).map FrRep.f).reverse = t.f :: (T0.map FrRep.f).reverse := by rw [List.map_append, List.reverse_append]; rfl
  rw [hrev] at hit
  have hTl : (T0 ++ [t]).length = T0.length + 1 := by rw [List.length_append]; rfl
  have hm1' : ∃ m', m = m' + 1 := by
    cases m with
    | zero => exfalso; injection hit with _ _ e3; cases e3
    | succ m' => exact ⟨m', rfl⟩
  obtain ⟨m', rfl⟩ := hm1'
  have hit' : niter L0 m' (nstep L0 ⟨L, D, t.f :: (T0.map FrRep.f).reverse⟩) = ⟨Lf, Df, []⟩ := hit
  have hnode : L0[t.f.g.1]? = some L0[t.f.g.1] := List.getElem?_eq_getElem hg0
  have hpartsL : (partsOf L0 t.f.g).length ≤ L0.length := by
    unfold partsOf
    rw [List.length_map, nodeAt_eq hnode]
    have := (hok _ _ hnode).len
    omega
  have hpartsLt : ∀ p ∈ partsOf L0 t.f.g, p.1 < L0.length := by
    intro p hp
    unfold partsOf at hp
    rw [nodeAt_eq hnode] at hp
    obtain ⟨x, hx, rfl⟩ := List.mem_map.1 hp
    have := (hok _ _ hnode).lt x hx
    show x < L0.length
    omega
  have hle := hst.own.le
  have hmaxT : (T0 ++ [t]).length ≤ 9223372036854775807 := by have := hle; have hmax : maxLen = 9223372036854775807 := rfl; omega
  intro J hJ
  have hw1 : IntKind.i64.wrap (((T0 ++ [t]).length : Int) - 1) = (T0.length : Nat) := by rw [wrap_i64 (by omega) (by omega)]; omega
  rw [hw1]
  have hptr : ((T0 ++ [t]).map FrRep.ptr)[T0.length]? = some t.ptr := by rw [List.getElem?_map, List.getElem?_append_right (Nat.le_refl _), Nat.sub_self]; rfl
  obtain ⟨aps, haps, hcps⟩ := hst.own.row.at hptr
  refine optP_intro haps ⟨⟨by omega, by omega⟩, some ⟨t.b, 0, none⟩, by rw [Int.toNat_natCast, Nat.mul_one]; exact hcps, ?_⟩
  refine ⟨t.rp, t.f.res.length, t.rc, hfr.blk.cellAt 0 4, t.pp, (partsOf L0 t.f.g).length, t.pc, hfr.blk.cellAt 0 3, Br_dec (fun hlt => ?_) fun hge => ?_⟩
  · -- a part is wanting
    have hp : (partsOf L0 t.f.g)[t.f.res.length]? = some ((partsOf L0 t.f.g)[t.f.res.length]'(by omega)) := List.getElem?_eq_getElem (by omega)
    have hpm : (partsOf L0 t.f.g)[t.f.res.length]'(by omega) ∈ partsOf L0 t.f.g := List.getElem_mem _
    generalize (partsOf L0 t.f.g)[t.f.res.length]'(by omega) = p at hp hpm
    obtain ⟨ap, hap, hcp⟩ := hfr.part hp
    refine ⟨t.pp, (partsOf L0 t.f.g).length, t.pc, hfr.blk.cellAt 0 3, optP_intro hap ⟨⟨by omega, by omega⟩, p.1, p.2, by rw [Int.toNat_natCast]; exact hcp, ?_⟩⟩
    have hlk := look_goal hmap5 p true
    rw [if_pos rfl] at hlk
    refine ⟨_, _, hlk, ?_⟩
    intro J1 hJ1
    cases hgp : getG D p with
    | some rv =>
      have hrv := hD5 _ (getG_mem hgp)
      have hstep : nstep L0 ⟨L, D, t.f :: (T0.map FrRep.f).reverse⟩ = ⟨L, D, ⟨t.f.g, t.f.res ++ [rv]⟩ :: (T0.map FrRep.f).reverse⟩ := by unfold nstep; simp only [hp, hgp]
      rw [hstep] at hit'
      refine Br_true rfl ⟨t.rp, t.f.res.length, t.rc, hfr.blk.cellAt 0 4, ?_⟩
      intro w6 hw6
      obtain ⟨w7, p7, c7, hrun, ho7, hm7, hat7⟩ := hfr.res.push (x := rv) (by omega) hw6
      have hb7 := hfr.blk.keep hm7 hfr.ne2
      have hs7 := hm7.size
      refine ⟨w7, p7, _, c7, hrun, ?_, ?_⟩
      · show CanStore w7 ((⟨t.b, 0, none⟩ : Addr).add 4) 0 _
        rw [own_add]
        exact canStore_blk hb7 _ 0 rfl (by simp)
      intro w8 hw8
      have hw8' : SetC w7 ((⟨t.b, 0, none⟩ : Addr).add 4) [.slice p7 (t.f.res.length + 1) c7] w8 := hw8
      rw [own_add] at hw8'
      have hb8 := hw8'.blk hb7
      have hm8 : Mod (· = t.b) w7 w8 := hw8'.mod
      have hm58 : Mod t.bl w5 w8 := (hm7.mono fun x _ hx => .inr (.inr hx)).then (hm8.mono fun x _ e => .inl e)
      have hlt5 := hfr.lt
      refine hJ1 _ _ _ _ ?_
      refine hJ _ _ _ _ _ ?_
      refine ⟨m', by omega, L, D, T0 ++ [(⟨⟨t.f.g, t.f.res ++ [rv]⟩, t.b, t.pp, t.pc, p7, c7⟩ : FrRep)], ps', cs', di, ?_, ?_, ?_, ⟨?_, ?_, ?_, ?_, hst.st⟩, ?_, hnr, hfp5, ?_, ⟨ex, hex⟩, hD5, ?_, ?_, ?_⟩
      · rw [List.length_append, List.length_append]; rfl
      · rw [← hit', List.map_append, List.reverse_append]; rfl
      · exact h5.keep hm58 fun x hx hb => (hsep x hb).2.2.2 hx
      · have e : (T0 ++ [(⟨⟨t.f.g, t.f.res ++ [rv]⟩, t.b, t.pp, t.pc, p7, c7⟩ : FrRep)]).map FrRep.ptr = (T0 ++ [t]).map FrRep.ptr := by rw [List.map_append, List.map_append]; rfl
        have e2 : (T0 ++ [(⟨⟨t.f.g, t.f.res ++ [rv]⟩, t.b, t.pp, t.pc, p7, c7⟩ : FrRep)]).length = (T0 ++ [t]).length := by rw [List.length_append, List.length_append]; rfl
        rw [e, e2]
        exact hst.own.keep hm58 fun x hx hb => (hsep x hb).2.2.1 hx
      · intro u hu
        rcases List.mem_append.1 hu with hu | hu
        · have hpr := (List.pairwise_append.1 hst.pair).2.2 u hu t (by simp)
          exact (hst.fr u (List.mem_append_left _ hu)).keep hm58 fun x hx hb => hpr x hx hb
        · simp only [List.mem_singleton] at hu
          subst hu
          refine ⟨?_, (hfr.parts.keep hm7 fun b hb hb' => hfr.ne3 b hb hb').keep hm8 fun b hb e => hfr.ne1 (e ▸ hb), ?_, hfr.ne1, fun hb => ?_, fun x hx hx' => ?_⟩
          · show Blk w8 t.b [_, _, _, _, .slice p7 (t.f.res ++ [rv]).length c7] _
            rw [List.length_append]; exact hb8
          · exact ho7.keep hm8 fun b hb e => by
              rcases hat7 b hb with h' | h'
              · exact hfr.ne2 (e ▸ h')
              · have := hfr.blk.lt; have e' : b = t.b := e; omega
          · rcases hat7 _ hb with h' | h'
            · exact hfr.ne2 h'
            · have h2 : t.b < w5.heap.size := hfr.blk.lt
              have h3 : w5.heap.size ≤ t.b := h'
              omega
          · rcases hat7 x hx' with h' | h'
            · exact hfr.ne3 x hx h'
            · have := hfr.parts.lt x hx; omega
      · intro u hu x hx
        rcases List.mem_append.1 hu with hu | hu
        · exact hst.sep u (List.mem_append_left _ hu) x hx
        · simp only [List.mem_singleton] at hu
          subst hu
          rcases hx with hx | hx | hx
          · exact hsep x (.inl hx)
          · exact hsep x (.inr (.inl hx))
          · rcases hat7 x hx with h' | h'
            · exact hsep x (.inr (.inr h'))
            · refine ⟨by omega, fun e => ?_, fun hp => ?_, fun hd => ?_⟩
              · have := hmap5.lt; omega
              · have := hst.own.lt x hp; omega
              · have := h5.m.lt x hd; omega
      · rw [List.pairwise_append]
        obtain ⟨q1, q2, q3⟩ := List.pairwise_append.1 hst.pair
        refine ⟨q1, by simp, fun u hu v hv x hx hx' => ?_⟩
        simp only [List.mem_singleton] at hv
        subst hv
        rcases hx' with h' | h' | h'
        · exact q3 u hu t (by simp) x hx (.inl h')
        · exact q3 u hu t (by simp) x hx (.inr (.inl h'))
        · rcases hat7 x h' with h'' | h''
          · exact q3 u hu t (by simp) x hx (.inr (.inr h''))
          · have := (hst.fr u (List.mem_append_left _ hu)).lt x hx; omega
      · exact hmap5.keep hm58 fun hb => (hsep r hb).2.1 rfl
      · exact hm5.trans hm58 (fun _ h => h) fun x hx hb => by have := (hsep x hb).1; omega
      · intro u hu
        rcases List.mem_append.1 hu with hu | hu
        · exact hV5 u (List.mem_append_left _ hu)
        · simp only [List.mem_singleton] at hu
          subst hu
          refine ⟨hg0, fun x hx => ?_, by show (t.f.res ++ [rv]).length ≤ _; rw [List.length_append]; simp only [List.length_cons, List.length_nil]; omega⟩
          rcases List.mem_append.1 hx with hx | hx
          · exact hres0 x hx
          · simp only [List.mem_singleton] at hx
            subst hx; exact hrv
      · have e : (T0 ++ [(⟨⟨t.f.g, t.f.res ++ [rv]⟩, t.b, t.pp, t.pc, p7, c7⟩ : FrRep)]).map (fun t => t.f.g.1) = (T0 ++ [t]).map fun t => t.f.g.1 := by rw [List.map_append, List.map_append]; rfl
        rw [e]; exact hdec
      · intro u hu
        rcases List.mem_append.1 hu with hu | hu
        · exact hund u (List.mem_append_left _ hu)
        · simp only [List.mem_singleton] at hu
          subst hu; exact hund t htm
    | none =>
      have hstep : nstep L0 ⟨L, D, t.f :: (T0.map FrRep.f).reverse⟩ = ⟨L, D, ⟨p, []⟩ :: t.f :: (T0.map FrRep.f).reverse⟩ := by unfold nstep; simp only [hp, hgp]
      rw [hstep] at hit'
      refine Br_false rfl ⟨t.pp, (partsOf L0 t.f.g).length, t.pc, hfr.blk.cellAt 0 3, optP_intro hap ⟨⟨by omega, by omega⟩, p.1, p.2, by rw [Int.toNat_natCast]; exact hcp, ?_⟩⟩
      have hpl := hpartsLt p hpm
      have hsame : nodeAt L p.1 = nodeAt L0 p.1 := by
        unfold nodeAt
        rw [hex, List.getElem?_append_left hpl]
      refine (newFrame_ok (L0 := L0) (g := p) h5.m h5.wf.ok (by omega) (by omega) hsame).mono ?_
      rintro e w6 ⟨u, rfl, hu, hfr6, hbl6, hm6⟩
      refine ⟨_, rfl, ?_⟩
      intro w7 hw7
      have hst7 := (hst.own.keep hm6 fun _ _ => NoB.not)
      have hs6 := hm6.size
      have hptrs : ((T0 ++ [t]).map FrRep.ptr).length = (T0 ++ [t]).length := List.length_map ..
      have hmaxB : (T0 ++ [t]).length ≤ L0.length := by
        have h1 : ((T0 ++ [t]).map fun t => t.f.g.1).Nodup := hdec.imp fun h e => by omega
        have := nodup_lenLe h1 (n := L0.length) fun x hx => by
          obtain ⟨v, hv, rfl⟩ := List.mem_map.1 hx
          exact (hV5 v hv).1
        rw [List.length_map] at this; exact this
      have hplt : p.1 < t.f.g.1 := by
        have hpm' := hpm
        unfold partsOf at hpm'
        rw [nodeAt_eq hnode] at hpm'
        obtain ⟨x, hx, rfl⟩ := List.mem_map.1 hpm'
        exact (hok _ _ hnode).lt x hx
      have hlen9 : (T0 ++ [t] ++ [u]).length = (T0 ++ [t]).length + 1 := by rw [List.length_append]; rfl
      obtain ⟨w8, p8, c8, hrun, ho8, hm8, hat8⟩ := append_one (ty := 87) elem_frame hst7 (vs := [u.ptr]) rfl (by intro v hv; simp only [List.mem_singleton] at hv; subst hv; rfl) (by omega) (by omega) hw7
      have hm58 : Mod (At ps') w5 w8 := hm6.to.then hm8
      have hs8 := hm8.size
      have hult := hfr6.lt
      refine ⟨w8, p8, _, c8, hrun, hJ1 _ _ _ _ (hJ _ _ _ _ _ ⟨m', by omega, L, D, T0 ++ [t] ++ [u], p8, c8, di, ?_, ?_, ?_, ⟨?_, ?_, ?_, ?_, ?_⟩, ?_, hnr, hfp5, ?_, ⟨ex, hex⟩, hD5, ?_, ?_, ?_⟩)⟩
      · rw [hlen9]
      · rw [← hit', List.map_append, List.reverse_append, hrev]
        simp [hu]
      · exact h5.keep hm58 fun x hx hp => (hst.st x hp).2.2 hx
      · rw [List.map_append, hlen9]; exact ho8
      · intro v hv
        rcases List.mem_append.1 hv with hv | hv
        · exact (hst.fr v hv).keep hm58 fun x hx hp => (hst.sep v hv x hx).2.2.1 hp
        · simp only [List.mem_singleton] at hv
          subst hv
          exact hfr6.keep hm8 fun x hx hp => by have h1 := hbl6 x hx; have h2 := hst.own.lt x hp; omega
      · intro v hv x hx
        rcases List.mem_append.1 hv with hv | hv
        · obtain ⟨s1, s2, s3, s4⟩ := hst.sep v hv x hx
          refine ⟨s1, s2, fun hp => ?_, s4⟩
          rcases hat8 x hp with h' | h'
          · exact s3 h'
          · have := (hst.fr v hv).lt x hx; omega
        · simp only [List.mem_singleton] at hv
          subst hv
          have h1 := hbl6 x hx
          have h2 := hult x hx
          refine ⟨by omega, fun e => ?_, fun hp => ?_, fun hd => ?_⟩
          · have := hmap5.lt; omega
          · rcases hat8 x hp with h' | h'
            · have := hst.own.lt x h'; omega
            · omega
          · have := h5.m.lt x hd; omega
      · rw [List.pairwise_append]
        refine ⟨hst.pair, by simp, fun v hv y hy x hx hx' => ?_⟩
        simp only [List.mem_singleton] at hy
        subst hy
        have h1 := hbl6 x hx'
        have h2 := (hst.fr v hv).lt x hx
        omega
      · intro x hp
        rcases hat8 x hp with h' | h'
        · exact hst.st x h'
        · refine ⟨by omega, fun e => ?_, fun hd => ?_⟩
          · have := hmap5.lt; omega
          · have := h5.m.lt x hd; omega
      · exact hmap5.keep hm58 fun hp => (hst.st r hp).2.1 rfl
      · exact hm5.trans hm58 (fun _ h => h) fun x hx hp => by have := (hst.st x hp).1; omega
      · intro v hv
        rcases List.mem_append.1 hv with hv | hv
        · exact hV5 v hv
        · simp only [List.mem_singleton] at hv
          subst hv
          rw [hu]
          exact ⟨hpl, (fun x hx => nomatch hx), Nat.zero_le _⟩
      · rw [List.map_append, List.pairwise_append]
        refine ⟨hdec, by simp, fun y hy z hz => ?_⟩
        simp only [List.map_cons, List.map_nil, List.mem_singleton] at hz
        subst hz
        rw [hu]
        show y > p.1
        rw [List.map_append] at hy
        rcases List.mem_append.1 hy with hy | hy
        · rw [List.map_append, List.pairwise_append] at hdec
          have := hdec.2.2 y hy t.f.g.1 (by simp)
          omega
        · simp only [List.map_cons, List.map_nil, List.mem_singleton] at hy
          omega
      · intro v hv
        rcases List.mem_append.1 hv with hv | hv
        · exact hund v hv
        · simp only [List.mem_singleton] at hv
          subst hv
          rw [hu]; exact hgp
  · -- all parts are there
    have hpn : (partsOf L0 t.f.g)[t.f.res.length]? = none := List.getElem?_eq_none (by omega)
    have hstep : nstep L0 ⟨L, D, t.f :: (T0.map FrRep.f).reverse⟩ = ⟨(finF L0 L t.f).1, D ++ [(t.f.g, (finF L0 L t.f).2)], (T0.map FrRep.f).reverse⟩ := by unfold nstep; simp only [hpn]
    rw [hstep] at hit'
    have h3 : (nodeAt L0 t.f.g.1).kind = 3 → t.f.res ≠ [] := by
      intro hk e
      have h1 : (partsOf L0 t.f.g).length = 1 := by
        unfold partsOf
        rw [List.length_map]
        rw [nodeAt_eq hnode] at hk ⊢
        exact (hok _ _ hnode).not1 hk
      rw [e, h1] at hge
      exact hge (by decide)
    have hfl := finF_lt (L0 := L0) h5.wf (f := t.f) (by omega) hres0 h3
    obtain ⟨ex2, hex2, hexl2⟩ := finF_ext L0 L t.f
    refine (finish_ok h5 (by omega) hfr (by omega) hres0 (by omega) h3).mono ?_
    rintro e w6 ⟨rfl, d6, h6, hm6, hfp6⟩
    refine ⟨_, rfl, Br_false (by rw [decide_eq_false_iff_not]; omega) ?_⟩
    have hfr6 : FrM L0 w6 t := hfr.keep hm6 fun x hx => (hsep x hx).2.2.2
    refine ⟨t.f.g.1, t.f.g.2, by rw [add_zero']; exact hfr6.blk.cellsFrom 0 _ 0 (fun j v hj => by
      have hj2 : j < 2 := by have := (List.getElem?_eq_some_iff.1 hj).1; simpa using this
      match j, hj2 with
      | 0, _ => exact hj
      | 1, _ => exact hj), ?_⟩
    have hmap6 : MapM gV w6 r (encD D) := hmap5.keep hm6 hnr
    obtain ⟨w7, hup, hmap7, hm7⟩ := update_okW key_goal hmap6 t.f.g (.int .i64 ((finF L0 L t.f).2 : Nat))
    have hgn : getG D t.f.g = none := hund t htm
    rw [putM_none _ (by rw [getM_encD, hgn]; rfl)] at hmap7
    have hmap7' : MapM gV w7 r (encD (D ++ [(t.f.g, (finF L0 L t.f).2)])) := by unfold encD at hmap7 ⊢; rw [List.map_append]; exact hmap7
    refine ⟨w7, hup, ⟨by omega, by omega⟩, ?_⟩
    rw [Int.toNat_natCast, Nat.sub_zero, Nat.sub_zero, sliceA_zero]
    have hs6 := hm6.size
    have hm7' : Mod (· = r) w6 w7 := hm7
    have hs7 := hm7.size
    have hm57 : Mod (fun x => di.fp x ∨ x = r) w5 w7 := (hm6.mono fun x _ hx => .inl hx).then (hm7'.mono fun x _ e => .inr e)
    have hd6 : ∀ x, d6.fp x → di.fp x ∨ w5.heap.size ≤ x := hfp6
    refine hJ _ _ _ _ _ ⟨m', by omega, (finF L0 L t.f).1, D ++ [(t.f.g, (finF L0 L t.f).2)], T0, ps', cs', d6, rfl, hit', h6.keep hm7' fun x hx e => ?_, ⟨?_, ?_, ?_, (List.pairwise_append.1 hst.pair).1, ?_⟩, hmap7', fun hd => ?_, fun x hx => ?_, ?_, ⟨ex ++ ex2, by rw [hex2, hex, List.append_assoc]⟩, ?_, ?_, ?_, ?_⟩
    · have e' : x = r := e
      subst e'
      rcases hd6 x hx with h' | h'
      · exact hnr h'
      · have := hmap5.lt; omega
    · have hsh : Own w5 83 1 ps' T0.length cs' (T0.map FrRep.ptr) := by
        have h1 := hst.own
        rw [List.map_append] at h1
        have h2 := h1.shrink
        rw [List.length_map] at h2
        exact h2
      exact hsh.keep hm57 fun x hx h' => by
        rcases h' with h' | h'
        · exact (hst.st x hx).2.2 h'
        · exact (hst.st x hx).2.1 h'
    · intro u hu
      have hsu := hst.sep u (List.mem_append_left _ hu)
      exact (hst.fr u (List.mem_append_left _ hu)).keep hm57 fun x hx h' => by
        rcases h' with h' | h'
        · exact (hsu x hx).2.2.2 h'
        · exact (hsu x hx).2.1 h'
    · intro u hu x hx
      obtain ⟨s1, s2, s3, s4⟩ := hst.sep u (List.mem_append_left _ hu) x hx
      refine ⟨s1, s2, s3, fun hd => ?_⟩
      rcases hd6 x hd with h' | h'
      · exact s4 h'
      · have := (hst.fr u (List.mem_append_left _ hu)).lt x hx; omega
    · intro x hp
      obtain ⟨s1, s2, s3⟩ := hst.st x hp
      refine ⟨s1, s2, fun hd => ?_⟩
      rcases hd6 x hd with h' | h'
      · exact s3 h'
      · have := hst.own.lt x hp; omega
    · rcases hd6 r hd with h' | h'
      · exact hnr h'
      · have := hmap5.lt; omega
    · rcases hd6 x hx with h' | h'
      · exact hfp5 x h'
      · exact .inr (by omega)
    · refine hm5.trans hm57 (fun _ h => h) fun x hx h' => ?_
      rcases h' with h' | h'
      · rcases hfp5 x h' with h'' | h''
        · exact h''
        · omega
      · omega
    · intro p hp
      rcases List.mem_append.1 hp with hp | hp
      · have := hD5 p hp
        rw [hex2, List.length_append]; omega
      · simp only [List.mem_singleton] at hp
        subst hp; exact hfl
    · intro u hu
      obtain ⟨v1, v2, v3⟩ := hV5 u (List.mem_append_left _ hu)
      refine ⟨v1, fun x hx => ?_, v3⟩
      have := v2 x hx
      rw [hex2, List.length_append]; omega
    · rw [List.map_append, List.pairwise_append] at hdec
      exact hdec.1
    · intro u hu
      rw [List.map_append, List.pairwise_append] at hdec
      have hgt := hdec.2.2 _ (List.mem_map.2 ⟨u, hu, rfl⟩) t.f.g.1 (by simp)
      rw [getG_snoc, hund u (List.mem_append_left _ hu)]
      have : ¬ u.f.g = t.f.g := fun e => by rw [e] at hgt; omega
      simp only [if_neg this]

end Go.Proofs.YtajfdcbknghipaaGreatDoor
end

section
/- The fixed calls of the sanity check of layer 23, as functions. Plain Lean. -/
namespace Go.Fm
def Q0 : List Nd := [⟨0, 0, 0, []⟩, ⟨1, 0, 0, []⟩]
def Q1 : List Nd := [⟨0, 0, 0, []⟩, ⟨1, 0, 0, []⟩, ⟨2, 0, 0, []⟩]
def Q2 : List Nd := [⟨0, 0, 0, []⟩, ⟨1, 0, 0, []⟩, ⟨2, 0, 0, []⟩, ⟨2, 1, 0, []⟩]
def Q3 : List Nd := [⟨0, 0, 0, []⟩, ⟨1, 0, 0, []⟩, ⟨2, 0, 0, []⟩, ⟨2, 1, 0, []⟩, ⟨3, 0, 0, [3]⟩]
def Q4 : List Nd := [⟨0, 0, 0, []⟩, ⟨1, 0, 0, []⟩, ⟨2, 0, 0, []⟩, ⟨2, 1, 0, []⟩, ⟨3, 0, 0, [3]⟩, ⟨4, 0, 0, [2, 4]⟩]
def Q5 : List Nd := [⟨0, 0, 0, []⟩, ⟨1, 0, 0, []⟩, ⟨2, 0, 0, []⟩, ⟨2, 1, 0, []⟩, ⟨3, 0, 0, [3]⟩, ⟨4, 0, 0, [2, 4]⟩, ⟨3, 0, 0, [5]⟩]
def Q7 : List Nd := [⟨0, 0, 0, []⟩, ⟨1, 0, 0, []⟩, ⟨2, 0, 0, []⟩, ⟨2, 1, 0, []⟩, ⟨3, 0, 0, [3]⟩, ⟨4, 0, 0, [2, 4]⟩, ⟨3, 0, 0, [5]⟩, ⟨3, 0, 0, [2]⟩, ⟨5, 0, 0, [3, 7]⟩]
theorem q1 : mk Q0 ⟨2, 0, 0, []⟩ = (Q1, 2) := by decide
theorem q2 : mk Q1 ⟨2, 1, 0, []⟩ = (Q2, 3) := by decide
theorem q3 : nt Q2 3 = (Q3, 4) := by decide
theorem q4 : comb Q3 4 [2, 4] = (Q4, 5) := by decide
theorem q5 : nt Q4 5 = (Q5, 6) := by decide
theorem q6 : (nn Q5 7 Q5 [] (6, false)).1 = Q7 ∧ getG (nn Q5 7 Q5 [] (6, false)).2 (6, false) = some 8 := by decide
theorem q7 : condF Q7 5 0 0 = (Q7, 4) := by decide
theorem q8 : nt Q7 3 = (Q7, 4) := by decide
theorem q9 : condF Q7 5 1 0 = (Q7, 0) := by decide
theorem q10 : nt Q7 2 = (Q7, 7) := by decide
theorem q11 : comb Q7 5 [7, 3] = (Q7, 8) := by decide
theorem q12 : coneL Q7 5 = [2, 3, 4, 5] := by decide
theorem q13 : lv Q7 2 = 1 ∧ lv Q7 3 = 1 ∧ lv Q7 4 = 1 ∧ lv Q7 5 = 2 := by decide
end Go.Fm
end
