/- The law TransformCondition of the package credencelaw23 answers true at every input and leaves its arguments as they were (Rows.TransformConditionCardSaid); no condition beyond the card's own: the three listed tables stand as the program's text lays them. Part 2 of 25. -/
import Derived.Laws.Alloc2
import Derived.Test.YtajfdcbknghipaaGreatDoorW01

section
/- The quiet operations of the symbolic walk, one by one. No condition. -/
namespace Go.Sh
open Go

variable {P : Program}

/-- The operation yields what the walk goes on with. -/
def Qok (P : Program) (o : Oper) (ρ : Operand → Value) (W w0 : World) (K : QK) : Prop :=
  ∃ e ag, K e ag ∧ (execOp ρ o).run P W = .ok (.value (e.toV w0)) W ∧ (W.heap.size = w0.heap.size → ag.at_ W) ∧ ∀ W', ag.at_ W' → (execOp ρ o).run P W' = .ok (.value (e.toV w0)) W'

theorem Qok.mk {o : Oper} {ρ : Operand → Value} {W w0 : World} {K : QK} {e : EV} (hK : K e always) (h : ∀ W, (execOp ρ o).run P W = .ok (.value (e.toV w0)) W) : Qok P o ρ W w0 K :=
  ⟨e, .pure, hK, h W, fun _ => trivial, fun W' _ => h W'⟩

/-- From the value computed to the operation. -/
theorem run_v {s : Sem Value} {v : Value} {W : World} (h : s.run P W = .ok v W) : (do let r ← s; pure (Next.value r) : Sem Next).run P W = .ok (.value v) W := by
  simp only [Sem.run_bind, h, Result.andThen_ok, Sem.run_pure]

theorem Qok.run {o : Oper} {ρ : Operand → Value} {W w0 : World} {K : QK} {s : Sem Value} {p : Pat} (ho : execOp ρ o = (do let r ← s; pure (Next.value r) : Sem Next)) (h : RunQ P s p W (fun v ag => K (.val v) ag)) : Qok P o ρ W w0 K := by
  obtain ⟨v, hv, hK⟩ := exP_elim h
  exact ⟨.val v, _, hK, by rw [ho]; exact run_v hv, fun _ => hv, fun W' h' => by rw [ho]; exact run_v h'⟩

theorem nil_ok {o : Oper} {ρ : Operand → Value} {W w0 : World} {K : QK} {x : Operand} {e : EV} (ho : o.op = .nilCheck x) (hx : ρ x = e.toV w0) (h : nilQ e K) : Qok P o ρ W w0 K := by
  unfold nilQ at h
  split at h
  · refine Qok.mk h fun W => ?_
    unfold execOp; simp only [ho, hx, EV.toV, Sem.run_pure]
  · obtain ⟨a, rfl, hK⟩ := optP_elim h
    refine Qok.mk hK fun W => ?_
    unfold execOp; simp only [ho, hx, EV.toV, Sem.run_pure]
  · refine Qok.mk h fun W => ?_
    unfold execOp; simp only [ho, hx, EV.toV, Sem.run_pure]
  · refine Qok.mk h fun W => ?_
    unfold execOp; simp only [ho, hx, EV.toV, Sem.run_pure]
  · exact h.elim

theorem run_sureAddr (a : Addr) (W : World) : (Instr.sureAddr (.pointer (some a))).run P W = .ok a W := rfl

theorem run_fieldAt {s : TypeId} {f : Nat} {fs : Array Field} {fd : Field} {ti : TypeInfo} (hs : P.underlying s = some (.struct fs)) (hf : fs[f]? = some fd) (ht : P.info? fd.type = some ti) (hz : ti.size ≠ 0) (a : Addr) (W : World) :
    (Instr.fieldAt s (.pointer (some a)) f).run P W = .ok (.pointer (some (a.add fd.offset))) W := by
  unfold Instr.fieldAt fieldPlace
  simp only [Sem.run_bind, run_underlying hs, Result.andThen_ok, hf, run_sureAddr, run_sizeOf' ht, hz, if_false, Sem.run_pure]

theorem own_add (b off k : Nat) : (⟨b, off, none⟩ : Addr).add k = ⟨b, off + k, none⟩ := by
  unfold Addr.add
  by_cases h : k = 0
  · subst h; simp
  · simp [h]

theorem field_ok {o : Oper} {ρ : Operand → Value} {W w0 : World} {K : QK} {x : Operand} {e : EV} {s : TypeId} {f : Nat} (ho : o.op = .fieldAddr s x f) (hx : ρ x = e.toV w0) (h : fieldQ P s f e K) : Qok P o ρ W w0 K := by
  unfold fieldQ at h
  split at h
  · exact h.elim
  rename_i fd hfd
  unfold fieldOf at hfd
  split at hfd
  case h_2 => cases hfd
  rename_i fs hs
  split at h
  · exact h.elim
  rename_i ti hti
  split at h
  · exact h.elim
  rename_i m hm
  split at h
  · refine Qok.mk h fun W => ?_
    unfold execOp
    simp only [ho, hx, EV.toV]
    refine run_v ?_
    rw [run_fieldAt hs hfd hti (by omega), own_add]
  · obtain ⟨a, rfl, hK⟩ := optP_elim h
    refine Qok.mk hK fun W => ?_
    unfold execOp
    simp only [ho, hx, EV.toV]
    exact run_v (run_fieldAt hs hfd hti (by omega) a W)
  · exact h.elim

theorem info_of_map {e : TypeId} {b : Option Nat} {sz : Nat} {c : Option Nat} (h : (P.info? e).map (fun i => (c, i.size)) = some (b, sz)) : ∃ i, P.info? e = some i ∧ i.size = sz ∧ c = b := by
  cases hi : P.info? e with
  | none => simp [hi] at h
  | some i => simp [hi] at h; exact ⟨i, rfl, h.2, h.1⟩

theorem index_ok {o : Oper} {ρ : Operand → Value} {W w0 : World} {K : QK} {x i : Operand} {e j : EV} {t : TypeId} (ho : o.op = .indexAddr t x i) (hx : ρ x = e.toV w0) (hi : ρ i = j.toV w0) (h : indexQ P t e j K) : Qok P o ρ W w0 K := by
  unfold indexQ at h
  split at h
  · rename_i sz p len c kk k he
    obtain ⟨a, rfl, hb, hK⟩ := optP_elim h
    unfold elemOf at he
    split at he
    · rename_i el hu
      obtain ⟨ti, hti, rfl, _⟩ := info_of_map he
      refine Qok.mk hK fun W => ?_
      unfold execOp
      simp only [ho, hx, hi, EV.toV]
      refine run_v ?_
      unfold Instr.indexAt
      simp only [asIntOf, Sem.run_bind, Sem.run_pure, run_underlying hu, Result.andThen_ok, hb, and_self, if_true, run_sizeOf' hti]
    · rename_i nn el hu
      obtain ⟨ti, hti, rfl, hc⟩ := info_of_map he
      cases hc
    · cases he
  · rename_i len sz oi off kk k he
    obtain ⟨hb, hK⟩ := h
    unfold elemOf at he
    split at he
    · rename_i el hu
      obtain ⟨ti, hti, rfl, hc⟩ := info_of_map he
      cases hc
    · rename_i nn el hu
      obtain ⟨ti, hti, rfl, hc⟩ := info_of_map he
      injection hc with hc
      subst hc
      refine Qok.mk hK fun W => ?_
      unfold execOp
      simp only [ho, hx, hi, EV.toV]
      refine run_v ?_
      unfold Instr.indexAt
      simp only [asIntOf, Sem.run_bind, Sem.run_pure, run_underlying hu, run_sureAddr, Result.andThen_ok, hb, and_self, if_true, run_sizeOf' hti, own_add]
    · cases he
  · rename_i len sz p kk k he
    obtain ⟨a, rfl, hb, hK⟩ := optP_elim h
    unfold elemOf at he
    split at he
    · rename_i el hu
      obtain ⟨ti, hti, rfl, hc⟩ := info_of_map he
      cases hc
    · rename_i nn el hu
      obtain ⟨ti, hti, rfl, hc⟩ := info_of_map he
      injection hc with hc
      subst hc
      refine Qok.mk hK fun W => ?_
      unfold execOp
      simp only [ho, hx, hi, EV.toV]
      refine run_v ?_
      unfold Instr.indexAt
      simp only [asIntOf, Sem.run_bind, Sem.run_pure, run_underlying hu, run_sureAddr, Result.andThen_ok, hb, and_self, if_true, run_sizeOf' hti]
    · cases he
  · exact h.elim

theorem nthV_eq : ∀ (l : List Value) (i : Nat), nthV l i = l[i]?
  | [], _ => by simp [nthV]
  | _ :: _, 0 => by simp [nthV]
  | _ :: l, i + 1 => by simp [nthV, nthV_eq l i]
theorem nthOB_lt : ∀ (l : List OB) (i : Nat) (o : OB), nthOB l i = some o → i < l.length
  | [], _, _, h => by simp [nthOB] at h
  | _ :: _, 0, _, _ => by simp
  | _ :: l, i + 1, o, h => by simp; exact nthOB_lt l i o h

theorem own_cell {w0 : World} {os : List OB} {i : Nat} {l : List Value} {et : TypeId} (ho : nthOB os i = some (.cells l et)) (k : Nat) : (ext w0 os).cell? ⟨w0.heap.size + i, k, none⟩ = l[k]? := by
  unfold World.cell?
  rw [ext_new w0 os i _ ho]
  simp [OB.toObj]

theorem takeV_cells {w0 : World} {os : List OB} {i : Nat} {l : List Value} {et : TypeId} (ho : nthOB os i = some (.cells l et)) (off : Nat) :
    ∀ (m k : Nat) (vs : List Value), takeV l (off + k) m = some vs → CellsAre (ext w0 os) ⟨w0.heap.size + i, off, none⟩ k vs ∧ vs.length = m
  | 0, _, vs, h => by
    simp only [takeV, Option.some.injEq] at h; subst h; exact ⟨trivial, rfl⟩
  | m + 1, k, vs, h => by
    unfold takeV at h
    split at h
    · cases h
    rename_i v hv
    split at h
    · cases h
    rename_i vs' hvs
    simp only [Option.some.injEq] at h
    subst h
    obtain ⟨h1, h2⟩ := takeV_cells ho off m (k + 1) vs' (by rw [← hvs]; congr 1)
    refine ⟨⟨?_, h1⟩, by simp [h2]⟩
    rw [own_add, own_cell ho, ← nthV_eq]
    exact hv

theorem load_ok {st : St} {o : Oper} {ρ : Operand → Value} {K : QK} {x : Operand} {e : EV} {t : TypeId} (ho : o.op = .load t x) (hx : ρ x = e.toV st.w) (h : loadQ P st t e K) : Qok P o ρ (ext st.w st.own) st.w K := by
  have hex : ∀ W v, ρ x = .pointer (some v) → ∀ r, (loadVar t v).run P W = .ok r W → (execOp ρ o).run P W = .ok (.value r) W := by
    intro W v hv r hr
    unfold execOp
    simp only [ho, hv]
    refine run_v ?_
    unfold Instr.loadAt
    simp only [Sem.run_bind, run_sureAddr, Result.andThen_ok, hr]
  unfold loadQ at h
  split at h
  · exact h.elim
  rename_i d hd
  split at h
  · rename_i hagg
    have hlv : ∀ W (p : Addr) v, W.cell? p = some v → (loadVar t p).run P W = .ok v W := by
      intro W p v hc
      unfold loadVar
      simp only [Sem.run_bind, run_isAgg_false hd hagg, Result.andThen_ok, Bool.false_eq_true, if_false, run_load, hc]
    split at h
    · rename_i i off
      split at h
      · exact h.elim
      rename_i l hl
      split at h
      · exact h.elim
      rename_i v hv
      unfold ownCells at hl
      split at hl
      case h_2 => cases hl
      rename_i l' et hob
      injection hl with hl
      subst hl
      refine ⟨.val v, never, h, ?_, fun hs => by have := nthOB_lt _ _ _ hob; rw [ext_size] at hs; omega, fun _ h => h.elim⟩
      exact hex _ _ hx _ (hlv _ _ _ (by rw [own_cell hob, ← nthV_eq]; exact hv))
    · rename_i p
      obtain ⟨ad, rfl, hk⟩ := optP_elim h
      obtain ⟨v, hv, hK⟩ := exK_elim hk
      refine ⟨.val v, _, hK, hex _ _ hx _ (hlv _ _ _ (ext_cell _ hv)), fun _ => ext_cell _ hv, fun W' h' => hex _ _ hx _ (hlv _ _ _ h')⟩
    · exact h.elim
  · rename_i hagg
    split at h
    · exact h.elim
    rename_i ti hti
    have hlv : ∀ W (p : Addr) vs, vs.length = ti.size → CellsAre W p 0 vs → (loadVar t p).run P W = .ok (.agg vs.toArray) W := by
      intro W p vs hl hc
      unfold loadVar
      simp only [Sem.run_bind, run_isAgg_true hagg, Result.andThen_ok, if_true, run_sizeOf' hti, ← hl, run_loadCells hc, Sem.run_pure]
    split at h
    · rename_i i off
      split at h
      · exact h.elim
      rename_i l hl
      split at h
      · exact h.elim
      rename_i vs hvs
      unfold ownCells at hl
      split at hl
      case h_2 => cases hl
      rename_i l' et hob
      injection hl with hl
      subst hl
      obtain ⟨h1, h2⟩ := takeV_cells (w0 := st.w) hob off ti.size 0 vs (by simpa using hvs)
      refine ⟨.val (.agg vs.toArray), never, h, ?_, fun hs => by have := nthOB_lt _ _ _ hob; rw [ext_size] at hs; omega, fun _ h => h.elim⟩
      exact hex _ _ hx _ (hlv _ _ _ h2 h1)
    · rename_i p
      obtain ⟨ad, rfl, hk⟩ := optP_elim h
      obtain ⟨vs, hk⟩ := exKs_elim hk
      split at hk
      · rename_i hlen
        obtain ⟨hc, hK⟩ := hk
        have hl : vs.length = ti.size := by rw [← len?_eq]; exact Nat.eq_of_beq_eq_true hlen
        refine ⟨.val (.agg vs.toArray), _, hK, hex _ _ hx _ (hlv _ _ _ hl (hc.ext _)), fun _ => hc.ext _, fun W' h' => hex _ _ hx _ (hlv _ _ _ hl h')⟩
      · exact hk.elim
    · exact h.elim

theorem intBin_ok {op : BinOp} {k : IntKind} {x y : Int} {K : Value → Prop} (h : intBin op k x y K) (t : TypeId) (k' : IntKind) (hk : isShift op = true ∨ k = k') : ∃ v, K v ∧ ∀ W, (binOp op t (.int k x) (.int k' y)).run P W = .ok v W := by
  cases op <;> simp only [intBin] at h
  case shl =>
    refine ⟨_, h.2, fun W => ?_⟩
    simp only [binOp, Op.shift, shlV, Int.not_lt.2 h.1, if_false, Sem.run_pure]
  case shr =>
    refine ⟨_, h.2, fun W => ?_⟩
    simp only [binOp, Op.shift, shrV, Int.not_lt.2 h.1, if_false, Sem.run_pure]
  all_goals
    have hkk : k = k' := by
      rcases hk with hk | hk
      · cases hk
      · exact hk
    subst hkk
  case quo =>
    refine ⟨_, h.2, fun W => ?_⟩
    simp only [binOp, Op.intDiv, h.1, ne_eq, not_true_eq_false, if_false, Sem.run_pure]
  case rem =>
    refine ⟨_, h.2, fun W => ?_⟩
    simp only [binOp, Op.intDiv, h.1, ne_eq, not_true_eq_false, if_false, Sem.run_pure]
  all_goals
    refine ⟨_, h, fun W => ?_⟩
    simp only [binOp, Op.intArith, Op.intBits, Op.intCmp, bitsV, ne_eq, not_true_eq_false, if_false, Sem.run_pure]

theorem kindEq_eq {k k' : IntKind} (h : kindEq k k' = true) : k = k' := by cases k <;> cases k' <;> first | rfl | cases h

theorem bin_ok {o : Oper} {ρ : Operand → Value} {W w0 : World} {K : QK} {op : BinOp} {t ty : TypeId} {x y : Operand} (ho : o.op = .binOp op t x y ty) (h : binQ P W op t x y (ρ x) (ρ y) o.type K) : Qok P o ρ W w0 K := by
  have hex : ∀ v W, (do eqGuard op t x y (ρ x) (ρ y); binOp op t (ρ x) (ρ y) : Sem Value).run P W = .ok v W → (execOp ρ o).run P W = .ok (.value v) W := by
    intro v W hv
    unfold execOp
    simp only [ho]
    exact run_v hv
  unfold binQ at h
  split at h
  · rename_i k m k' n hx hy
    have hor : isShift op = true ∨ k = k' := by
      cases hs : isShift op
      · cases hk : kindEq k k'
        · simp only [hs, hk, Bool.or_self, cond_false] at h
        · exact .inr (kindEq_eq hk)
      · exact .inl rfl
    have h' : intBin op k m n (fun v => K (.val v) always) := by
      cases hc : (isShift op || kindEq k k')
      · rw [hc] at h; exact h.elim
      · rw [hc] at h; exact h
    obtain ⟨v, hK, hr⟩ := intBin_ok (P := P) h' t k' hor
    refine Qok.mk (e := .val v) hK fun W => hex v W ?_
    rw [hx, hy]
    have hg : (eqGuard op t x y (.int k m) (.int k' n)).run P W = .ok () W := by
      unfold eqGuard
      cases op <;> simp only [Bool.not_true, Bool.not_false, Bool.false_eq_true, if_false, if_true, Sem.run_pure]
    simp only [Sem.run_bind, hg, Result.andThen_ok, hr]
  · rename_i p q hx hy
    cases hb : isBoolDesc (P.underlying t)
    · rw [hb] at h; exact h.elim
    rw [hb] at h
    simp only [cond_true] at h
    have hu : P.underlying t = some .bool := by
      unfold isBoolDesc at hb
      split at hb
      · assumption
      · cases hb
    have hg : ∀ W, (eqGuard op t x y (.bool p) (.bool q)).run P W = .ok () W := by
      intro W
      unfold eqGuard
      cases op <;> simp only [Bool.not_true, Bool.not_false, Bool.false_eq_true, if_false, if_true, Sem.run_pure]
    have he : ∀ W, (Op.equal t (.bool p) (.bool q)).run P W = .ok (p == q) W := by
      intro W
      unfold Op.equal Op.maxDepth Op.equalIn
      simp only [Sem.run_bind, run_underlying hu, Result.andThen_ok, Sem.run_pure]
    split at h
    · refine Qok.mk (e := .val _) h fun W => hex _ W ?_
      rw [hx, hy]
      simp only [Sem.run_bind, hg, Result.andThen_ok, binOp, he, Sem.run_pure, EV.toV]
    · refine Qok.mk (e := .val _) h fun W => hex _ W ?_
      rw [hx, hy]
      simp only [Sem.run_bind, hg, Result.andThen_ok, binOp, he, Sem.run_pure, EV.toV]
    · exact h.elim
  · rename_i p hx hy
    cases hb : isPtrDesc (P.underlying t)
    · rw [hb] at h; exact h.elim
    rw [hb] at h
    simp only [cond_true] at h
    have hu : ∃ el, P.underlying t = some (.pointer el) := by
      unfold isPtrDesc at hb
      split at hb
      · exact ⟨_, by assumption⟩
      · cases hb
    obtain ⟨el, hu⟩ := hu
    have hg : ∀ W, (eqGuard op t x y (.pointer p) (.pointer none)).run P W = .ok () W := by
      intro W
      unfold eqGuard
      cases op <;> simp only [Bool.not_true, Bool.not_false, Bool.false_eq_true, if_false, if_true, Sem.run_pure]
    have he : ∀ W, (Op.equal t (.pointer p) (.pointer none)).run P W = .ok p.isNone W := by
      intro W
      unfold Op.equal Op.maxDepth Op.equalIn
      simp only [Sem.run_bind, run_underlying hu, Result.andThen_ok, Sem.run_pure]
      cases p <;> rfl
    split at h
    · refine Qok.mk (e := .val _) h fun W => hex _ W ?_
      rw [hx, hy]
      simp only [Sem.run_bind, hg, Result.andThen_ok, binOp, he, Sem.run_pure, EV.toV]
    · refine Qok.mk (e := .val _) h fun W => hex _ W ?_
      rw [hx, hy]
      simp only [Sem.run_bind, hg, Result.andThen_ok, binOp, he, Sem.run_pure, EV.toV]
    · exact h.elim
  · rename_i p n c hx hy
    cases hb : isSlDesc (P.underlying t)
    · rw [hb] at h; exact h.elim
    rw [hb] at h
    simp only [cond_true] at h
    have hu : ∃ el, P.underlying t = some (.slice el) := by
      unfold isSlDesc at hb
      split at hb
      · exact ⟨_, by assumption⟩
      · cases hb
    obtain ⟨el, hu⟩ := hu
    have hg : ∀ W, (eqGuard op t x y (.slice p n c) (.slice none 0 0)).run P W = .ok () W := by
      intro W
      unfold eqGuard
      cases op <;> simp only [Bool.not_true, Bool.not_false, Bool.false_eq_true, if_false, if_true, Sem.run_pure]
    have he : ∀ W, (Op.equal t (.slice p n c) (.slice none 0 0)).run P W = .ok p.isNone W := by
      intro W
      unfold Op.equal Op.maxDepth Op.equalIn
      simp only [Sem.run_bind, run_underlying hu, Result.andThen_ok, Sem.run_pure]
      cases p <;> rfl
    split at h
    · refine Qok.mk (e := .val _) h fun W => hex _ W ?_
      rw [hx, hy]
      simp only [Sem.run_bind, hg, Result.andThen_ok, binOp, he, Sem.run_pure, EV.toV]
    · refine Qok.mk (e := .val _) h fun W => hex _ W ?_
      rw [hx, hy]
      simp only [Sem.run_bind, hg, Result.andThen_ok, binOp, he, Sem.run_pure, EV.toV]
    · exact h.elim
  · exact Qok.run (by unfold execOp binRun; simp only [ho]) h

theorem un_ok {o : Oper} {ρ : Operand → Value} {W w0 : World} {K : QK} {op : UnOp} {t : TypeId} {x : Operand} (ho : o.op = .unOp op t x) (h : unQ op (ρ x) K) : Qok P o ρ W w0 K := by
  unfold unQ at h
  split at h
  · rename_i b hx
    refine Qok.mk (e := .val _) h fun W => ?_
    unfold execOp; simp only [ho, hx]
    exact run_v rfl
  · rename_i k m hx
    refine Qok.mk (e := .val _) h fun W => ?_
    unfold execOp; simp only [ho, hx]
    exact run_v rfl
  · rename_i k m hx
    refine Qok.mk (e := .val _) h fun W => ?_
    unfold execOp; simp only [ho, hx]
    exact run_v rfl
  · exact h.elim

theorem conv_ok {o : Oper} {ρ : Operand → Value} {W w0 : World} {K : QK} {s d : TypeId} {x : Operand} (ho : o.op = .convert s d x) (hs : ∃ e, P.underlying s = some e) (h : convQ P d (ρ x) K) : Qok P o ρ W w0 K := by
  obtain ⟨sd, hs⟩ := hs
  unfold convQ at h
  split at h
  · rename_i k kk m hd hx
    refine Qok.mk (e := .val _) h fun W => ?_
    unfold execOp; simp only [ho]
    refine run_v ?_
    unfold convert
    simp only [Sem.run_bind, run_underlying hs, run_underlying hd, Result.andThen_ok, hx, Conv.intToInt, Sem.run_pure, EV.toV]
  · exact h.elim

theorem run_sliceBound {y : Nat} {k : IntKind} {i : Int} (c : BoundsCode) (h : 0 ≤ i ∧ i ≤ y) (W : World) : (Instr.sliceBound (.int k i) y c).run P W = .ok i.toNat W := by
  unfold Instr.sliceBound
  simp only [asIntOf, Sem.run_bind, Sem.run_pure, Result.andThen_ok, h, and_self, if_true]

theorem run_bounds {lo hi mx : Option Value} {len cap : Nat} {K : Nat → Nat → Nat → Prop} (h : boundsL lo hi mx len cap K) : ∃ l hh m, K l hh m ∧ ∀ W, (Instr.sliceBounds true len cap lo hi mx).run P W = .ok (l, hh, m) W := by
  unfold boundsL at h
  split at h
  · split at h
    · rename_i k m _ _ k' hh
      refine ⟨_, _, _, h.2.2, fun W => ?_⟩
      unfold Instr.sliceBounds
      simp only [Sem.run_bind, Sem.run_pure, Result.andThen_ok, run_sliceBound _ h.1, run_sliceBound _ h.2.1]
    · rename_i k m _ _ k' hh k'' l
      refine ⟨_, _, _, h.2.2.2, fun W => ?_⟩
      unfold Instr.sliceBounds
      simp only [Sem.run_bind, Sem.run_pure, Result.andThen_ok, run_sliceBound _ h.1, run_sliceBound _ h.2.1, run_sliceBound _ h.2.2.1]
    · exact h.elim
  · exact h.elim
  split at h
  · refine ⟨_, _, _, h, fun W => ?_⟩
    unfold Instr.sliceBounds
    simp only [Sem.run_bind, Sem.run_pure, Result.andThen_ok]
  · rename_i k l
    refine ⟨_, _, _, h.2, fun W => ?_⟩
    unfold Instr.sliceBounds
    simp only [Sem.run_bind, Sem.run_pure, Result.andThen_ok, run_sliceBound _ h.1]
  · rename_i k hh
    refine ⟨_, _, _, h.2, fun W => ?_⟩
    unfold Instr.sliceBounds
    simp only [Sem.run_bind, Sem.run_pure, Result.andThen_ok, run_sliceBound _ h.1]
  · rename_i k hh k' l
    refine ⟨_, _, _, h.2.2, fun W => ?_⟩
    unfold Instr.sliceBounds
    simp only [Sem.run_bind, Sem.run_pure, Result.andThen_ok, run_sliceBound _ h.1, run_sliceBound _ h.2.1]
  · exact h.elim

theorem slice_ok {o : Oper} {ρ : Operand → Value} {W w0 : World} {K : QK} {t : TypeId} {x : Operand} {lo hi mx : Option Operand} (ho : o.op = .slice t x lo hi mx) (h : sliceQ P W t (ρ x) (lo.map ρ) (hi.map ρ) (mx.map ρ) K) : Qok P o ρ W w0 K := by
  unfold sliceQ at h
  split at h
  · rename_i e p len cap hu hx
    split at h
    · exact h.elim
    rename_i ti hti
    obtain ⟨l, hh, m, hK, hr⟩ := run_bounds (P := P) h
    refine Qok.mk (e := .val _) hK fun W => ?_
    unfold execOp; simp only [ho]
    refine run_v ?_
    unfold Instr.sliceAt Instr.slice
    simp only [Sem.run_bind, run_underlying hu, Result.andThen_ok, hx, hr, run_sizeOf' hti, Sem.run_pure, sliceA, EV.toV]
  · exact Qok.run (by unfold execOp; simp only [ho]) h

theorem run_zeroValue {t : TypeId} {ti : TypeInfo} {z : Value} (h : P.info? t = some ti) (hz : ti.zero = some z) (W : World) : (zeroValue t).run P W = .ok z W := by
  unfold zeroValue
  simp only [Sem.run_bind, run_typeInfo h, Result.andThen_ok, hz, Sem.run_pure]

theorem run_sizeOf_cells {t : TypeId} {ti : TypeInfo} (h : P.info? t = some ti) (W : World) : (sizeOf t).run P W = .ok (P.cellsOf t) W := by
  rw [run_sizeOf' h, Program.cellsOf, h]; rfl

theorem run_mapM_places : ∀ (fs : List Field) (W : World), (fs.all fun f => (P.info? f.type).isSome) = true →
    (fs.mapM (fun f => do pure (f.offset, ← sizeOf f.type) : Field → Sem (Nat × Nat))).run P W = .ok (fs.map fun f => (f.offset, P.cellsOf f.type)) W
  | [], W, _ => by simp
  | f :: fs, W, h => by
    simp only [List.all_cons, Bool.and_eq_true] at h
    obtain ⟨ti, hti⟩ := Option.isSome_iff_exists.1 h.1
    simp only [List.mapM_cons, Sem.run_bind, run_sizeOf_cells hti, Result.andThen_ok, Sem.run_pure, run_mapM_places fs W h.2, List.map_cons]

theorem build_ok {o : Oper} {ρ : Operand → Value} {W w0 : World} {K : QK} {t : TypeId} {ps : Array (Nat × Operand)} (ho : o.op = .build t ps)
    (h : buildQ P t (ps.toList.map fun p => (p.1, ρ p.2)) fun cs => K (.val (.agg cs.toArray)) always) : Qok P o ρ W w0 K := by
  have hps : (ps.map fun (i, x) => (i, ρ x)).toList = ps.toList.map fun p => (p.1, ρ p.2) := by simp
  unfold buildQ at h
  split at h
  · rename_i ti fs hti hu
    split at h
    · exact h.elim
    rename_i hall
    split at h
    · exact h.elim
    rename_i z hz
    split at h
    · exact h.elim
    rename_i cs hcs
    refine Qok.mk (e := .val _) h fun W => ?_
    unfold execOp; simp only [ho]
    refine run_v ?_
    unfold Instr.build
    have hm : (fs.mapM (fun f => do pure (f.offset, ← sizeOf f.type) : Field → Sem (Nat × Nat))).run P W = .ok (fs.map fun f => (f.offset, P.cellsOf f.type)) W := by
      rw [Array.mapM_eq_mapM_toList]
      rw [Sem.run_map, run_mapM_places fs.toList W hall, Result.andThen_ok, ← Array.toList_map, Array.toArray_toList]
    simp only [Sem.run_bind, run_zeroValue hti hz, run_underlying hu, Result.andThen_ok, hm, hps, hcs, Sem.run_pure, EV.toV, Array.toArray_toList]
  · rename_i ti n e hti hu
    split at h
    · exact h.elim
    rename_i te hte
    split at h
    · exact h.elim
    rename_i z hz
    split at h
    · exact h.elim
    rename_i cs hcs
    refine Qok.mk (e := .val _) h fun W => ?_
    unfold execOp; simp only [ho]
    refine run_v ?_
    unfold Instr.build
    simp only [Sem.run_bind, run_zeroValue hti hz, run_underlying hu, Result.andThen_ok, run_sizeOf_cells hte, hps, hcs, Sem.run_pure, EV.toV, Array.toArray_toList]
  · exact h.elim

theorem len_ok {o : Oper} {ρ : Operand → Value} {W w0 : World} {K : QK} {c : Call} {x : Operand} {t : TypeId} (ho : o.op = .call c) (hc : c.callee = .builtin .len) (hx : c.args.toList = [x]) (ht : c.argTypes.toList = [t]) (h : lenQ P W t (ρ x) K) : Qok P o ρ W w0 K := by
  have hx' : c.args = #[x] := by rw [← hx]
  have ht' : c.argTypes = #[t] := by rw [← ht]
  have hex : ∀ v W ty, (Builtin.len_ #[t] ty #[ρ x]).run P W = .ok v W → o.type = ty → (execOp ρ o).run P W = .ok (.value v) W := by
    intro v W ty hv hty
    unfold execOp
    simp only [ho, resolve, hc, hx', ht', Sem.run_bind, Sem.run_pure, Result.andThen_ok, invoke, builtin, List.map_toArray, List.map_cons, List.map_nil, hty, hv]
  have hty : ∀ ty ty', Builtin.len_ #[t] ty #[ρ x] = Builtin.len_ #[t] ty' #[ρ x] := fun _ _ => rfl
  unfold lenQ at h
  split at h
  · rename_i e p m cap hu hx
    refine Qok.mk (e := .val _) h fun W => hex _ W o.type ?_ rfl
    unfold Builtin.len_
    simp [run_underlying hu, hx, goInt, EV.toV]
  · rename_i s hu hx
    refine Qok.mk (e := .val _) h fun W => hex _ W o.type ?_ rfl
    unfold Builtin.len_
    simp [run_underlying hu, hx, goInt, EV.toV]
  · rename_i m e _ _ hu
    refine Qok.mk (e := .val _) h fun W => hex _ W o.type ?_ rfl
    unfold Builtin.len_
    simp [run_underlying hu, goInt, EV.toV]
  · obtain ⟨v, hv, hK⟩ := exP_elim h
    refine ⟨.val v, _, hK, hex _ _ o.type (by rw [hty _ t]; exact hv) rfl, fun _ => hv, fun W' h' => hex _ _ o.type (by rw [hty _ t]; exact h') rfl⟩

end Go.Sh
end

section
/- The operations of the symbolic walk are carried out as the walk says. No condition. -/
namespace Go.Sh
open Go

variable {P : Program}

theorem toL {α : Type} {x : Array α} {l : List α} (h : x.toList = l) : x = l.toArray := by rw [← h]

theorem qop_ok {F : Fm} {st : St} {a : Act} {o : Oper} {K : QK} (he : EnvOK F st.w st.env a) (hq : isQuietIn P o = true) (h : qop P st o K) : Qok P o a.eval (ext st.w st.own) st.w K := by
  unfold qop at h
  split at h
  · rename_i x ho
    split at h
    · rename_i e hx
      refine Qok.mk h fun W => ?_
      unfold execOp; simp only [ho, he.op hx, Sem.run_pure]
    · exact h.elim
  · rename_i x ho
    split at h
    · rename_i e hx
      refine Qok.mk h fun W => ?_
      unfold execOp; simp only [ho, he.op hx, Sem.run_pure]
    · exact h.elim
  · rename_i c x y ho
    split at h
    · rename_i t ex ey hc hx hy
      have hc' := he.op hc
      have hx' := he.op hx
      have hy' := he.op hy
      cases t
      · refine Qok.mk (e := ey) h fun W => ?_
        unfold execOp; simp only [ho, hc', hx', hy', EV.toV, asBool, Sem.run_bind, Sem.run_pure, Result.andThen_ok, Bool.false_eq_true, if_false]
      · refine Qok.mk (e := ex) h fun W => ?_
        unfold execOp; simp only [ho, hc', hx', hy', EV.toV, asBool, Sem.run_bind, Sem.run_pure, Result.andThen_ok, if_true]
    · exact h.elim
  · rename_i x ho
    split at h
    · rename_i e hx; exact nil_ok ho (he.op hx) h
    · exact h.elim
  · rename_i s x f ho
    split at h
    · rename_i e hx; exact field_ok ho (he.op hx) h
    · exact h.elim
  · rename_i t x i ho
    split at h
    · rename_i e j hx hi; exact index_ok ho (he.op hx) (he.op hi) h
    · exact h.elim
  · rename_i t x ho
    split at h
    · rename_i e hx; exact load_ok ho (he.op hx) h
    · exact h.elim
  · rename_i op t x y ty ho
    have h1 := he.v (x := x) (K := fun v => st.v y fun b => binQ P (ext st.w st.own) op t x y v b o.type K) h
    have h2 := he.v (x := y) (K := fun b => binQ P (ext st.w st.own) op t x y (a.eval x) b o.type K) h1
    exact bin_ok ho h2
  · rename_i op t x ho
    exact un_ok ho (he.v (x := x) (K := fun v => unQ op v K) h)
  · rename_i s d x ho
    refine conv_ok ho ?_ (he.v (x := x) (K := fun v => convQ P d v K) h)
    unfold isQuietIn at hq
    simp only [ho] at hq
    split at hq
    · rename_i hs; exact ⟨_, hs⟩
    · cases hq
  · rename_i t ps ho
    exact build_ok ho (he.vi (xs := ps.toList) (K := fun vs => buildQ P t vs fun cs => K (.val (.agg cs.toArray)) always) h)
  · rename_i x i ho
    have h1 := he.v (x := x) h
    split at h1
    · rename_i vs hx
      split at h1
      · rename_i v hv
        refine Qok.mk (e := .val v) h1 fun W => ?_
        rw [nthV_eq] at hv
        have hv' : vs[i]? = some v := by simpa using hv
        unfold execOp; simp only [ho, hx]
        refine run_v ?_
        unfold Instr.extract
        simp only [hv', Sem.run_pure, EV.toV]
      · exact h1.elim
    · exact h1.elim
  · rename_i fn fs cs ho
    have h1 := he.vs (xs := fs.toList) (K := fun a => st.vs cs.toList fun b => K (.val (.func fn a.toArray b.toArray)) always) h
    have h2 := he.vs (xs := cs.toList) (K := fun b => K (.val (.func fn (fs.toList.map a.eval).toArray b.toArray)) always) h1
    refine Qok.mk (e := .val _) h2 fun W => ?_
    unfold execOp; simp only [ho]
    refine run_v ?_
    unfold Instr.makeFunc
    simp only [Sem.run_pure, EV.toV]
    congr 2
    · rw [← Array.toList_map, Array.toArray_toList]
    · rw [← Array.toList_map, Array.toArray_toList]
  · rename_i t x lo hi mx ho
    have h1 := he.v (x := x) (K := fun v => st.vo lo fun l => st.vo hi fun h => st.vo mx fun m => sliceQ P (ext st.w st.own) t v l h m K) h
    have h2 := he.vo (x := lo) (K := fun l => st.vo hi fun h => st.vo mx fun m => sliceQ P (ext st.w st.own) t (a.eval x) l h m K) h1
    have h3 := he.vo (x := hi) (K := fun h => st.vo mx fun m => sliceQ P (ext st.w st.own) t (a.eval x) (lo.map a.eval) h m K) h2
    have h4 := he.vo (x := mx) (K := fun m => sliceQ P (ext st.w st.own) t (a.eval x) (lo.map a.eval) (hi.map a.eval) m K) h3
    exact slice_ok ho h4
  · rename_i t x f ho
    exact Qok.run (by unfold execOp; simp only [ho]) (he.v (x := x) (K := fun v => RunQ P (Instr.field t v f) (.c (pcOf P o.type)) (ext st.w st.own) (fun v ag => K (.val v) ag)) h)
  · rename_i t x i ho
    have h1 := he.v (x := x) (K := fun v => st.v i fun b => RunQ P (Instr.index t v b) (.c (pcOf P o.type)) (ext st.w st.own) (fun v ag => K (.val v) ag)) h
    have h2 := he.v (x := i) (K := fun b => RunQ P (Instr.index t (a.eval x) b) (.c (pcOf P o.type)) (ext st.w st.own) (fun v ag => K (.val v) ag)) h1
    exact Qok.run (by unfold execOp; simp only [ho]) h2
  · rename_i t x i ok ho
    have h1 := he.v (x := x) h
    have h2 := he.v (x := i) h1
    exact Qok.run (by unfold execOp; simp only [ho]) h2
  · rename_i t x ho
    have h1 := he.v (x := x) h
    exact Qok.run (by unfold execOp; simp only [ho]) h1
  · rename_i x t u ok ho
    have h1 := he.v (x := x) h
    exact Qok.run (by unfold execOp; simp only [ho]) h1
  · rename_i c ho
    split at h
    · rename_i x t hc hx ht
      exact len_ok ho hc hx ht (he.v (x := x) h)
    · rename_i x t hc hx ht
      refine Qok.run ?_ (he.v (x := x) h)
      unfold execOp
      simp only [ho, resolve, hc, toL hx, toL ht, pure_bind, invoke, builtin, List.map_toArray, List.map_cons, List.map_nil]
    · rename_i hc
      refine Qok.run ?_ (he.vs (xs := c.args.toList) h)
      unfold execOp
      simp only [ho, resolve, hc, pure_bind, invoke, builtin, ← Array.toList_map, Array.toArray_toList]
    · rename_i hc
      refine Qok.run ?_ (he.vs (xs := c.args.toList) h)
      unfold execOp
      simp only [ho, resolve, hc, pure_bind, invoke, builtin, ← Array.toList_map, Array.toArray_toList]
    · exact h.elim
  · exact h.elim

end Go.Sh
end

section
/- The operations that change the world are carried out as the symbolic walk says. No condition. -/
namespace Go.Sh
open Go

variable {P : Program}

theorem look_flushEnv (w : World) (e : List (Nat × EV)) (t : Nat) : look (flushEnv w e) t = (look e t).map fun v => .val (v.toV w) := by
  induction e with
  | nil => rfl
  | cons p e ih =>
    obtain ⟨s, v⟩ := p
    simp only [flushEnv, look, ih]
    cases Nat.beq s t <;> rfl

theorem EnvOK.flush {F : Fm} {w w1 : World} {e : List (Nat × EV)} {a : Act} (h : EnvOK F w e a) : EnvOK F w1 (flushEnv w e) a where
  defers := h.defers
  size := h.size
  frame := h.frame
  get t v ht := by
    rw [look_flushEnv] at ht
    cases hl : look e t with
    | none => rw [hl] at ht; cases ht
    | some u =>
      rw [hl] at ht
      simp only [Option.map_some, Option.some.injEq] at ht
      subst ht
      exact h.get t u hl

theorem flush_elim {F : Fm} {st : St} {a : Act} {K : St → Prop} (h : flush st K) (he : EnvOK F st.w st.env a) : ∃ st', K st' ∧ (∀ w1, EnvOK F w1 st'.env a) ∧ st'.own = [] ∧ st'.w = ext st.w st.own := by
  unfold Sh.flush at h
  split at h
  · rename_i ho; exact ⟨_, h, fun _ => he.flush, rfl, by rw [ho]; rfl⟩
  · exact ⟨_, h _ rfl, fun _ => he.flush, rfl, rfl⟩

theorem cellsL_arr (v : Value) : (cellsL v).toArray = v.cells := by cases v <;> simp [cellsL, Value.cells]
theorem cellsL_list (v : Value) : v.cells.toList = cellsL v := by rw [← cellsL_arr]

/-! Stores. -/
theorem setNth_arr : ∀ (l : List Value) (k : Nat) (v : Value), (setNth l k v).toArray = l.toArray.setIfInBounds k v := by
  have h : ∀ (l : List Value) (k : Nat) (v : Value), setNth l k v = l.set k v := by
    intro l
    induction l with
    | nil => intro k v; rfl
    | cons x l ih =>
      intro k v
      cases k with
      | zero => rfl
      | succ k => simp [setNth, ih]
  intro l k v
  rw [h]; simp

theorem setCell_alloc_lt (w : World) (o : Obj) (p : Addr) (v : Value) (h : p.block < w.heap.size) : (w.alloc o).setCell p v = (w.setCell p v).alloc o := by
  unfold World.setCell
  show ({ w with heap := _ } : World) = { w with heap := _ }
  congr 1
  apply Array.ext_getElem?
  intro k
  show (Array.modify (w.heap.push o) _ _)[k]? = (Array.push (Array.modify w.heap _ _) o)[k]?
  rw [Array.getElem?_modify, Array.getElem?_push, Array.getElem?_push, Array.getElem?_modify, Array.size_modify]
  by_cases hk : k = w.heap.size
  · subst hk; simp [Nat.ne_of_lt h]
  · simp [hk]

theorem ext_setCell_old : ∀ (os : List OB) (w : World) (p : Addr) (v : Value), p.block < w.heap.size → (ext w os).setCell p v = ext (w.setCell p v) os
  | [], _, _, _, _ => rfl
  | o :: os, w, p, v, h => by
    rw [ext, ext, ext_setCell_old os (w.alloc o.toObj) p v (by rw [World.size_alloc]; omega), setCell_alloc_lt w _ p v h]

theorem ext_setCell : ∀ (os : List OB) (w : World) (i k : Nat) (v : Value) (l : List Value) (et : TypeId), nthOB os i = some (.cells l et) →
    (ext w os).setCell ⟨w.heap.size + i, k, none⟩ v = ext w (setOB os i (.cells (setNth l k v) et))
  | [], _, _, _, _, _, _, h => by simp [nthOB] at h
  | o :: os, w, 0, k, v, l, et, h => by
    simp only [nthOB, Option.some.injEq] at h
    subst h
    rw [ext, setOB, ext, Nat.add_zero, ext_setCell_old os _ _ v (by rw [World.size_alloc]; exact Nat.lt_succ_self _)]
    congr 1
    simp only [OB.toObj]
    rw [World.setCell_alloc_new, setNth_arr]
  | o :: os, w, i + 1, k, v, l, et, h => by
    rw [ext, setOB, ext, show w.heap.size + (i + 1) = (w.alloc o.toObj).heap.size + i by rw [World.size_alloc]; omega]
    exact ext_setCell os (w.alloc o.toObj) i k v l et h

theorem nth_setOB : ∀ (os : List OB) (i : Nat) (o u : OB), nthOB os i = some o → nthOB (setOB os i u) i = some u
  | [], _, _, _, h => by simp [nthOB] at h
  | _ :: _, 0, _, _, _ => rfl
  | _ :: os, i + 1, o, u, h => nth_setOB os i o u h
theorem setOB_setOB : ∀ (os : List OB) (i : Nat) (u v : OB), setOB (setOB os i u) i v = setOB os i v
  | [], _, _, _ => rfl
  | _ :: _, 0, _, _ => rfl
  | o :: os, i + 1, u, v => by simp [setOB, setOB_setOB os i u v]

theorem setOB_self : ∀ (os : List OB) (i : Nat) (o : OB), nthOB os i = some o → setOB os i o = os
  | [], _, _, _ => rfl
  | _ :: _, 0, _, h => by simp only [nthOB, Option.some.injEq] at h; rw [← h]; rfl
  | _ :: os, i + 1, o, h => by simp only [setOB]; rw [setOB_self os i o h]

theorem own_frozen {w0 : World} {os : List OB} {i : Nat} {l : List Value} {et : TypeId} (ho : nthOB os i = some (.cells l et)) (k : Nat) : (ext w0 os).frozen? ⟨w0.heap.size + i, k, none⟩ = false := by
  unfold World.frozen?
  rw [ext_new w0 os i _ ho]
  simp [OB.toObj]

theorem setNth_length : ∀ (l : List Value) (k : Nat) (v : Value), (setNth l k v).length = l.length
  | [], _, _ => rfl
  | _ :: _, 0, _ => rfl
  | _ :: l, k + 1, v => by simp [setNth, setNth_length l k v]

theorem run_storeCells_own {w : World} {i off : Nat} {et : TypeId} : ∀ (vs : List Value) (os : List OB) (l : List Value) (k : Nat), nthOB os i = some (.cells l et) → off + k + vs.length ≤ l.length → oneAll vs = true →
    (storeCells ⟨w.heap.size + i, off, none⟩ vs k).run P (ext w os) = .ok () (ext w (setOB os i (.cells (setRow l (off + k) vs) et)))
  | [], os, l, k, ho, _, _ => by
    have := setOB_self os i _ ho
    simp [storeCells, setRow, this]
  | v :: vs, os, l, k, ho, hl, h1 => by
    simp only [oneAll, Bool.and_eq_true] at h1
    simp only [List.length_cons] at hl
    have hc : (ext w os).cell? ⟨w.heap.size + i, off + k, none⟩ = some (l[off + k]'(by omega)) := by
      rw [own_cell ho]; simp
    simp only [storeCells, Sem.run_bind, own_add]
    rw [run_store P _ _ v .plain h1.1, hc]
    simp only [own_frozen ho, Bool.false_eq_true, if_false, Result.andThen_ok]
    rw [ext_setCell os w i (off + k) v l et ho]
    have := run_storeCells_own (w := w) (off := off) (i := i) (et := et) vs (setOB os i (.cells (setNth l (off + k) v) et)) (setNth l (off + k) v) (k + 1) (nth_setOB os i _ _ ho) (by rw [setNth_length]; omega) h1.2
    rw [this, setOB_setOB]
    simp only [setRow, Nat.add_assoc]

theorem setCell_isSome (w : World) (p q : Addr) (v : Value) (h : (w.cell? q).isSome = true) : ((w.setCell p v).cell? q).isSome = true := by
  obtain ⟨u, hu⟩ := Option.isSome_iff_exists.1 h
  by_cases hpq : p = q
  · subst hpq; rw [World.cell?_setCell_same w p v hu]; rfl
  · rw [World.cell?_setCell_other w p q v hpq]; exact h
theorem setCell_frozen (w : World) (p q : Addr) (v : Value) : (w.setCell p v).frozen? q = w.frozen? q := by
  unfold World.frozen? World.setCell
  simp only [Array.getElem?_modify]
  by_cases hb : p.block = q.block
  · rw [if_pos hb]
    cases hh : w.heap[q.block]? with
    | none => rfl
    | some o => cases o <;> rfl
  · rw [if_neg hb]
theorem CanStore.set {w : World} {p q : Addr} {u : Value} : ∀ {i : Nat} {vs : List Value}, CanStore w p i vs → CanStore (w.setCell q u) p i vs
  | _, [], _ => trivial
  | _, _ :: _, ⟨h1, h2, h3, h4⟩ => ⟨h1, setCell_isSome _ _ _ _ h2, by rw [setCell_frozen]; exact h3, CanStore.set h4⟩

theorem run_storeCells {p : Addr} : ∀ (vs : List Value) (w : World) (k : Nat), CanStore w p k vs → (storeCells p vs k).run P w = .ok () (setCells w p k vs)
  | [], w, k, _ => by simp [storeCells, setCells]
  | v :: vs, w, k, ⟨h1, h2, h3, h4⟩ => by
    obtain ⟨u, hu⟩ := Option.isSome_iff_exists.1 h2
    simp only [storeCells, Sem.run_bind]
    rw [run_store P _ _ v .plain h1, hu]
    simp only [h3, Bool.false_eq_true, if_false, Result.andThen_ok, setCells]
    exact run_storeCells vs _ (k + 1) h4.set

theorem run_storeVar {t : TypeId} {ti : TypeInfo} {v : Value} {p : Addr} {w w' : World} (hti : P.info? t = some ti) (hl : Nat.beq (len? (cellsL v)) ti.size = true) (h : (storeCells p (cellsL v)).run P w = .ok () w') : (storeVar t p v).run P w = .ok () w' := by
  have hsz : v.cells.size = ti.size := by
    have := Nat.eq_of_beq_eq_true hl
    rw [len?_eq, ← cellsL_list, Array.length_toList] at this
    exact this
  unfold storeVar
  simp only [Sem.run_bind, run_sizeOf' hti, Result.andThen_ok, hsz, ne_eq, not_true_eq_false, if_false, Sem.run_pure, cellsL_list, h]

end Go.Sh
end

section
/- The operations that change the world are carried out as the symbolic walk says. No condition. -/
namespace Go.Sh
open Go

variable {P : Program}

theorem ext_addOB (w : World) (os : List OB) (o : OB) : ext w (os ++ [o]) = (ext w os).alloc o.toObj := ext_append w os o

theorem run_newObj' (o : Obj) (w : World) : (newObj o).run P w = .ok w.heap.size (w.alloc o) := rfl

theorem replicate_cells (l : List Value) : ∀ (len : Nat), ((List.range (len * l.length)).map fun i => l[i % l.length]!) = (List.replicate len ()).flatMap fun _ => l
  | 0 => by simp
  | len + 1 => by
    rw [List.replicate_succ, List.flatMap_cons, ← replicate_cells l len, show (len + 1) * l.length = l.length + len * l.length by rw [Nat.succ_mul]; omega, List.range_add, List.map_append, List.map_map]
    congr 1
    · apply List.ext_getElem
      · simp
      · intro i h1 h2
        simp only [List.getElem_map, List.getElem_range]
        rw [Nat.mod_eq_of_lt h2]
        simp [h2]
    · apply List.map_congr_left
      intro i _
      simp only [Function.comp]
      rw [Nat.add_mod_left]

theorem fresh_cells (z : Value) (len : Nat) : ((Array.range (len * z.cells.size)).map (z.cells[· % z.cells.size]!)) = ((List.replicate len ()).flatMap fun _ => cellsL z).toArray := by
  have h : z.cells.size = (cellsL z).length := by rw [← cellsL_arr]; simp
  rw [← replicate_cells (cellsL z) len, h]
  apply Array.ext'
  simp only [Array.toList_map, Array.toList_range]
  apply List.map_congr_left
  intro i _
  rw [← cellsL_arr]
  simp

theorem upon_val {o : Oper} {a : Act} {next : Act → World → Prop} {Q : Exit → Act → World → Prop} {w w' : World} {v : Value} (h : (execOp a.eval o).run P w = .ok (.value v) w') (hn : next (a.put o.dst v) w') : o.wp P a w next Q := by
  unfold Oper.wp; rw [h]; exact hn
theorem upon_skip {o : Oper} {a : Act} {next : Act → World → Prop} {Q : Exit → Act → World → Prop} {w w' : World} (h : (execOp a.eval o).run P w = .ok .skip w') (hn : next (a.put o.dst undef) w') : o.wp P a w next Q := by
  unfold Oper.wp; rw [h]; exact hn
theorem run_v' {s : Sem Value} {v : Value} {W W' : World} (h : s.run P W = .ok v W') : (do let r ← s; pure (Next.value r) : Sem Next).run P W = .ok (.value v) W' := by
  simp only [Sem.run_bind, h, Result.andThen_ok, Sem.run_pure]
theorem run_u' {s : Sem Unit} {W W' : World} (h : s.run P W = .ok () W') : (do s; pure Next.skip : Sem Next).run P W = .ok .skip W' := by
  simp only [Sem.run_bind, h, Result.andThen_ok, Sem.run_pure]

theorem Rets.elim {p : Pat} {K : Value → World → Prop} {e : Ending} {w : World} (h : Rets p K e w) : ∃ v, e = .returned v ∧ K v w := exP_elim h

theorem RunE.elim {s : Sem Value} {p : Pat} {w : World} {K : Value → World → Prop} (h : RunE P s p w K) : ∃ v w1, s.run P w = .ok v w1 ∧ K v w1 := by
  obtain ⟨w1, h⟩ := h
  obtain ⟨v, h⟩ := exP_elim h
  exact ⟨v, w1, h⟩

theorem eop_ok {F : Fm} {st : St} {a : Act} {o : Oper} {K : EK} {next : Act → World → Prop} {Q : Exit → Act → World → Prop} (he : EnvOK F st.w st.env a) (h : eop P st o K)
    (hn : ∀ e st', K e st' → EnvOK F st'.w st'.env a → next (a.put o.dst (e.toV st'.w)) (ext st'.w st'.own)) : o.wp P a (ext st.w st.own) next Q := by
  unfold eop at h
  split at h
  · -- alloc
    rename_i t ho
    split at h
    · exact h.elim
    rename_i z hz
    unfold zeroCellsOf at hz
    split at hz
    · cases hz
    rename_i ti hti
    split at hz
    · cases hz
    rename_i zv hzv
    injection hz with hz
    subst hz
    refine upon_val (v := .pointer (some ⟨st.w.heap.size + st.own.length, 0, none⟩)) (w' := ext st.w (st.own ++ [OB.cells (cellsL zv) t])) ?_ (hn _ _ h he)
    unfold execOp; simp only [ho]
    refine run_v' ?_
    unfold Instr.alloc newVar newRow
    simp only [Sem.run_bind, run_zeroValue hti hzv, Result.andThen_ok, run_newObj', Sem.run_pure, ext_size, ext_addOB, OB.toObj, cellsL_arr]
  · -- box
    rename_i t x ho
    have h1 := he.v (x := x) h
    refine upon_val (v := .pointer (some ⟨st.w.heap.size + st.own.length, 0, none⟩)) (w' := ext st.w (st.own ++ [OB.cells (cellsL (a.eval x)) t])) ?_ (hn _ _ h1 he)
    unfold execOp; simp only [ho]
    refine run_v' ?_
    unfold Instr.box newVar newRow
    simp only [Sem.run_bind, Result.andThen_ok, run_newObj', Sem.run_pure, ext_size, ext_addOB, OB.toObj, cellsL_arr]
  · -- buildSlice
    rename_i t len ps ho
    have h1 := he.vi (xs := ps.toList) h
    split at h1
    case h_2 => exact h1.elim
    rename_i e hu
    split at h1
    · exact h1.elim
    rename_i ti hti
    split at h1
    · exact h1.elim
    rename_i z hz
    cases hb : (Nat.ble (len * ti.size) 1000 && Nat.beq (len? (cellsL z)) ti.size)
    · rw [hb] at h1; exact h1.elim
    rw [hb] at h1
    simp only [cond_true] at h1
    simp only [Bool.and_eq_true] at hb
    have hle : len * ti.size ≤ 1000 := Nat.le_of_ble_eq_true hb.1
    have hsz : z.cells.size = ti.size := by
      have := Nat.eq_of_beq_eq_true hb.2
      rw [len?_eq, ← cellsL_list, Array.length_toList] at this
      exact this
    split at h1
    · exact h1.elim
    rename_i cs hcs
    refine upon_val (v := .slice (some ⟨st.w.heap.size + st.own.length, 0, none⟩) len len) (w' := ext st.w (st.own ++ [OB.cells cs.toList e])) ?_ (hn _ _ h1 he)
    unfold execOp; simp only [ho]
    refine run_v' ?_
    have hps : (ps.map fun (i, x) => (i, a.eval x)).toList = ps.toList.map fun p => (p.1, a.eval p.2) := by simp
    have hnot : ¬ (len * ti.size > 2 ^ 24) := by omega
    unfold Instr.buildSlice
    simp only [Sem.run_bind, run_underlying hu, Result.andThen_ok, run_sizeOf' hti, hnot, if_false, Sem.run_pure]
    by_cases h0 : len * ti.size = 0
    · have hfr : ((Array.range (len * ti.size)).map (fun x => (#[] : Array Value)[x % (#[] : Array Value).size]!)) = ((List.replicate len ()).flatMap fun _ => cellsL z).toArray := by
        rw [← fresh_cells z len, hsz, h0]; simp
      simp only [h0, if_true, Sem.run_pure, Result.andThen_ok]
      rw [h0] at hfr
      simp only [hfr, hps, hcs, newRow, Sem.run_bind, run_newObj', Result.andThen_ok, Sem.run_pure, ext_size, ext_addOB, OB.toObj, Array.toArray_toList]
    · have hfr : ((Array.range (len * ti.size)).map (fun x => z.cells[x % z.cells.size]!)) = ((List.replicate len ()).flatMap fun _ => cellsL z).toArray := by
        rw [← fresh_cells z len, hsz]
      simp only [h0, if_false, Sem.run_bind, run_zeroValue hti hz, Result.andThen_ok, Sem.run_pure]
      simp only [hfr, hps, hcs, newRow, Sem.run_bind, run_newObj', Result.andThen_ok, Sem.run_pure, ext_size, ext_addOB, OB.toObj, Array.toArray_toList]
  · -- makeMap
    rename_i t r ho
    split at h
    · refine upon_val (v := .map (some (st.w.heap.size + st.own.length))) (w' := ext st.w (st.own ++ [OB.obj (.map #[] 0)])) ?_ (hn _ _ h he)
      unfold execOp; simp only [ho]
      refine run_v' ?_
      unfold Instr.makeMap
      simp only [Option.map_none, Sem.run_bind, run_newObj', Result.andThen_ok, Sem.run_pure, ext_size, ext_addOB, OB.toObj]
    · rename_i x
      obtain ⟨st1, h1, he1, ho1, hw1⟩ := flush_elim h he
      have h2 := (he1 st1.w).v (x := x) h1
      obtain ⟨v, w1, hr, hK⟩ := h2.elim
      rw [← hw1]
      refine upon_val ?_ (hn _ _ hK (he1 w1))
      unfold execOp; simp only [ho, Option.map_some]
      exact run_v' hr
  · -- store
    rename_i t x y ho
    split at h
    case h_2 => exact h.elim
    rename_i e hx
    have hx' := he.op hx
    have h1 := he.v (x := y) (K := fun v => storeE P st t e v K) h
    unfold storeE at h1
    split at h1
    · exact h1.elim
    rename_i ti hti
    have hex : ∀ (p : Addr) W W', a.eval x = .pointer (some p) → (storeVar t p (a.eval y)).run P W = .ok () W' → (execOp a.eval o).run P W = .ok .skip W' := by
      intro p W W' hp hr
      unfold execOp; simp only [ho, hp]
      refine run_u' ?_
      unfold Instr.storeAt
      simp only [Sem.run_bind, run_sureAddr, Result.andThen_ok, hr]
    split at h1
    · rename_i i off
      split at h1
      case h_2 => exact h1.elim
      rename_i l et hob
      cases hb : (Nat.beq (len? (cellsL (a.eval y))) ti.size && Nat.ble (off + ti.size) (len? l) && oneAll (cellsL (a.eval y)))
      · rw [hb] at h1; exact h1.elim
      rw [hb] at h1
      simp only [cond_true] at h1
      simp only [Bool.and_eq_true] at hb
      obtain ⟨⟨hb1, hb2⟩, hb3⟩ := hb
      have hlen : (cellsL (a.eval y)).length = ti.size := by rw [← len?_eq]; exact Nat.eq_of_beq_eq_true hb1
      have hle : off + ti.size ≤ l.length := by rw [← len?_eq]; exact Nat.le_of_ble_eq_true hb2
      refine upon_skip (w' := ext st.w (setOB st.own i (OB.cells (setRow l off (cellsL (a.eval y))) et))) (hex _ _ _ hx' ?_) (hn _ _ h1 he)
      refine run_storeVar hti hb1 ?_
      have := run_storeCells_own (P := P) (w := st.w) (i := i) (off := off) (et := et) (cellsL (a.eval y)) st.own l 0 hob (by omega) hb3
      simpa using this
    · rename_i p
      obtain ⟨ad, rfl, h2⟩ := optP_elim h1
      split at h2
      case h_2 => exact h2.elim
      rename_i hb1
      obtain ⟨st1, h3, he1, ho1, hw1⟩ := flush_elim h2 he
      obtain ⟨hcs, h4⟩ := h3
      rw [← hw1]
      exact upon_skip (hex _ _ _ hx' (run_storeVar hti hb1 (run_storeCells _ _ 0 hcs))) (hn _ _ (h4 _ rfl) (he1 _))
    · exact h1.elim
  · -- makeSlice
    rename_i t l c ho
    obtain ⟨st1, h1, he1, ho1, hw1⟩ := flush_elim h he
    have h2 := (he1 st1.w).v (x := l) h1
    have h3 := (he1 st1.w).v (x := c) h2
    obtain ⟨v, w1, hr, hK⟩ := h3.elim
    rw [← hw1]
    refine upon_val ?_ (hn _ _ hK (he1 w1))
    unfold execOp; simp only [ho]
    exact run_v' hr
  · -- mapUpdate
    rename_i t m k x ho
    obtain ⟨st1, h1, he1, ho1, hw1⟩ := flush_elim h he
    have h2 := (he1 st1.w).v (x := m) h1
    have h3 := (he1 st1.w).v (x := k) h2
    have h4 := (he1 st1.w).v (x := x) h3
    obtain ⟨w1, hr, hK⟩ := h4
    rw [← hw1]
    refine upon_skip ?_ (hn _ _ hK (he1 w1))
    unfold execOp; simp only [ho]
    exact run_u' hr
  · -- insert
    rename_i t m k x ho
    obtain ⟨st1, h1, he1, ho1, hw1⟩ := flush_elim h he
    have h2 := (he1 st1.w).v (x := m) h1
    have h3 := (he1 st1.w).v (x := k) h2
    have h4 := (he1 st1.w).v (x := x) h3
    obtain ⟨w1, hr, hK⟩ := h4
    rw [← hw1]
    refine upon_skip ?_ (hn _ _ hK (he1 w1))
    unfold execOp; simp only [ho]
    exact run_u' hr
  · -- mapEntry
    rename_i t m k ho
    obtain ⟨st1, h1, he1, ho1, hw1⟩ := flush_elim h he
    have h2 := (he1 st1.w).v (x := m) h1
    have h3 := (he1 st1.w).v (x := k) h2
    obtain ⟨v, w1, hr, hK⟩ := h3.elim
    rw [← hw1]
    refine upon_val ?_ (hn _ _ hK (he1 w1))
    unfold execOp; simp only [ho]
    exact run_v' hr
  · -- entryStore
    rename_i t m s x ho
    obtain ⟨st1, h1, he1, ho1, hw1⟩ := flush_elim h he
    have h2 := (he1 st1.w).v (x := m) h1
    have h3 := (he1 st1.w).v (x := s) h2
    have h4 := (he1 st1.w).v (x := x) h3
    obtain ⟨w1, hr, hK⟩ := h4
    rw [← hw1]
    refine upon_skip ?_ (hn _ _ hK (he1 w1))
    unfold execOp; simp only [ho]
    exact run_u' hr
  · -- convert
    rename_i s d x ho
    obtain ⟨st1, h1, he1, ho1, hw1⟩ := flush_elim h he
    have h2 := (he1 st1.w).v (x := x) h1
    obtain ⟨v, w1, hr, hK⟩ := h2.elim
    rw [← hw1]
    refine upon_val ?_ (hn _ _ hK (he1 w1))
    unfold execOp; simp only [ho]
    exact run_v' hr
  · -- range
    rename_i t x ho
    obtain ⟨st1, h1, he1, ho1, hw1⟩ := flush_elim h he
    have h2 := (he1 st1.w).v (x := x) h1
    obtain ⟨v, w1, hr, hK⟩ := h2.elim
    rw [← hw1]
    refine upon_val ?_ (hn _ _ hK (he1 w1))
    unfold execOp; simp only [ho]
    exact run_v' hr
  · -- call
    rename_i c ho
    have hbi : ∀ (b : Builtin) (f : Array TypeId → TypeId → Array Value → Sem Value), c.callee = .builtin b →
        (∀ cs args, builtin b c.argTypes o.type cs args = (do let r ← f c.argTypes o.type args; pure (Next.value r) : Sem Next)) →
        ∀ W W' v, (f c.argTypes o.type (c.args.toList.map a.eval).toArray).run P W = .ok v W' → (execOp a.eval o).run P W = .ok (.value v) W' := by
      intro b f hc hb W W' v hr
      unfold execOp
      simp only [ho, resolve, hc, pure_bind, invoke, hb, ← Array.toList_map, Array.toArray_toList]
      rw [← Array.toList_map, Array.toArray_toList] at hr
      exact run_v' hr
    split at h
    · rename_i hc
      obtain ⟨st1, h1, he1, ho1, hw1⟩ := flush_elim h he
      have h2 := (he1 st1.w).vs (xs := c.args.toList) h1
      obtain ⟨v, w1, hr, hK⟩ := h2.elim
      rw [← hw1]
      exact upon_val (hbi _ _ hc (fun _ _ => rfl) _ _ _ hr) (hn _ _ hK (he1 w1))
    · rename_i hc
      obtain ⟨st1, h1, he1, ho1, hw1⟩ := flush_elim h he
      have h2 := (he1 st1.w).vs (xs := c.args.toList) h1
      obtain ⟨v, w1, hr, hK⟩ := h2.elim
      rw [← hw1]
      exact upon_val (hbi _ _ hc (fun _ _ => rfl) _ _ _ hr) (hn _ _ hK (he1 w1))
    · rename_i hc
      obtain ⟨st1, h1, he1, ho1, hw1⟩ := flush_elim h he
      have h2 := (he1 st1.w).vs (xs := c.args.toList) h1
      obtain ⟨v, w1, hr, hK⟩ := h2.elim
      rw [← hw1]
      exact upon_val (hbi _ _ hc (fun _ _ => rfl) _ _ _ hr) (hn _ _ hK (he1 w1))
    · rename_i hc
      obtain ⟨st1, h1, he1, ho1, hw1⟩ := flush_elim h he
      have h2 := (he1 st1.w).vs (xs := c.args.toList) h1
      obtain ⟨v, w1, hr, hK⟩ := h2.elim
      rw [← hw1]
      exact upon_val (hbi _ _ hc (fun _ _ => rfl) _ _ _ hr) (hn _ _ hK (he1 w1))
    · rename_i f hc
      obtain ⟨st1, h1, he1, ho1, hw1⟩ := flush_elim h he
      have h2 := (he1 st1.w).v (x := f) h1
      have h3 := (he1 st1.w).vs (xs := c.args.toList) h2
      unfold CallV at h3
      split at h3
      case h_2 => exact h3.elim
      rename_i g fst cap hf
      obtain ⟨hent, hcall⟩ := h3
      rw [← hw1]
      have hrun : (execOp a.eval o).run P st1.w = .ok (.enter g (fst ++ (c.args.toList.map a.eval).toArray ++ cap)) st1.w := by
        unfold execOp
        simp only [ho, resolve, hc, hf, Deferred.ofValue, pure_bind, invoke, ← Array.toList_map, Array.toArray_toList]
        exact hent _ _
      unfold Oper.wp
      rw [hrun, Oper.upon_enter]
      refine hcall.mono fun e w1 hr => ?_
      obtain ⟨v, rfl, hK⟩ := hr.elim
      exact hn _ _ hK (he1 w1)
    · exact h.elim
  · exact h.elim

end Go.Sh
end
