/- The law TransformCondition of the package credencelaw23 answers true at every input and leaves its arguments as they were (Rows.TransformConditionCardSaid); no condition beyond the card's own: the three listed tables stand as the program's text lays them. Part 4 of 25. -/
import Derived.Maps.AppendAt
import Derived.Laws.OwnMore
import Derived.Test.YtajfdcbknghipaaGreatDoorW03

section
/- The symbolic walk of a function is sound: what it asks for, proved, gives what a call does. No condition. -/
namespace Go.Sh
open Go

variable {P : Program}

/-! Patterns, once more. -/
theorem allK_intro {k : PK} {K : Value → Prop} (h : ∀ v, K v) : allK k K := by
  cases k <;> simp only [allK] <;> intros <;> exact h _
theorem allKs_intro : ∀ {ks : List PK} {K : List Value → Prop}, (∀ vs, K vs) → allKs ks K
  | [], _, h => h _
  | _ :: _, _, h => allK_intro fun _ => allKs_intro fun _ => h _
theorem allC_intro {k : PC} {K : Value → Prop} (h : ∀ v, K v) : allC k K := by
  cases k
  · exact allK_intro h
  · exact allKs_intro fun _ => h _
theorem allCs_intro : ∀ {ks : List PC} {K : List Value → Prop}, (∀ vs, K vs) → allCs ks K
  | [], _, h => h _
  | _ :: _, _, h => allC_intro fun _ => allCs_intro fun _ => h _
theorem allK_elim {k : PK} {K : Value → Prop} (h : allK k K) (v : Value) (hf : fitK k v = true) : K v := by
  cases k <;> cases v <;> simp only [fitK] at hf <;> first | (cases hf; done) | skip
  all_goals simp only [allK] at h
  all_goals first | exact h _ | exact h _ _ _ | skip
  all_goals
    have := kindEq_eq hf
    subst this
    exact h _
theorem allKs_elim : ∀ {ks : List PK} {K : List Value → Prop}, allKs ks K → ∀ vs, fitKs ks vs = true → K vs
  | [], _, h, [], _ => h
  | [], _, _, _ :: _, hf => by cases hf
  | _ :: _, _, _, [], hf => by cases hf
  | k :: ks, K, h, v :: vs, hf => by
    simp only [fitKs, Bool.and_eq_true] at hf
    exact allKs_elim (ks := ks) (K := fun vs => K (v :: vs)) (allK_elim (K := fun v => allKs ks fun vs => K (v :: vs)) h v hf.1) vs hf.2
theorem allC_elim {k : PC} {K : Value → Prop} (h : allC k K) (v : Value) (hf : fitC k v = true) : K v := by
  cases k with
  | one k => exact allK_elim h v hf
  | agg ks =>
    cases v <;> simp only [fitC] at hf <;> first | (cases hf; done) | skip
    rename_i cs
    have := allKs_elim (ks := ks) (K := fun vs => K (.agg vs.toArray)) h cs.toList hf
    simpa using this
theorem allCs_elim : ∀ {ks : List PC} {K : List Value → Prop}, allCs ks K → ∀ vs, fitCs ks vs = true → K vs
  | [], _, h, [], _ => h
  | [], _, _, _ :: _, hf => by cases hf
  | _ :: _, _, _, [], hf => by cases hf
  | k :: ks, K, h, v :: vs, hf => by
    simp only [fitCs, Bool.and_eq_true] at hf
    exact allCs_elim (ks := ks) (K := fun vs => K (v :: vs)) (allC_elim (K := fun v => allCs ks fun vs => K (v :: vs)) h v hf.1) vs hf.2

/-! Environments where ways meet. -/
theorem look_drops (e : List (Nat × EV)) (ts : List Nat) (s : Nat) : look (drops e ts) s = if s ∈ ts then none else look e s := by
  induction ts generalizing e with
  | nil => simp [drops]
  | cons t ts ih =>
    rw [drops, ih, look_drop1]
    by_cases h1 : s ∈ ts
    · simp [h1]
    · by_cases h2 : s = t
      · simp [h2]
      · simp [h1, h2]

theorem vals_get {w : World} {e : List (Nat × EV)} : ∀ {js : List Nat} {vs : List Value}, valsAt w e js = some vs → ∀ (e0 : List (Nat × EV)) (s : Nat) (v : EV), look (setsE e0 js vs) s = some v → (∃ u, look e s = some u ∧ v = .val (u.toV w) ∧ s ∈ js) ∨ (look e0 s = some v ∧ s ∉ js)
  | [], vs, h, e0, s, v, hl => by
    simp only [valsAt, Option.some.injEq] at h
    subst h
    simp only [setsE] at hl
    exact .inr ⟨hl, by simp⟩
  | t :: ts, vs, h, e0, s, v, hl => by
    unfold valsAt at h
    split at h
    · cases h
    rename_i u hu
    split at h
    · cases h
    rename_i vs' hvs
    simp only [Option.some.injEq] at h
    subst h
    rw [setsE, look_setE] at hl
    by_cases hst : s = t
    · subst hst
      simp only [if_true, Option.some.injEq] at hl
      exact .inl ⟨u, hu, hl.symm, List.mem_cons_self⟩
    · simp only [hst, if_false] at hl
      rcases vals_get hvs e0 s v hl with ⟨u', h1, h2, h3⟩ | ⟨h1, h2⟩
      · exact .inl ⟨u', h1, h2, List.mem_cons_of_mem _ h3⟩
      · exact .inr ⟨h1, by simp [hst, h2]⟩

/-- Where ways meet: the slots of 'js' hold what the way gave them, the others what they held before. -/
theorem env_join {F : Fm} {M : List Nat} {a0 a1 : Act} {env0 : List (Nat × EV)} {js : List Nat} {vs : List Value} {st1 : St} {w1 : World} (hM : ∀ t ∈ M, t ∈ F.M)
    (he0 : ∀ w, EnvOK F w env0 a0) (he1 : EnvOK ⟨F.n, M, fun t => a0.tmps[t]?⟩ st1.w st1.env a1) (hv : valsAt st1.w st1.env js = some vs) : EnvOK F w1 (setsE (drops env0 M) js vs) a1 where
  defers := he1.defers
  size := he1.size
  frame t ht := by
    rw [he1.frame t (fun h => ht (hM t h))]
    exact (he0 w1).frame t ht
  get t v hl := by
    rcases vals_get hv _ t v hl with ⟨u, h1, h2, _⟩ | ⟨h1, _⟩
    · rw [he1.get t u h1, h2]; rfl
    · rw [look_drops] at h1
      by_cases htm : t ∈ M
      · simp [htm] at h1
      · simp only [htm, if_false] at h1
        rw [he1.frame t htm]
        exact (he0 w1).get t v h1

/-- The ends of a walk. -/
def PQ (F : Fm) (kn : St → Prop) (ke : Nat → St → Prop) (kr : St → Prop) : Exit → Act → World → Prop
  | .normal, a, w => ∃ st, kn st ∧ EnvOK F st.w st.env a ∧ w = ext st.w st.own
  | .exit id, a, w => ∃ st, ke id st ∧ EnvOK F st.w st.env a ∧ w = ext st.w st.own
  | .ret, a, w => ∃ st, kr st ∧ EnvOK F st.w st.env a ∧ w = ext st.w st.own
  | _, _, _ => False

theorem EnvOK.widen {F : Fm} {M : List Nat} {a0 a1 : Act} {w0 w1 : World} {env0 e : List (Nat × EV)} (hM : ∀ t ∈ M, t ∈ F.M) (he0 : EnvOK F w0 env0 a0) (he1 : EnvOK ⟨F.n, M, fun t => a0.tmps[t]?⟩ w1 e a1) : EnvOK F w1 e a1 where
  defers := he1.defers
  size := he1.size
  frame t ht := by rw [he1.frame t (fun h => ht (hM t h))]; exact he0.frame t ht
  get := he1.get
theorem EnvOK.narrow {F : Fm} {M : List Nat} {a : Act} {w0 : World} {e : List (Nat × EV)} (he : EnvOK F w0 e a) : EnvOK ⟨F.n, M, fun t => a.tmps[t]?⟩ w0 e a where
  defers := he.defers
  size := he.size
  frame _ _ := rfl
  get := he.get

theorem land_elim {js : List Nat} {J : List Value → World → Prop} {st : St} (h : land js J st) : ∃ vs, valsAt st.w st.env js = some vs ∧ J vs (ext st.w st.own) := by
  unfold land at h
  split at h
  · exact h.elim
  rename_i vs hv
  refine ⟨vs, hv, ?_⟩
  split at h
  · rename_i ho; rw [ho]; exact h
  · exact h _ rfl
theorem landF_elim {ps : List PC} {js : List Nat} {J : List Value → World → Prop} {st : St} (h : landF ps js J st) : ∃ vs, valsAt st.w st.env js = some vs ∧ fitCs ps vs = true ∧ J vs (ext st.w st.own) := by
  unfold landF at h
  split at h
  · exact h.elim
  rename_i vs hv
  split at h
  · exact h.elim
  rename_i hf
  refine ⟨vs, hv, hf, ?_⟩
  split at h
  · rename_i ho; rw [ho]; exact h
  · exact h _ rfl

/-- A loop by an invariant with a counter. -/
theorem wp_loop_n {Q : Exit → Act → World → Prop} {c : Code} (I : Nat → Act → World → Prop)
    (round : ∀ n a w, I n a w → c.wp P (Exit.then (fun a' w' => ∃ n', n' < n ∧ I n' a' w') Q) a w) (n : Nat) (a : Act) (w : World) (h : I n a w) : (Code.loop c).wp P Q a w := by
  intro b k cs
  have key : ∀ n a w, I n a w →
      ∃ e a' w', Q e a' w' ∧ Arrives P (lone (b.at a (.code c :: .inLoop c :: k)) cs w) b k cs e a' w' := by
    intro n
    induction n using Nat.strongRecOn with
    | _ n ih =>
      intro a w hI
      obtain ⟨e, a₁, w₁, hq, harr⟩ := round n a w hI b (.inLoop c :: k) cs
      cases e with
      | normal =>
        obtain ⟨n', hlt, hI₁⟩ := hq
        obtain ⟨e₂, a₂, w₂, hq₂, harr₂⟩ := ih n' hlt a₁ w₁ hI₁
        exact ⟨e₂, a₂, w₂, hq₂, .of_steps (Steps.trans harr (.one step_inLoop)) harr₂⟩
      | exit id => exact ⟨_, a₁, w₁, hq, .pass (x := .inLoop c) rfl (fun _ _ => .inl (by simp)) harr⟩
      | goto l => exact ⟨_, a₁, w₁, hq, .pass (x := .inLoop c) rfl (fun _ _ => .inl (by simp)) harr⟩
      | ret => exact ⟨_, a₁, w₁, hq, .pass (x := .inLoop c) rfl (fun _ _ => .inl (by simp)) harr⟩
      | panic ch => exact ⟨_, a₁, w₁, hq, .pass (x := .inLoop c) rfl (fun _ _ => .inl (by simp)) harr⟩
      | outgrown => exact ⟨_, a₁, w₁, hq, .pass (x := .inLoop c) rfl (fun _ _ => .inl (by simp)) harr⟩
  obtain ⟨e, a', w', hq, harr⟩ := key n a w h
  exact ⟨e, a', w', hq, .of_steps (.one step_loop) harr⟩

theorem PQ.widen {F : Fm} {M : List Nat} {a0 : Act} {w0 : World} {env0 : List (Nat × EV)} {kn : St → Prop} {ke : Nat → St → Prop} {kr : St → Prop} (hM : ∀ t ∈ M, t ∈ F.M) (he0 : EnvOK F w0 env0 a0)
    {kn' : St → Prop} {e : Exit} {a : Act} {w : World} (hn : ∀ st, kn' st → EnvOK ⟨F.n, M, fun t => a0.tmps[t]?⟩ st.w st.env a → w = ext st.w st.own → ∃ st', kn st' ∧ EnvOK F st'.w st'.env a ∧ w = ext st'.w st'.own)
    (h : PQ ⟨F.n, M, fun t => a0.tmps[t]?⟩ kn' ke kr e a w) : PQ F kn ke kr e a w := by
  cases e with
  | normal => obtain ⟨st, h1, h2, h3⟩ := h; exact hn st h1 h2 h3
  | exit id => obtain ⟨st, h1, h2, h3⟩ := h; exact ⟨st, h1, he0.widen hM h2, h3⟩
  | ret => obtain ⟨st, h1, h2, h3⟩ := h; exact ⟨st, h1, he0.widen hM h2, h3⟩
  | goto l => exact h.elim
  | panic c => exact h.elim
  | outgrown => exact h.elim

theorem sh_ok (hm : P.follows .mixedOrders = true) : ∀ (c : Code) (F : Fm) (live : List Nat) (kn : St → Prop) (ke : Nat → St → Prop) (kr : St → Prop) (st : St) (a : Act),
    (∀ t ∈ mods c, t ∈ F.M) → sh P F.n c live kn ke kr st → EnvOK F st.w st.env a → c.wp P (PQ F kn ke kr) a (ext st.w st.own) := by
  intro c
  induction c with
  | skip => intro F live kn ke kr st a _ h he; exact wp_skip ⟨st, h, he, rfl⟩
  | label l => intro F live kn ke kr st a _ h he; exact wp_label ⟨st, h, he, rfl⟩
  | exit id => intro F live kn ke kr st a _ h he; exact wp_exit ⟨st, h, he, rfl⟩
  | ret => intro F live kn ke kr st a _ h he; exact wp_ret ⟨st, h, he, rfl⟩
  | scope b _ => intro F live kn ke kr st a _ h he; exact h.elim
  | rangeFunc f ps as b _ _ => intro F live kn ke kr st a _ h he; exact h.elim
  | goto l => intro F live kn ke kr st a _ h he; exact h.elim
  | refuse s => intro F live kn ke kr st a _ h he; exact h.elim
  | seq x y ihx ihy =>
    intro F live kn ke kr st a hM h he
    have hx : ∀ t ∈ mods x, t ∈ F.M := fun t ht => hM t (List.mem_append_left _ ht)
    have hy : ∀ t ∈ mods y, t ∈ F.M := fun t ht => hM t (List.mem_append_right _ ht)
    refine wp_seq (wp_mono (ihx F (expo y ++ live) _ ke kr st a hx h he) ?_)
    intro e a1 w1 hq
    cases e with
    | normal =>
      obtain ⟨st1, h1, he1, rfl⟩ := hq
      exact ihy F live kn ke kr st1 a1 hy h1 he1
    | exit id => exact hq
    | ret => exact hq
    | goto l => exact hq.elim
    | panic c => exact hq.elim
    | outgrown => exact hq.elim
  | region id ops draw =>
    intro F live kn ke kr st a hM h he
    have hQ : ∀ (kn : St → Prop) (F : Fm) st a, kn st → EnvOK F st.w st.env a → PQ F kn ke kr .normal a (ext st.w st.own) := fun kn F st a h1 h2 => ⟨st, h1, h2, rfl⟩
    have hgo : ∀ (F : Fm) (kn : St → Prop) (st : St) (a : Act), (∀ t ∈ mods (.region id ops draw), t ∈ F.M) → shReg P F.n ops draw kn st → EnvOK F st.w st.env a →
        (Code.region id ops draw).wp P (PQ F kn ke kr) a (ext st.w st.own) := by
      intro F kn st a hM h he
      cases draw with
      | false => exact region_ok (hQ kn F) hM h he
      | true => exact shDraw_ok hM hm (fun _ _ _ h => h) (hQ kn F) h he
    unfold sh at h
    split at h
    · exact hgo F kn st a hM h he
    · obtain ⟨st1, h1, he1, ho1, hw1⟩ := flush_elim h he
      rw [← hw1]
      have h2 := h1 (fun vs w1 => kn ⟨w1, [], setsE (drops st1.env (opsMods ops.toList)) (dedup ((opsMods ops.toList).filter (mem live))) vs⟩) (allCs_intro fun vs w1 hh => hh)
      have h3 := hgo ⟨F.n, opsMods ops.toList, fun t => a.tmps[t]?⟩ _ st1 a (fun t ht => ht) h2 (he1 st1.w).narrow
      have hwx : ext st1.w st1.own = st1.w := by rw [ho1]; rfl
      rw [hwx] at h3
      refine wp_mono h3 fun e a1 w1 hq => ?_
      refine PQ.widen hM (he1 st1.w) ?_ hq
      intro st2 hl he2 hw2
      obtain ⟨vs, hv, hk⟩ := land_elim hl
      refine ⟨_, hk, env_join hM he1 he2 hv, ?_⟩
      exact hw2
  | cond c x y ihx ihy =>
    intro F live kn ke kr st a hM h he
    have hx : ∀ t ∈ mods x, t ∈ F.M := fun t ht => hM t (List.mem_append_left _ ht)
    have hy : ∀ t ∈ mods y, t ∈ F.M := fun t ht => hM t (List.mem_append_right _ ht)
    have hgo : ∀ (F : Fm) (kn : St → Prop) (st : St) (t : Bool), (∀ t ∈ mods x, t ∈ F.M) → (∀ t ∈ mods y, t ∈ F.M) → a.eval c = .bool t → Br t (sh P F.n x live kn ke kr st) (sh P F.n y live kn ke kr st) → EnvOK F st.w st.env a →
        (Code.cond c x y).wp P (PQ F kn ke kr) a (ext st.w st.own) := by
      intro F kn st t hx hy hc h he
      cases t
      · exact wp_cond_false hc (ihy F live kn ke kr st a hy h he)
      · exact wp_cond_true hc (ihx F live kn ke kr st a hx h he)
    unfold sh at h
    split at h
    case h_2 => exact h.elim
    rename_i t hc
    have hc' : a.eval c = .bool t := he.op hc
    split at h
    · obtain ⟨st1, h1, he1, ho1, hw1⟩ := flush_elim h he
      rw [← hw1]
      have h2 := h1 (fun vs w1 => kn ⟨w1, [], setsE (drops st1.env (mods x ++ mods y)) (dedup ((mods x ++ mods y).filter fun s => mem live s && (keyed st1.env s || (mem (sure x) s && mem (sure y) s)))) vs⟩) (allCs_intro fun vs w1 hh => hh)
      have h3 := hgo ⟨F.n, mods x ++ mods y, fun t => a.tmps[t]?⟩ _ st1 t (fun t ht => List.mem_append_left _ ht) (fun t ht => List.mem_append_right _ ht) hc' h2 (he1 st1.w).narrow
      have hwx : ext st1.w st1.own = st1.w := by rw [ho1]; rfl
      rw [hwx] at h3
      refine wp_mono h3 fun e a1 w1 hq => ?_
      refine PQ.widen hM (he1 st1.w) ?_ hq
      intro st2 hl he2 hw2
      obtain ⟨vs, hv, hk⟩ := land_elim hl
      exact ⟨_, hk, env_join hM he1 he2 hv, hw2⟩
    · exact hgo F kn st t hx hy hc' h he
  | block id body ih =>
    intro F live kn ke kr st a hM h he
    have hgo : ∀ (F : Fm) (kn : St → Prop) (st : St), (∀ t ∈ mods body, t ∈ F.M) → sh P F.n body live kn (fun i st => match Nat.beq i id with | true => kn st | false => ke i st) kr st → EnvOK F st.w st.env a →
        (Code.block id body).wp P (PQ F kn ke kr) a (ext st.w st.own) := by
      intro F kn st hM h he
      refine wp_block (wp_mono (ih F live _ _ kr st a hM h he) ?_)
      intro e a1 w1 hq
      cases e with
      | normal => exact hq
      | exit i =>
        obtain ⟨st1, h1, he1, hw1⟩ := hq
        simp only [Exit.inBlock]
        by_cases hi : i = id
        · subst hi
          simp only [if_true]
          simp only [Nat.beq_refl] at h1
          exact ⟨st1, h1, he1, hw1⟩
        · simp only [hi, if_false]
          simp only [nbeq hi] at h1
          exact ⟨st1, h1, he1, hw1⟩
      | ret => exact hq
      | goto l => exact hq.elim
      | panic c => exact hq.elim
      | outgrown => exact hq.elim
    unfold sh at h
    split at h
    · exact hgo F kn st hM h he
    · obtain ⟨st1, h1, he1, ho1, hw1⟩ := flush_elim h he
      rw [← hw1]
      have h2 := h1 (fun vs w1 => kn ⟨w1, [], setsE (drops st1.env (mods body)) (dedup ((mods body).filter fun s => mem live s && keyed st1.env s)) vs⟩) (allCs_intro fun vs w1 hh => hh)
      have h3 := hgo ⟨F.n, mods body, fun t => a.tmps[t]?⟩ _ st1 (fun t ht => ht) h2 (he1 st1.w).narrow
      have hwx : ext st1.w st1.own = st1.w := by rw [ho1]; rfl
      rw [hwx] at h3
      refine wp_mono h3 fun e a1 w1 hq => ?_
      refine PQ.widen hM (he1 st1.w) ?_ hq
      intro st2 hl he2 hw2
      obtain ⟨vs, hv, hk⟩ := land_elim hl
      exact ⟨_, hk, env_join hM he1 he2 hv, hw2⟩
  | loop body ih =>
    intro F live kn ke kr st a hM h he
    unfold sh at h
    obtain ⟨st1, h1, he1, ho1, hw1⟩ := flush_elim h he
    rw [← hw1]
    split at h1
    · exact h1.elim
    rename_i vs0 hv0
    split at h1
    · exact h1.elim
    rename_i hf0
    obtain ⟨I, ⟨n0, hI0⟩, hround⟩ := h1
    generalize hjs : dedup ((mods body).filter fun s => mem (expo body ++ live) s && keyed st1.env s) = js at *
    refine wp_loop_n (fun n a' w' => ∃ vs, I n vs w' ∧ fitCs (patsOfV vs0) vs = true ∧ EnvOK ⟨F.n, mods body, fun t => a.tmps[t]?⟩ w' (setsE (drops st1.env (mods body)) js vs) a') ?_ n0 a st1.w ⟨vs0, hI0, hf0, ?_⟩
    · intro n a1 w1 hI
      obtain ⟨vs, hI, hf, he2⟩ := hI
      have hb := allCs_elim (hround n) vs hf w1 hI
      have h3 := ih ⟨F.n, mods body, fun t => a.tmps[t]?⟩ (expo body ++ live) _ ke kr ⟨w1, [], setsE (drops st1.env (mods body)) js vs⟩ a1 (fun t ht => ht) hb he2
      refine wp_mono h3 fun e a2 w2 hq => ?_
      cases e with
      | normal =>
        obtain ⟨st2, hl, he3, rfl⟩ := hq
        obtain ⟨vs', hv', hf', n', hlt, hI'⟩ := landF_elim hl
        refine ⟨n', hlt, vs', hI', hf', ?_⟩
        exact env_join (F := ⟨F.n, mods body, fun t => a.tmps[t]?⟩) (M := mods body) (a0 := a) (fun t ht => ht) (fun w => (he1 w).narrow) he3 hv'
      | exit id => obtain ⟨st2, h1, h2, h3⟩ := hq; exact ⟨st2, h1, (he1 st1.w).widen hM h2, h3⟩
      | ret => obtain ⟨st2, h1, h2, h3⟩ := hq; exact ⟨st2, h1, (he1 st1.w).widen hM h2, h3⟩
      | goto l => exact hq.elim
      | panic c => exact hq.elim
      | outgrown => exact hq.elim
    · exact env_join (F := ⟨F.n, mods body, fun t => a.tmps[t]?⟩) (M := mods body) (a0 := a) (fun t ht => ht) (fun w => (he1 w).narrow) ((he1 st1.w).narrow) hv0

/-! A function. -/
theorem look_argEnv : ∀ (l : List Value) (k t : Nat) (v : EV), look (argEnv k l) t = some v → ∃ j u, t = k + j ∧ l[j]? = some u ∧ v = .val u
  | [], _, _, _, h => by simp [argEnv, look] at h
  | x :: l, k, t, v, h => by
    simp only [argEnv, look] at h
    by_cases hk : k = t
    · subst hk
      simp only [Nat.beq_refl, cond_true, Option.some.injEq] at h
      exact ⟨0, x, rfl, rfl, h.symm⟩
    · simp only [nbeq hk, cond_false] at h
      obtain ⟨j, u, h1, h2, h3⟩ := look_argEnv l (k + 1) t v h
      exact ⟨j + 1, u, by omega, by simpa using h2, h3⟩

theorem run_mapM_results {tmps : Array Value} {W : World} : ∀ (rs : List ResultVar) (st : St) (a : Act) (F : Fm) (K : List Value → Prop), a.tmps = tmps → EnvOK F st.w st.env a → W = ext st.w st.own → resultsK P st rs K →
    ∃ vs, K vs ∧ (rs.mapM (fun | .tmp t => pure (tmps.getD t undef) | .cell a t => do loadVar t (← asAddr (tmps.getD a undef)) : ResultVar → Sem Value)).run P W = .ok vs W
  | [], st, a, F, K, _, _, _, h => ⟨[], h, rfl⟩
  | .tmp t :: rs, st, a, F, K, ha, he, hW, h => by
    unfold resultsK at h
    split at h
    · exact h.elim
    rename_i e hl
    obtain ⟨vs, hK, hr⟩ := run_mapM_results rs st a F _ ha he hW h
    refine ⟨_, hK, ?_⟩
    have hg := he.getD hl
    rw [ha] at hg
    simp only [List.mapM_cons, Sem.run_bind, Sem.run_pure, Result.andThen_ok, hr, hg]
  | .cell ad t :: rs, st, a, F, K, ha, he, hW, h => by
    unfold resultsK at h
    split at h
    · exact h.elim
    rename_i e hl
    have hg := he.getD hl
    rw [ha] at hg
    have hq := load_ok (P := P) (st := st) (o := { dst := none, op := .load t (.const (e.toV st.w)), type := 0, pos := "", after := #[], guard := none }) (ρ := fun | .const v => v | _ => undef) (x := .const (e.toV st.w)) (e := e) rfl rfl h
    obtain ⟨u, ag, hK1, hrun, _, _⟩ := hq
    obtain ⟨vs, hK, hr⟩ := run_mapM_results rs st a F _ ha he hW hK1
    refine ⟨_, hK, ?_⟩
    have hload : ∃ p, e.toV st.w = .pointer (some p) ∧ (loadVar t p).run P W = .ok (u.toV st.w) W := by
      rw [← hW] at hrun
      unfold execOp at hrun
      simp only at hrun
      unfold Instr.loadAt at hrun
      cases hv : e.toV st.w with
      | pointer p =>
        cases p with
        | none => rw [hv] at hrun; simp only [Instr.sureAddr, Sem.run_bind, run_stuck, Result.andThen_halt] at hrun; cases hrun
        | some p =>
          refine ⟨p, rfl, ?_⟩
          rw [hv] at hrun
          simp only [run_sureAddr, Sem.run_bind, Result.andThen_ok, Sem.run_pure] at hrun
          cases hlv : (loadVar t p).run P W with
          | ok v w' =>
            rw [hlv] at hrun
            simp only [Result.andThen_ok] at hrun
            injection hrun with h1 h2
            injection h1 with h1
            rw [h1, h2]
          | halt x w' => rw [hlv] at hrun; cases hrun
      | _ => rw [hv] at hrun; simp only [Instr.sureAddr, Sem.run_bind, run_stuck, Result.andThen_halt] at hrun; cases hrun
    obtain ⟨p, hp, hlv⟩ := hload
    have hasa : (asAddr (.pointer (some p))).run P W = .ok p W := rfl
    simp only [List.mapM_cons, Sem.run_bind, Result.andThen_ok, hg, hp, hasa, hlv, hr, Sem.run_pure]

theorem atRet_ok {F : Fm} {fn : Func} {R : Ending → World → Prop} {st : St} {a : Act} (h : atRet P fn.results.toList R st) (he : EnvOK F st.w st.env a) :
    a.defers = [] ∧ ∃ v, (results fn a.tmps).run P (ext st.w st.own) = .ok v (ext st.w st.own) ∧ R (.returned v) (ext st.w st.own) := by
  refine ⟨he.defers, ?_⟩
  obtain ⟨vs, hK, hr⟩ := run_mapM_results fn.results.toList st a F _ rfl he rfl h
  refine ⟨retVal vs, ?_, ?_⟩
  · unfold results
    rw [Array.mapM_eq_mapM_toList]
    simp only [Sem.run_bind, Sem.run_map]
    erw [hr]
    simp only [Result.andThen_ok, Sem.run_pure]
    congr 1
    rcases vs with _ | ⟨v, _ | ⟨v', vs⟩⟩
    · simp [retVal]
    · simp [retVal]
    · simp [retVal]
  · split at hK
    · rename_i ho; rw [ho]; exact hK
    · exact hK _ rfl

/-- The walk of a function gives what a call does. -/
theorem calls_of_sh {f : FuncId} {fn : Func} {c : Code} {args : List Value} {w : World} {R : Ending → World → Prop} (hm : P.follows .mixedOrders = true) (hf : P.funcs[f]? = some fn) (hb : fn.body = some c) (hn : args.length ≤ fn.ntmps)
    (h : shFn P fn.ntmps fn.results.toList c args w R) : Calls P f args.toArray w R := by
  refine calls_of_wp hf hb ?_
  have he : EnvOK ⟨fn.ntmps, mods c, fun t => (args.toArray ++ Array.replicate (fn.ntmps - args.toArray.size) undef)[t]?⟩ w (argEnv 0 args) { tmps := args.toArray ++ Array.replicate (fn.ntmps - args.toArray.size) undef, defers := [] } := by
    refine ⟨rfl, by simp; omega, fun _ _ => rfl, fun t v hl => ?_⟩
    obtain ⟨j, u, h1, h2, rfl⟩ := look_argEnv args 0 t v hl
    have hj : t = j := by omega
    subst hj
    have hlt : t < args.length := (List.getElem?_eq_some_iff.1 h2).1
    simp only [EV.toV]
    rw [Array.getElem?_append_left (by simpa using hlt)]
    simpa using h2
  have h1 := sh_ok hm c ⟨fn.ntmps, mods c, fun t => (args.toArray ++ Array.replicate (fn.ntmps - args.toArray.size) undef)[t]?⟩ (resLive fn.results.toList) _ _ _ ⟨w, [], argEnv 0 args⟩ _ (fun t ht => ht) h he
  refine wp_mono h1 fun e a1 w1 hq => ?_
  cases e with
  | normal => obtain ⟨st, h1, h2, rfl⟩ := hq; exact atRet_ok h1 h2
  | ret => obtain ⟨st, h1, h2, rfl⟩ := hq; exact atRet_ok h1 h2
  | exit id => obtain ⟨st, h1, _⟩ := hq; exact h1.elim
  | goto l => exact hq.elim
  | panic c => exact hq.elim
  | outgrown => exact hq.elim

end Go.Sh
end

section
/- Memory, as the contracts speak of it: what a call may change, rows of cells, blocks known whole. No condition. -/
namespace Go.Sh
open Go

/-! What a call may change. -/
/-- From w to w' only blocks of 'fp' may have changed; blocks may have been added. -/
structure Mod (fp : Nat → Prop) (w w' : World) : Prop where
  os : w'.os = w.os
  tape : w'.tape = w.tape
  output : w'.output = w.output
  size : w.heap.size ≤ w'.heap.size
  keep : ∀ b, b < w.heap.size → ¬ fp b → w'.heap[b]? = w.heap[b]?
def NoB : Nat → Prop := fun _ => False
theorem Mod.refl (fp : Nat → Prop) (w : World) : Mod fp w w := ⟨rfl, rfl, rfl, Nat.le_refl _, fun _ _ _ => rfl⟩
theorem Mod.trans {fp fp' fp'' : Nat → Prop} {a b c : World} (h : Mod fp a b) (h' : Mod fp' b c) (h1 : ∀ x, fp x → fp'' x) (h2 : ∀ x, x < a.heap.size → fp' x → fp'' x) : Mod fp'' a c :=
  ⟨h'.os.trans h.os, h'.tape.trans h.tape, h'.output.trans h.output, Nat.le_trans h.size h'.size, fun x hx hn =>
    (h'.keep x (Nat.lt_of_lt_of_le hx h.size) (fun hf => hn (h2 x hx hf))).trans (h.keep x hx (fun hf => hn (h1 x hf)))⟩
theorem Mod.mono {fp fp' : Nat → Prop} {a b : World} (h : Mod fp a b) (h1 : ∀ x, x < a.heap.size → fp x → fp' x) : Mod fp' a b :=
  ⟨h.os, h.tape, h.output, h.size, fun x hx hn => h.keep x hx (fun hf => hn (h1 x hx hf))⟩
theorem Mod.to {fp : Nat → Prop} {a b : World} (h : Mod NoB a b) : Mod fp a b := h.mono fun _ _ hf => hf.elim
theorem Mod.then {fp : Nat → Prop} {a b c : World} (h : Mod fp a b) (h' : Mod fp b c) : Mod fp a c := h.trans h' (fun _ h => h) (fun _ _ h => h)
/-- What is done to blocks that are new leaves the old ones alone. -/
theorem Mod.new {fp : Nat → Prop} {a b c : World} (h : Mod fp a b) (fp' : Nat → Prop) (h' : Mod fp' b c) (hn : ∀ x, x < a.heap.size → fp' x → fp x) : Mod fp a c := h.trans h' (fun _ h => h) hn

theorem ext_mod (w : World) : ∀ os : List OB, Mod NoB w (ext w os)
  | [] => Mod.refl _ _
  | o :: os => by
    have h := ext_mod (w.alloc o.toObj) os
    refine ⟨h.os, h.tape, h.output, ?_, fun b hb _ => ?_⟩
    · have := h.size; rw [World.size_alloc] at this; simp only [ext]; omega
    · exact ext_old w (o :: os) b hb
theorem Ext.mod {w w1 : World} {os : List OB} (h : Ext w os w1) : Mod NoB w w1 := by unfold Ext at h; subst h; exact ext_mod w os
theorem Ext.size {w w1 : World} {os : List OB} (h : Ext w os w1) : w1.heap.size = w.heap.size + os.length := by unfold Ext at h; subst h; exact ext_size w os
theorem drew_mod (w : World) : Mod NoB w w.drew := ⟨rfl, rfl, rfl, Nat.le_refl _, fun _ _ _ => rfl⟩

/-! Blocks known whole. -/
def Blk (w : World) (b : Nat) (cs : List Value) (t : TypeId) : Prop := w.heap[b]? = some (.cells cs.toArray t (0, 0))
theorem Blk.lt {w : World} {b : Nat} {cs : List Value} {t : TypeId} (h : Blk w b cs t) : b < w.heap.size := by
  rcases Nat.lt_or_ge b w.heap.size with h' | h'
  · exact h'
  · unfold Blk at h; rw [Array.getElem?_eq_none h'] at h; cases h
theorem Blk.keep {fp : Nat → Prop} {w w' : World} {b : Nat} {cs : List Value} {t : TypeId} (h : Blk w b cs t) (hm : Mod fp w w') (hn : ¬ fp b) : Blk w' b cs t := (hm.keep b h.lt hn).trans h
theorem Blk.cell {w : World} {b : Nat} {cs : List Value} {t : TypeId} (h : Blk w b cs t) (i : Nat) : w.cell? ⟨b, i, none⟩ = cs[i]? := by
  unfold World.cell?; unfold Blk at h; rw [h]; simp
theorem Blk.free {w : World} {b : Nat} {cs : List Value} {t : TypeId} (h : Blk w b cs t) (a : Addr) (ha : a.block = b) : w.frozen? a = false := by
  unfold World.frozen?; unfold Blk at h; rw [ha, h]; simp
theorem Ext.blk {w w1 : World} {os : List OB} (h : Ext w os w1) (i : Nat) {cs : List Value} {t : TypeId} (ho : nthOB os i = some (.cells cs t)) : Blk w1 (w.heap.size + i) cs t := by
  unfold Ext at h; subst h; exact ext_new w os i _ ho
theorem Ext.obj {w w1 : World} {os : List OB} (h : Ext w os w1) (i : Nat) {o : Obj} (ho : nthOB os i = some (.obj o)) : w1.heap[w.heap.size + i]? = some o := by
  unfold Ext at h; subst h; exact ext_new w os i _ ho

theorem heap_setCell (w : World) (a : Addr) (v : Value) (b : Nat) (h : b ≠ a.block) : (w.setCell a v).heap[b]? = w.heap[b]? := by
  simp only [World.setCell, Array.getElem?_modify]
  rw [if_neg (fun e => h e.symm)]
theorem blk_setCell {w : World} {b : Nat} {cs : List Value} {t : TypeId} (h : Blk w b cs t) (i : Nat) (v : Value) : Blk (w.setCell ⟨b, i, none⟩ v) b (cs.set i v) t := by
  unfold Blk at *
  simp [World.setCell, Array.getElem?_modify, h]
theorem setCell_mod (w : World) (a : Addr) (v : Value) : Mod (· = a.block) w (w.setCell a v) :=
  ⟨rfl, rfl, rfl, by rw [World.size_setCell]; exact Nat.le_refl _, fun b _ hn => heap_setCell w a v b hn⟩
theorem setCells_mod (a : Addr) : ∀ (vs : List Value) (w : World) (i : Nat), Mod (· = a.block) w (setCells w a i vs)
  | [], w, _ => Mod.refl _ w
  | v :: vs, w, i => by
    have h1 := setCell_mod w (a.add i) v
    rw [add_block] at h1
    exact h1.then (setCells_mod a vs _ (i + 1))
theorem SetC.mod {w w1 : World} {a : Addr} {vs : List Value} (h : SetC w a vs w1) : Mod (· = a.block) w w1 := by unfold SetC at h; subst h; exact setCells_mod a vs w 0
theorem SetC.size {w w1 : World} {a : Addr} {vs : List Value} (h : SetC w a vs w1) : w1.heap.size = w.heap.size := by
  unfold SetC at h; subst h
  have : ∀ (vs : List Value) (w : World) (i : Nat), (setCells w a i vs).heap.size = w.heap.size := by
    intro vs
    induction vs with
    | nil => intros; rfl
    | cons v vs ih => intro w i; rw [setCells, ih, World.size_setCell]
  exact this vs w 0
/-- A store of a row into a block known whole. -/
def setAt : List Value → Nat → List Value → List Value
  | l, _, [] => l
  | l, i, v :: vs => setAt (l.set i v) (i + 1) vs
theorem setCells_blk {b : Nat} {t : TypeId} {off : Nat} : ∀ (vs : List Value) (w : World) (i : Nat) (cs : List Value), Blk w b cs t → Blk (setCells w ⟨b, off, none⟩ i vs) b (setAt cs (off + i) vs) t
  | [], _, _, _, h => h
  | v :: vs, w, i, cs, h => by
    rw [setCells, setAt, own_add]
    have := setCells_blk (off := off) vs _ (i + 1) _ (blk_setCell h (off + i) v)
    rw [← Nat.add_assoc] at this
    exact this
theorem SetC.blk {w w1 : World} {b off : Nat} {vs cs : List Value} {t : TypeId} (h : SetC w ⟨b, off, none⟩ vs w1) (hb : Blk w b cs t) : Blk w1 b (setAt cs off vs) t := by
  unfold SetC at h; subst h; exact setCells_blk vs w 0 cs hb
theorem canStore_blk {w : World} {b off : Nat} {t : TypeId} {cs : List Value} (hb : Blk w b cs t) : ∀ (vs : List Value) (i : Nat), oneAll vs = true → off + i + vs.length ≤ cs.length → CanStore w ⟨b, off, none⟩ i vs
  | [], _, _, _ => trivial
  | v :: vs, i, h1, h2 => by
    simp only [oneAll, Bool.and_eq_true] at h1
    simp only [List.length_cons] at h2
    refine ⟨h1.1, ?_, ?_, canStore_blk hb vs (i + 1) h1.2 (by omega)⟩
    · rw [own_add, hb.cell, List.getElem?_eq_getElem (by omega)]; rfl
    · exact hb.free _ (by rw [add_block])

/-! Rows of cells. -/
/-- The address is the start of a row of these cells (any address if there is none). -/
def Row (w : World) (p : Option Addr) (cs : List Value) : Prop := cs = [] ∨ ∃ a, p = some a ∧ ∀ i v, cs[i]? = some v → w.cell? (a.add i) = some v
/-- The row's block is in U. -/
def In (U : Nat → Prop) (p : Option Addr) : Prop := ∀ a, p = some a → U a.block
theorem add_add (a : Addr) (i j : Nat) : (a.add i).add j = a.add (i + j) := by
  unfold Addr.add
  by_cases hi : i = 0 <;> by_cases hj : j = 0 <;> simp [hi, hj, Nat.add_assoc]
theorem Row.nil (w : World) (p : Option Addr) : Row w p [] := .inl rfl
theorem Row.at {w : World} {p : Option Addr} {cs : List Value} (h : Row w p cs) {i : Nat} {v : Value} (hi : cs[i]? = some v) : ∃ a, p = some a ∧ w.cell? (a.add i) = some v := by
  rcases h with rfl | ⟨a, rfl, h⟩
  · cases hi
  · exact ⟨a, rfl, h i v hi⟩
theorem Row.keep {fp : Nat → Prop} {w w' : World} {p : Option Addr} {cs : List Value} (h : Row w p cs) (hm : Mod fp w w') (hn : ∀ a, p = some a → ¬ fp a.block) : Row w' p cs := by
  rcases h with rfl | ⟨a, rfl, h⟩
  · exact .inl rfl
  · refine .inr ⟨a, rfl, fun i v hi => ?_⟩
    have hc := h i v hi
    rw [cell?_congr (w := w)]
    · exact hc
    · have hb := cell?_lt hc
      rw [add_block] at hb ⊢
      exact hm.keep _ hb (hn a rfl)
theorem Row.of_blk {w : World} {b : Nat} {cs : List Value} {t : TypeId} (h : Blk w b cs t) : Row w (some ⟨b, 0, none⟩) cs :=
  .inr ⟨_, rfl, fun i v hi => by rw [own_add, Nat.zero_add, h.cell]; exact hi⟩
theorem Row.front {w : World} {p : Option Addr} {cs ds : List Value} (h : Row w p (cs ++ ds)) : Row w p cs := by
  rcases h with h | ⟨a, rfl, h⟩
  · exact .inl (List.append_eq_nil_iff.1 h).1
  · exact .inr ⟨a, rfl, fun i v hi => h i v (by rw [List.getElem?_append_left (List.getElem?_eq_some_iff.1 hi).1]; exact hi)⟩
theorem Row.drop {w : World} {a : Addr} {cs : List Value} (k : Nat) (h : Row w (some a) cs) : Row w (some (a.add k)) (cs.drop k) := by
  rcases h with rfl | ⟨b, hb, h⟩
  · exact .inl (by simp)
  · injection hb with hb
    subst hb
    exact .inr ⟨_, rfl, fun i v hi => by rw [add_add]; exact h _ v (by rw [List.getElem?_drop] at hi; exact hi)⟩
theorem Row.cells {w : World} {a : Addr} {cs : List Value} (h : Row w (some a) cs) : ∀ (vs : List Value) (k i : Nat), (∀ j v, vs[j]? = some v → cs[k + i + j]? = some v) → CellsAre w (a.add k) i vs
  | [], _, _, _ => trivial
  | v :: vs, k, i, hv => by
    refine ⟨?_, Row.cells h vs k (i + 1) fun j u hu => by have := hv (j + 1) u (by simpa using hu); rw [← this]; congr 1; omega⟩
    rw [add_add]
    obtain ⟨b, hb, hc⟩ := h.at (i := k + i) (v := v) (by have := hv 0 v rfl; simpa using this)
    injection hb with hb
    rw [hb]; exact hc

/-! Contracts. -/
theorem CallsF.mono {P : Program} {f : FuncId} {args : Array Value} {w : World} {R R' : Ending → World → Prop} (h : CallsF P f args w R) (hr : ∀ e w', R e w' → R' e w') : CallsF P f args w R' := ⟨h.1, h.2.mono hr⟩
/-- The call returns v and may have changed the blocks of fp alone. -/
def Ret (v : Value) (fp : Nat → Prop) (w : World) (e : Ending) (w' : World) : Prop := e = .returned v ∧ Mod fp w w'

theorem Br_intro {b : Bool} {X Y : Prop} (h1 : b = true → X) (h0 : b = false → Y) : Br b X Y := by cases b; exact h0 rfl; exact h1 rfl
theorem Br_true {b : Bool} {X Y : Prop} (h : b = true) (hx : X) : Br b X Y := by subst h; exact hx
theorem Br_false {b : Bool} {X Y : Prop} (h : b = false) (hy : Y) : Br b X Y := by subst h; exact hy
theorem Br_dec {p : Prop} [Decidable p] {X Y : Prop} (h1 : p → X) (h0 : ¬ p → Y) : Br (decide p) X Y := by
  by_cases h : p
  · exact Br_true (by simpa using h) (h1 h)
  · exact Br_false (by simpa using h) (h0 h)
theorem Br_eq {a b : Int} {X Y : Prop} (h1 : a = b → X) (h0 : a ≠ b → Y) : Br (a == b) X Y := by
  by_cases h : a = b
  · exact Br_true (by simpa using h) (h1 h)
  · exact Br_false (by simpa using h) (h0 h)
theorem Br_ne {a b : Int} {X Y : Prop} (h1 : a ≠ b → X) (h0 : a = b → Y) : Br (a != b) X Y := by
  by_cases h : a = b
  · exact Br_false (by simpa using h) (h0 h)
  · exact Br_true (by simpa using h) (h1 h)
theorem Br_not {b : Bool} {X Y : Prop} (h : Br b Y X) : Br (!b) X Y := by cases b <;> exact h

/-! Numbers that lie in their kind's range. -/
theorem wrap_i64 {n : Int} (h1 : -9223372036854775808 ≤ n) (h2 : n ≤ 9223372036854775807) : IntKind.i64.wrap n = n := by
  unfold IntKind.wrap; simp only [IntKind.bits, IntKind.signed]; simp; omega
theorem wrap_i32 {n : Int} (h1 : -2147483648 ≤ n) (h2 : n ≤ 2147483647) : IntKind.i32.wrap n = n := by
  unfold IntKind.wrap; simp only [IntKind.bits, IntKind.signed]; simp; omega
theorem wrap_i16 {n : Int} (h1 : -32768 ≤ n) (h2 : n ≤ 32767) : IntKind.i16.wrap n = n := by
  unfold IntKind.wrap; simp only [IntKind.bits, IntKind.signed]; simp; omega
theorem wrap_i8 {n : Int} (h1 : -128 ≤ n) (h2 : n ≤ 127) : IntKind.i8.wrap n = n := by
  unfold IntKind.wrap; simp only [IntKind.bits, IntKind.signed]; simp; omega
theorem wrap_u64 {n : Int} (h1 : 0 ≤ n) (h2 : n ≤ 18446744073709551615) : IntKind.u64.wrap n = n := by
  unfold IntKind.wrap; simp only [IntKind.bits, IntKind.signed]; simp; omega
theorem wrap_u32 {n : Int} (h1 : 0 ≤ n) (h2 : n ≤ 4294967295) : IntKind.u32.wrap n = n := by
  unfold IntKind.wrap; simp only [IntKind.bits, IntKind.signed]; simp; omega
theorem wrap_u8 {n : Int} (h1 : 0 ≤ n) (h2 : n ≤ 255) : IntKind.u8.wrap n = n := by
  unfold IntKind.wrap; simp only [IntKind.bits, IntKind.signed]; simp; omega

end Go.Sh
end

section
/- Slices of the call's own, and what append does to them. No condition. -/
namespace Go.Sh
open Go

/-- The slice p (n elements, capacity c) of elements of type e (size cells each) owns the cells xs. -/
def Own (w : World) (e : TypeId) (size : Nat) (p : Option Addr) (n c : Nat) (xs : List Value) : Prop := w.ownsRow 0 e size (.slice p n c) n xs
/-- The block of an address. -/
def At (p : Option Addr) : Nat → Prop := fun b => ∃ a, p = some a ∧ a.block = b

theorem Own.none (w : World) (e : TypeId) (size : Nat) : Own w e size none 0 0 [] := World.ownsRow_nil w 0 e size
theorem Own.len {w : World} {e : TypeId} {size : Nat} {p : Option Addr} {n c : Nat} {xs : List Value} (h : Own w e size p n c xs) : xs.length = n * size := h.1
theorem Own.form {w : World} {e : TypeId} {size : Nat} {p : Option Addr} {n c : Nat} {xs : List Value} (h : Own w e size p n c xs) :
    (p = Option.none ∧ n = 0 ∧ c = 0 ∧ xs = []) ∨ ∃ g rest, p = some ⟨g, 0, Option.none⟩ ∧ Blk w g (xs ++ rest) e ∧ n ≤ c ∧ c ≤ maxLen ∧ (xs ++ rest).length = c * size := by
  rcases h.2 with ⟨hv, hn⟩ | ⟨g, cap, cur, hv, _, hb, h1, h2, h3, h4⟩
  · injection hv with h1 h2 h3
    have hl := h.1
    rw [hn, Nat.zero_mul] at hl
    exact .inl ⟨h1, hn, h3, List.eq_nil_of_length_eq_zero hl⟩
  · injection hv with e1 e2 e3
    subst e1; subst e3
    refine .inr ⟨g, cur.toList.drop (n * size), rfl, ?_, h1, h2, ?_⟩
    · unfold Blk; rw [← h4, List.take_append_drop]; exact hb
    · rw [← h4, List.take_append_drop]; simpa using h3
theorem Own.of_blk {w : World} {e : TypeId} {size : Nat} {g n c : Nat} {xs rest : List Value} (hb : Blk w g (xs ++ rest) e) (h1 : n ≤ c) (h2 : c ≤ maxLen) (h3 : (xs ++ rest).length = c * size) (h4 : xs.length = n * size) :
    Own w e size (some ⟨g, 0, Option.none⟩) n c xs :=
  ⟨h4, .inr ⟨g, c, (xs ++ rest).toArray, rfl, Nat.zero_le _, hb, h1, h2, by simpa using h3, by rw [← h4]; simp⟩⟩
theorem Own.le {w : World} {e : TypeId} {size : Nat} {p : Option Addr} {n c : Nat} {xs : List Value} (h : Own w e size p n c xs) : n ≤ c ∧ c ≤ maxLen := by
  rcases h.form with ⟨_, rfl, rfl, _⟩ | ⟨g, rest, _, _, h1, h2, _⟩
  · exact ⟨Nat.le_refl _, Nat.zero_le _⟩
  · exact ⟨h1, h2⟩
theorem Own.row {w : World} {e : TypeId} {size : Nat} {p : Option Addr} {n c : Nat} {xs : List Value} (h : Own w e size p n c xs) : Row w p xs := by
  rcases h.form with ⟨_, _, _, rfl⟩ | ⟨g, rest, rfl, hb, _⟩
  · exact .inl rfl
  · exact (Row.of_blk hb).front
theorem Own.keep {fp : Nat → Prop} {w w' : World} {e : TypeId} {size : Nat} {p : Option Addr} {n c : Nat} {xs : List Value} (h : Own w e size p n c xs) (hm : Mod fp w w') (hn : ∀ b, At p b → ¬ fp b) : Own w' e size p n c xs := by
  rcases h.form with ⟨rfl, rfl, rfl, rfl⟩ | ⟨g, rest, rfl, hb, h1, h2, h3⟩
  · exact Own.none _ _ _
  · exact Own.of_blk (hb.keep hm (hn g ⟨_, rfl, rfl⟩)) h1 h2 h3 h.len
theorem Own.lt {w : World} {e : TypeId} {size : Nat} {p : Option Addr} {n c : Nat} {xs : List Value} (h : Own w e size p n c xs) : ∀ b, At p b → b < w.heap.size := by
  rintro b ⟨a, rfl, rfl⟩
  rcases h.form with ⟨h1, _⟩ | ⟨g, rest, h1, hb, _⟩
  · cases h1
  · injection h1 with h1; subst h1; exact hb.lt
theorem Own.fresh {w w1 : World} {os : List OB} (h : Ext w os w1) (i : Nat) {cs : List Value} {t : TypeId} (size n : Nat) (ho : nthOB os i = some (.cells cs t)) (hn : cs.length = n * size) (hm : n ≤ maxLen) : Own w1 t size (some ⟨w.heap.size + i, 0, Option.none⟩) n n cs :=
  Own.of_blk (rest := []) (by rw [List.append_nil]; exact h.blk i ho) (Nat.le_refl _) hm (by simpa using hn) hn

theorem Own.base {w : World} {e : TypeId} {size B : Nat} {p : Option Addr} {n c : Nat} {xs : List Value} (h : Own w e size p n c xs) (hB : ∀ b, At p b → B ≤ b) : w.ownsRow B e size (.slice p n c) n xs := by
  refine ⟨h.1, ?_⟩
  rcases h.2 with h2 | ⟨g, cap, cur, hv, _, hr⟩
  · exact .inl h2
  · injection hv with e1 e2 e3
    exact .inr ⟨g, cap, cur, by rw [e1, e3], hB g ⟨_, e1, rfl⟩, hr⟩
theorem own_of_base {w : World} {e : TypeId} {size B : Nat} {v : Value} {n : Nat} {xs : List Value} (h : w.ownsRow B e size v n xs) : ∃ p c, v = .slice p n c ∧ Own w e size p n c xs ∧ ∀ b, At p b → B ≤ b := by
  rcases h.2 with ⟨hv, hn⟩ | ⟨g, cap, cur, hv, hg, hr⟩
  · subst hn
    exact ⟨Option.none, 0, hv, ⟨h.1, .inl ⟨rfl, rfl⟩⟩, fun b hb => by obtain ⟨a, ha, _⟩ := hb; cases ha⟩
  · refine ⟨_, cap, hv, ⟨h.1, .inr ⟨g, cap, cur, rfl, Nat.zero_le _, hr⟩⟩, fun b hb => ?_⟩
    obtain ⟨a, ha, hab⟩ := hb
    injection ha with ha
    subst ha; subst hab; exact hg
/-- A slice without room to spare: its block, whole. -/
theorem Own.full {w : World} {e : TypeId} {g n : Nat} {xs : List Value} (h : Own w e 1 (some ⟨g, 0, Option.none⟩) n n xs) : Blk w g xs e := by
  rcases h.form with ⟨h0, _⟩ | ⟨g', rest, hg, hb, _, _, hl⟩
  · cases h0
  · injection hg with hg
    injection hg with hg
    subst hg
    have h2 := h.len
    have : rest = [] := by
      apply List.eq_nil_of_length_eq_zero
      rw [List.length_append] at hl; omega
    rw [this, List.append_nil] at hb
    exact hb
theorem grown_mod {w w' : World} {p : Option Addr} {n c : Nat} (h : w.grownBy w' (Value.slice p n c).ownBlock) : Mod (At p) w w' := by
  refine ⟨h.os, h.tape, h.output, h.size, fun b hb hn => h.block b hb fun e => hn ?_⟩
  cases p with
  | none => cases e
  | some a => injection e with e; exact ⟨a, rfl, e.symm⟩

/-- What is needed of an element type. -/
structure ElemOK (P : Program) (t e : TypeId) (size bytes : Nat) (z : Value) : Prop where
  sl : P.underlying t = some (.slice e)
  info : ∃ i, P.info? e = some i ∧ i.zero = some z ∧ i.size = size ∧ i.bytes = bytes
  cells : z.cells.size = size
  pos : 0 < size

theorem append_own {P : Program} {w : World} {t ty e : TypeId} {size bytes : Nat} {z : Value} (hE : ElemOK P t e size bytes z) {p q : Option Addr} {n c m mc : Nat} {xs news : List Value}
    (hown : Own w e size p n c xs) (hr : Row w q news) (hl : news.length = m * size) (h1 : ∀ u ∈ news, u.oneCell' = true) (h63 : n + m ≤ maxLen) (hb : (n + m) * bytes ≤ 140737488355328) :
    ∃ p' c' w', (Builtin.append_ #[t, t] ty #[.slice p n c, .slice q m mc]).run P w = .ok (.slice p' (n + m) c') w' ∧ Own w' e size p' (n + m) c' (xs ++ news) ∧ Mod (At p) w w' ∧
      (∀ b, At p' b → At p b ∨ b = w.heap.size) := by
  obtain ⟨i, hi, hz, hsz, hby⟩ := hE.info
  have fin : ∀ (v' : Value) (w' : World), w'.ownsRow 0 e size v' (n + m) (xs ++ news) → ∃ p' c', v' = .slice p' (n + m) c' := by
    intro v' w' h
    rcases h.2 with ⟨hv, hn⟩ | ⟨g, cap, cur, hv, _⟩
    · exact ⟨_, _, by rw [hv, hn]⟩
    · exact ⟨_, _, hv⟩
  have fin2 : ∀ (p' : Option Addr) (n' c' : Nat), ((Value.slice p' n' c').ownBlock = (Value.slice p n c).ownBlock ∨ (Value.slice p' n' c').ownBlock = some w.heap.size) → ∀ b, At p' b → At p b ∨ b = w.heap.size := by
    rintro p' n' c' h b ⟨a, rfl, rfl⟩
    rcases h with h | h
    · cases p with
      | none => cases h
      | some x => injection h with h; exact .inl ⟨x, rfl, h.symm⟩
    · injection h with h; exact .inr h
  have hnil : m = 0 → ∃ p' c' w', (Builtin.append_ #[t, t] ty #[.slice p n c, .slice q m mc]).run P w = .ok (.slice p' (n + m) c') w' ∧ Own w' e size p' (n + m) c' (xs ++ news) ∧ Mod (At p) w w' ∧
      (∀ b, At p' b → At p b ∨ b = w.heap.size) := by
    rintro rfl
    have hnews : news = [] := List.eq_nil_of_length_eq_zero (by simpa using hl)
    subst hnews
    refine ⟨p, c, w, ?_, by simpa using hown, Mod.refl _ _, fun b h => .inl h⟩
    have hrun : ∀ q, (Builtin.append_ #[t, t] ty #[.slice p n c, .slice q 0 mc]).run P w = .ok (.slice p n c) w := by
      intro q
      have hle := hown.le.1
      rcases hown.form with ⟨rfl, rfl, rfl, rfl⟩ | ⟨g, rest, rfl, hbk, _⟩
      · cases q <;> simp [Builtin.append_, run_underlying hE.sl, run_sizeOf' hi, Builtin.lenOf, Builtin.firstCells, loadCells, loadCellsFrom]
      · cases q <;> simp [Builtin.append_, run_underlying hE.sl, run_sizeOf' hi, Builtin.lenOf, Builtin.firstCells, loadCells, loadCellsFrom, hle, storeCells]
    simpa using hrun q
  rcases hr with rfl | ⟨a, rfl, hc⟩
  · have hm : m = 0 := by
      have hp := hE.pos
      simp only [List.length_nil] at hl
      rcases Nat.eq_zero_or_pos m with h | h
      · exact h
      · have := Nat.mul_pos h hp; omega
    exact hnil hm
  · obtain ⟨v', w', hrun, h2, h3, _, h5⟩ := run_append_own_at (P := P) w 0 t ty e i z size bytes hE.sl hi hz hsz hby hE.cells hE.pos _ n xs hown a m mc news hl hc h1 h63 hb (Nat.zero_le _)
    obtain ⟨p', c', rfl⟩ := fin v' w' h2
    exact ⟨p', c', w', hrun, h2, grown_mod h3, fin2 _ _ _ h5⟩

end Go.Sh
end

section
/- The store of formula nodes, as a list: plain Lean, no program. No condition. -/
namespace Go.Fm

structure Nd where
  kind : Int
  block : Int
  alt : Int
  ins : List Nat
  deriving DecidableEq

/-- Where the inputs of node i begin in the list of all inputs. -/
def off (L : List Nd) (i : Nat) : Nat := ((L.take i).map fun n => n.ins.length).sum
def insA (L : List Nd) : List Nat := L.flatMap fun n => n.ins

theorem off_zero (L : List Nd) : off L 0 = 0 := by simp [off]
theorem off_cons (n : Nd) (L : List Nd) (i : Nat) : off (n :: L) (i + 1) = n.ins.length + off L i := by simp [off]
theorem insA_cons (n : Nd) (L : List Nd) : insA (n :: L) = n.ins ++ insA L := by simp [insA]
theorem insA_snoc (L : List Nd) (n : Nd) : insA (L ++ [n]) = insA L ++ n.ins := by simp [insA]
theorem insA_get : ∀ {L : List Nd} {i : Nat} {n : Nd}, L[i]? = some n → ∀ j x, n.ins[j]? = some x → (insA L)[off L i + j]? = some x
  | [], _, _, h, _, _, _ => by cases h
  | m :: L, 0, n, h, j, x, hj => by
    simp only [List.getElem?_cons_zero, Option.some.injEq] at h
    subst h
    rw [off_zero, insA_cons, Nat.zero_add, List.getElem?_append_left (List.getElem?_eq_some_iff.1 hj).1]
    exact hj
  | m :: L, i + 1, n, h, j, x, hj => by
    rw [off_cons, insA_cons, List.getElem?_append_right (by omega)]
    have := insA_get (L := L) (i := i) (n := n) (by simpa using h) j x hj
    rw [← this]; congr 1; omega
theorem off_le : ∀ {L : List Nd} {i : Nat} {n : Nd}, L[i]? = some n → off L i + n.ins.length ≤ (insA L).length
  | [], _, _, h => by cases h
  | m :: L, 0, n, h => by
    simp only [List.getElem?_cons_zero, Option.some.injEq] at h
    subst h
    rw [off_zero, insA_cons, List.length_append]; omega
  | m :: L, i + 1, n, h => by
    rw [off_cons, insA_cons, List.length_append]
    have := off_le (L := L) (i := i) (n := n) (by simpa using h)
    omega
theorem off_length : ∀ L : List Nd, off L L.length = (insA L).length
  | [] => rfl
  | n :: L => by rw [List.length_cons, off_cons, off_length L, insA_cons, List.length_append]

/-- A node that may stand at number i. -/
structure NdOK (i : Nat) (n : Nd) : Prop where
  k0 : 0 ≤ n.kind
  k1 : n.kind < 6
  b0 : 0 ≤ n.block
  b1 : n.block < 4096
  a0 : -1 ≤ n.alt
  a1 : n.alt < 16
  lt : ∀ x ∈ n.ins, x < i
  len : n.ins.length ≤ i
  two : 2 ≤ i → 2 ≤ n.kind
  not1 : n.kind = 3 → n.ins.length = 1
  ge : ∀ x ∈ n.ins, 2 ≤ x
  leaf : n.kind < 3 → n.ins = []
  plain : n.kind ≠ 2 → n.block = 0 ∧ n.alt = 0
/-- A well-formed store: the constants, then nodes that use earlier ones; no two alike. -/
structure WF (L : List Nd) : Prop where
  ff : L[0]? = some ⟨0, 0, 0, []⟩
  tt : L[1]? = some ⟨1, 0, 0, []⟩
  ok : ∀ i n, L[i]? = some n → NdOK i n
  nodup : L.Nodup
theorem WF.two {L : List Nd} (h : WF L) : 2 ≤ L.length := by
  have := (List.getElem?_eq_some_iff.1 h.tt).1; omega
theorem WF.insLen {L : List Nd} (h : ∀ i n, L[i]? = some n → NdOK i n) : (insA L).length ≤ L.length * L.length := by
  have key : ∀ (l : List Nd) (k m : Nat), (∀ i n, l[i]? = some n → n.ins.length ≤ k + i) → k + l.length ≤ m → (insA l).length ≤ l.length * m := by
    intro l
    induction l with
    | nil => intro k m _ _; simp [insA]
    | cons n l ih =>
      intro k m h1 h2
      rw [insA_cons, List.length_append, List.length_cons, Nat.succ_mul]
      have h3 := h1 0 n rfl
      have h4 := ih (k + 1) m (fun i n hi => by have := h1 (i + 1) n (by simpa using hi); omega) (by simp only [List.length_cons] at h2; omega)
      simp only [List.length_cons] at h2
      omega
  exact key L 0 L.length (fun i n hi => by have := (h i n hi).len; omega) (by omega)

/-- The number of a node, which is appended if it does not exist. -/
def mk (L : List Nd) (n : Nd) : List Nd × Nat := match L.idxOf? n with
  | some i => (L, i)
  | none => (L ++ [n], L.length)
theorem nodup_inj {α : Type} {L : List α} (h : L.Nodup) {i j : Nat} {x : α} (hi : L[i]? = some x) (hj : L[j]? = some x) : i = j := by
  obtain ⟨il, ie⟩ := List.getElem?_eq_some_iff.1 hi
  obtain ⟨jl, je⟩ := List.getElem?_eq_some_iff.1 hj
  unfold List.Nodup at h
  rw [List.pairwise_iff_getElem] at h
  rcases Nat.lt_trichotomy i j with hij | hij | hij
  · exact absurd (ie.trans je.symm) (h i j il jl hij)
  · exact hij
  · exact absurd (je.trans ie.symm) (h j i jl il hij)
theorem mk_found {L : List Nd} {n : Nd} {a : Nat} (hn : L.Nodup) (ha : L[a]? = some n) : mk L n = (L, a) := by
  unfold mk
  obtain ⟨hlt, he⟩ := List.getElem?_eq_some_iff.1 ha
  have hex : ∃ i, L.idxOf? n = some i := by
    cases h : L.idxOf? n with
    | some i => exact ⟨i, rfl⟩
    | none => rw [List.idxOf?_eq_none_iff] at h; exact absurd (List.mem_of_getElem? ha) h
  obtain ⟨i, hi⟩ := hex
  rw [hi]
  rw [List.idxOf?, List.findIdx?_eq_some_iff_getElem] at hi
  obtain ⟨hil, hie, _⟩ := hi
  have hie' : L[i] = n := by simpa using hie
  have : i = a := nodup_inj hn (List.getElem?_eq_some_iff.2 ⟨hil, hie'⟩) ha
  rw [this]
theorem mk_new {L : List Nd} {n : Nd} (hn : ∀ a : Nat, L[a]? ≠ some n) : mk L n = (L ++ [n], L.length) := by
  unfold mk
  have : L.idxOf? n = none := by
    rw [List.idxOf?_eq_none_iff]
    intro h
    obtain ⟨i, hi⟩ := List.getElem?_of_mem h
    exact hn i hi
  rw [this]
theorem WF.snoc {L : List Nd} {n : Nd} (h : WF L) (hn : NdOK L.length n) (hx : ∀ a : Nat, L[a]? ≠ some n) : WF (L ++ [n]) := by
  have h2 := h.two
  refine ⟨by rw [List.getElem?_append_left (by omega)]; exact h.ff, by rw [List.getElem?_append_left (by omega)]; exact h.tt, ?_, ?_⟩
  · intro i m hm
    by_cases hi : i < L.length
    · rw [List.getElem?_append_left hi] at hm; exact h.ok i m hm
    · rw [List.getElem?_append_right (by omega)] at hm
      have hlt := (List.getElem?_eq_some_iff.1 hm).1
      simp only [List.length_cons, List.length_nil] at hlt
      have : i = L.length := by omega
      subst this
      simp only [Nat.sub_self, List.getElem?_cons_zero, Option.some.injEq] at hm
      subst hm; exact hn
  · rw [List.nodup_append]
    refine ⟨h.nodup, by simp, ?_⟩
    intro a ha b hb e
    simp only [List.mem_singleton] at hb
    subst hb; subst e
    obtain ⟨i, hi⟩ := List.getElem?_of_mem ha
    exact hx i hi

end Go.Fm
end
