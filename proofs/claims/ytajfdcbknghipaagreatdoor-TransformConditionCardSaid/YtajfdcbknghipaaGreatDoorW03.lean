/- The law TransformCondition of the package credencelaw23 answers true at every input and leaves its arguments as they were (Rows.TransformConditionCardSaid); no condition beyond the card's own: the three listed tables stand as the program's text lays them. Part 3 of 25. -/
import Derived.Test.YtajfdcbknghipaaGreatDoorW02

section
/- A region of the symbolic walk, in the order of the text. No condition. -/
namespace Go.Sh
open Go

variable {P : Program}

theorem sop_ok {F : Fm} {st : St} {a : Act} {o : Oper} {K : St → Prop} {next : Act → World → Prop} {Q : Exit → Act → World → Prop} (he : EnvOK F st.w st.env a) (hm : ∀ x, o.dst = some x → x ∈ F.M) (h : sop P F.n st o K)
    (hn : ∀ st' a', K st' → EnvOK F st'.w st'.env a' → next a' (ext st'.w st'.own)) : o.wp P a (ext st.w st.own) next Q := by
  unfold sop at h
  split at h
  · exact h.elim
  rename_i hd
  split at h
  · rename_i hq
    obtain ⟨e, ag, hK, hr, _, _⟩ := qop_ok he hq h
    refine upon_val hr ?_
    have h1 := hn _ _ hK (he.put hd hm e)
    have hw : (st.put o.dst e).w = st.w := by cases o.dst <;> rfl
    have ho : (st.put o.dst e).own = st.own := by cases o.dst <;> rfl
    rw [hw, ho] at h1
    exact h1
  · refine eop_ok he h fun e st' hK he' => ?_
    have h1 := hn _ _ hK (he'.put hd hm e)
    have hw : (st'.put o.dst e).w = st'.w := by cases o.dst <;> rfl
    have ho : (st'.put o.dst e).own = st'.own := by cases o.dst <;> rfl
    rw [hw, ho] at h1
    exact h1

theorem nthOp_eq : ∀ (l : List Oper) (i : Nat), nthOp l i = l[i]?
  | [], _ => by simp [nthOp]
  | _ :: _, 0 => by simp [nthOp]
  | _ :: l, i + 1 => by simp [nthOp, nthOp_eq l i]

theorem gslot_dst {ops : Array Oper} {j s : Nat} (h : gslot ops.toList j = some s) : (ops[j]?).bind (·.dst) = some s := by
  unfold gslot at h
  split at h
  · rename_i o ho
    rw [nthOp_eq, Array.getElem?_toList] at ho
    rw [ho]; exact h
  · cases h

theorem put_w (st : St) (d : Option Nat) (e : EV) : (st.put d e).w = st.w := by cases d <;> rfl
theorem put_own (st : St) (d : Option Nat) (e : EV) : (st.put d e).own = st.own := by cases d <;> rfl

theorem env_same {F : Fm} {w0 : World} {e : List (Nat × EV)} {a : Act} (he : EnvOK F w0 e a) {s : Nat} {v : EV} (hl : look e s = some v) : EnvOK F w0 (setE e s v) a where
  defers := he.defers
  size := he.size
  frame := he.frame
  get t u ht := by
    rw [look_setE] at ht
    by_cases h : t = s
    · subst h; simp only [if_true] at ht; exact he.get t u (hl.trans ht)
    · simp only [h, if_false] at ht; exact he.get t u ht

theorem wanted_none {o : Oper} {y : Nat → Option Bool} (h : o.guard = none) : Region.wanted o y = true := by
  unfold Region.wanted; rw [h]
theorem wanted_some {ops : Array Oper} {o : Oper} {a : Act} {j s : Nat} {want b : Bool} (h : o.guard = some (j, want)) (hs : gslot ops.toList j = some s) (hv : a.tmps[s]? = some (.bool b)) :
    Region.wanted o (yielded ops a.tmps) = (some b == some want) := by
  unfold Region.wanted yielded
  rw [h]
  simp only [gslot_dst hs, Option.bind_some, hv]
theorem wanted_undef {ops : Array Oper} {o : Oper} {a : Act} {j s : Nat} {want : Bool} {vs : Array Value} (h : o.guard = some (j, want)) (hs : gslot ops.toList j = some s) (hv : a.tmps[s]? = some (.tuple vs)) :
    Region.wanted o (yielded ops a.tmps) = false := by
  unfold Region.wanted yielded
  rw [h]
  simp only [gslot_dst hs, Option.bind_some, hv]
  rfl

theorem wpOps_want {ops : Array Oper} {Q : Exit → Act → World → Prop} {i : Nat} {rest : List Nat} {o : Oper} {a : Act} {w : World} (hi : ops[i]? = some o) (hw : Region.wanted o (yielded ops a.tmps) = true) (h : o.wp P a w (wpOps P ops Q rest) Q) : wpOps P ops Q (i :: rest) a w := by
  simp only [wpOps, hi, hw, if_true]; exact .inl h
theorem wpOps_skip {ops : Array Oper} {Q : Exit → Act → World → Prop} {i : Nat} {rest : List Nat} {o : Oper} {a : Act} {w : World} (hi : ops[i]? = some o) (hw : Region.wanted o (yielded ops a.tmps) = false) (h : wpOps P ops Q rest (a.put o.dst undef) w) : wpOps P ops Q (i :: rest) a w := by
  simp only [wpOps, hi, hw, Bool.false_eq_true, if_false]; exact h

theorem seq_ok {F : Fm} {ops : Array Oper} {K : St → Prop} {Q : Exit → Act → World → Prop} (hQ : ∀ st a, K st → EnvOK F st.w st.env a → Q .normal a (ext st.w st.own)) :
    ∀ (rest : List Oper) (k : Nat) (st : St) (a : Act), (∀ o ∈ rest, ∀ x, o.dst = some x → x ∈ F.M) → (∀ j, rest[j]? = ops[k + j]?) → shOps P F.n ops.toList rest K st → EnvOK F st.w st.env a →
      wpOps P ops Q (List.range' k rest.length) a (ext st.w st.own)
  | [], _, st, a, _, _, h, he => by
    simp only [List.length_nil, List.range'_zero, wpOps]
    exact hQ st a h he
  | o :: rest, k, st, a, hms, hl, h, he => by
    have hm : ∀ x, o.dst = some x → x ∈ F.M := hms o List.mem_cons_self
    have hms' : ∀ o ∈ rest, ∀ x, o.dst = some x → x ∈ F.M := fun o' ho' => hms o' (List.mem_cons_of_mem _ ho')
    have hk : ops[k]? = some o := by simpa using (hl 0).symm
    have hl' : ∀ j, rest[j]? = ops[(k + 1) + j]? := fun j => by have := hl (j + 1); simpa [Nat.add_assoc, Nat.add_comm 1 j] using this
    rw [List.length_cons, List.range'_succ]
    have hgo : ∀ st', sop P F.n st' o (fun st' => shOps P F.n ops.toList rest K st') → EnvOK F st'.w st'.env a → o.wp P a (ext st'.w st'.own) (wpOps P ops Q (List.range' (k + 1) rest.length)) Q :=
      fun st' hs he' => sop_ok he' hm hs fun st'' a'' hK he'' => seq_ok hQ rest (k + 1) st'' a'' hms' hl' hK he''
    have hsk : ∀ st' : St, dstOK F.n o.dst = true → shOps P F.n ops.toList rest K (st'.put o.dst (.val undef)) → EnvOK F st'.w st'.env a → wpOps P ops Q (List.range' (k + 1) rest.length) (a.put o.dst undef) (ext st'.w st'.own) := by
      intro st' hd hs he'
      have := seq_ok hQ rest (k + 1) _ _ hms' hl' hs (he'.put hd hm (.val undef))
      rw [put_w, put_own] at this
      exact this
    unfold shOps at h
    split at h
    · rename_i hg
      exact wpOps_want hk (wanted_none hg) (hgo st h he)
    · rename_i j want hg
      split at h
      · exact h.elim
      rename_i s hs
      split at h
      · rename_i b hd hds hb
        have hv := he.get s _ hb
        simp only [EV.toV] at hv
        cases b
        · simp only [Br] at h
          have he' : EnvOK F st.w (setE st.env s (.val (.bool false))) a := env_same he hb
          cases want
          · exact wpOps_want hk (by rw [wanted_some hg hs hv]; rfl) (hgo ⟨st.w, st.own, setE st.env s (.val (.bool false))⟩ h he')
          · exact wpOps_skip hk (by rw [wanted_some hg hs hv]; rfl) (hsk ⟨st.w, st.own, setE st.env s (.val (.bool false))⟩ hd h he')
        · simp only [Br] at h
          have he' : EnvOK F st.w (setE st.env s (.val (.bool true))) a := env_same he hb
          cases want
          · exact wpOps_skip hk (by rw [wanted_some hg hs hv]; rfl) (hsk ⟨st.w, st.own, setE st.env s (.val (.bool true))⟩ hd h he')
          · exact wpOps_want hk (by rw [wanted_some hg hs hv]; rfl) (hgo ⟨st.w, st.own, setE st.env s (.val (.bool true))⟩ h he')
      · rename_i vs hd hds hb
        have hv := he.get s _ hb
        simp only [EV.toV] at hv
        exact wpOps_skip hk (wanted_undef hg hs hv) (hsk st hd h he)
      · exact h.elim

theorem mem_opsMods {l : List Oper} {o : Oper} {x : Nat} (ho : o ∈ l) (hx : o.dst = some x) : x ∈ opsMods l := List.mem_filterMap.2 ⟨o, ho, hx⟩

theorem region_ok {F : Fm} {id : Nat} {ops : Array Oper} {K : St → Prop} {Q : Exit → Act → World → Prop} {st : St} {a : Act} (hQ : ∀ st a, K st → EnvOK F st.w st.env a → Q .normal a (ext st.w st.own))
    (hms : ∀ x ∈ opsMods ops.toList, x ∈ F.M) (h : shOps P F.n ops.toList ops.toList K st) (he : EnvOK F st.w st.env a) : (Code.region id ops false).wp P Q a (ext st.w st.own) := by
  refine wp_region ?_
  have := seq_ok (P := P) hQ ops.toList 0 st a (fun o ho x hx => hms x (mem_opsMods ho hx)) (fun j => by simp) h he
  rw [Array.length_toList] at this
  rw [List.range_eq_range']
  exact this

/-! A region that draws its order and only reads. -/
theorem drew_ext (w : World) : ∀ os : List OB, ext w.drew os = (ext w os).drew
  | [] => rfl
  | o :: os => by rw [ext, ext, ← drew_ext (w.alloc o.toObj) os]; rfl

theorem still_ok {F : Fm} {ops : Array Oper} {K : St → Prop} {w0 : World} {os : List OB} {Q : Act → Prop} (hQ : ∀ st a, st.w = w0 → st.own = os → K st → EnvOK F st.w st.env a → Q a) :
    ∀ (rest : List Oper) (st : St) (a : Act), (∀ o ∈ rest, ∀ x, o.dst = some x → x ∈ F.M) → rest.all (isQuietIn P) = true → st.w = w0 → st.own = os → shOps P F.n ops.toList rest K st → EnvOK F st.w st.env a →
      wpStill P ops (ext w0 os) Q rest a
  | [], st, a, _, _, hw, ho, h, he => hQ st a hw ho h he
  | o :: rest, st, a, hms, hall, hw, ho, h, he => by
    have hm : ∀ x, o.dst = some x → x ∈ F.M := hms o List.mem_cons_self
    have hms' : ∀ o ∈ rest, ∀ x, o.dst = some x → x ∈ F.M := fun o' ho' => hms o' (List.mem_cons_of_mem _ ho')
    simp only [List.all_cons, Bool.and_eq_true] at hall
    have hgo : ∀ st' : St, st'.w = w0 → st'.own = os → sop P F.n st' o (fun st' => shOps P F.n ops.toList rest K st') → EnvOK F st'.w st'.env a → o.still P a (ext w0 os) (wpStill P ops (ext w0 os) Q rest) := by
      intro st' hw' ho' hs he'
      unfold sop at hs
      split at hs
      · exact hs.elim
      rename_i hd
      split at hs
      · rename_i hq
        obtain ⟨e, ag, hK, hr, _, _⟩ := qop_ok he' hq hs
        unfold Oper.still
        rw [← hw', ← ho', hr, Oper.stillUpon_value, hw', ho']
        exact still_ok hQ rest _ _ hms' hall.2 (by rw [put_w]; exact hw') (by rw [put_own]; exact ho') hK (by rw [← hw']; exact he'.put hd hm e)
      · rename_i hq
        rw [hall.1] at hq; cases hq
    have hsk : ∀ st' : St, st'.w = w0 → st'.own = os → dstOK F.n o.dst = true → shOps P F.n ops.toList rest K (st'.put o.dst (.val undef)) → EnvOK F st'.w st'.env a → wpStill P ops (ext w0 os) Q rest (a.put o.dst undef) := by
      intro st' hw' ho' hd hs he'
      exact still_ok hQ rest _ _ hms' hall.2 (by rw [put_w]; exact hw') (by rw [put_own]; exact ho') hs (he'.put hd hm (.val undef))
    have hwant : ∀ b : Bool, Region.wanted o (yielded ops a.tmps) = b → (if b = true then o.still P a (ext w0 os) (wpStill P ops (ext w0 os) Q rest) else wpStill P ops (ext w0 os) Q rest (a.put o.dst undef)) → wpStill P ops (ext w0 os) Q (o :: rest) a := by
      intro b hb hh
      unfold wpStill
      rw [hb]; exact hh
    unfold shOps at h
    split at h
    · rename_i hg
      exact hwant true (wanted_none hg) (hgo st hw ho h he)
    · rename_i j want hg
      split at h
      · exact h.elim
      rename_i s hs
      split at h
      · rename_i b hd hds hb
        have hv := he.get s _ hb
        simp only [EV.toV] at hv
        cases b
        · simp only [Br] at h
          have he' : EnvOK F st.w (setE st.env s (.val (.bool false))) a := env_same he hb
          cases want
          · exact hwant true (by rw [wanted_some hg hs hv]; rfl) (hgo ⟨st.w, st.own, setE st.env s (.val (.bool false))⟩ hw ho h he')
          · exact hwant false (by rw [wanted_some hg hs hv]; rfl) (hsk ⟨st.w, st.own, setE st.env s (.val (.bool false))⟩ hw ho hd h he')
        · simp only [Br] at h
          have he' : EnvOK F st.w (setE st.env s (.val (.bool true))) a := env_same he hb
          cases want
          · exact hwant false (by rw [wanted_some hg hs hv]; rfl) (hsk ⟨st.w, st.own, setE st.env s (.val (.bool true))⟩ hw ho hd h he')
          · exact hwant true (by rw [wanted_some hg hs hv]; rfl) (hgo ⟨st.w, st.own, setE st.env s (.val (.bool true))⟩ hw ho h he')
      · rename_i vs hd hds hb
        have hv := he.get s _ hb
        simp only [EV.toV] at hv
        exact hwant false (wanted_undef hg hs hv) (hsk st hw ho hd h he)
      · exact h.elim

theorem draw_still_ok {F : Fm} {id : Nat} {ops : Array Oper} {K : St → Prop} {Q : Exit → Act → World → Prop} {st : St} {a : Act} (hm : P.follows .mixedOrders = true)
    (hall : ops.toList.all (isQuietIn P) = true) (hB : Region.lexB .any ops = true)
    (hQ : ∀ st a, K st → EnvOK F st.w st.env a → Q .normal a (ext st.w st.own))
    (hms : ∀ x ∈ opsMods ops.toList, x ∈ F.M) (h : shOps P F.n ops.toList ops.toList K ⟨st.w.drew, st.own, st.env⟩) (he : EnvOK F st.w st.env a) : (Code.region id ops true).wp P Q a (ext st.w st.own) := by
  refine wp_region_still hm hB ?_
  have he' : EnvOK F st.w.drew st.env a := ⟨he.defers, he.size, he.frame, fun t v h => by have := he.get t v h; cases v <;> exact this⟩
  have := still_ok (P := P) (ops := ops) (K := K) (w0 := st.w.drew) (os := st.own) (Q := fun a' => Q .normal a' (ext st.w.drew st.own)) (F := F)
    (fun st' a' hw ho hK hE => by have := hQ st' a' hK hE; rw [hw, ho] at this; exact this) ops.toList ⟨st.w.drew, st.own, st.env⟩ a (fun o ho x hx => hms x (mem_opsMods ho hx)) hall rfl rfl h he'
  rw [drew_ext] at this
  exact this

end Go.Sh
end

section
/- A region that draws its order and changes the world: one order serves all. No condition. -/
namespace Go.Sh
open Go

variable {P : Program} {ops : Array Oper} {Q : Exit → Act → World → Prop}

def Closed (ops : Array Oper) (listed : Array Bool) : Prop :=
  ∀ j oj, ops[j]? = some oj → listed.getD j false = true → ∀ e ∈ oj.after, Region.binds .any e = true → listed.getD e.on false = true

theorem anc_listed {listed : Array Bool} (hc : Closed ops listed) : ∀ (f i j : Nat) (oj : Oper), ops[j]? = some oj → (∀ e ∈ oj.after, Region.binds .any e = true → listed.getD e.on false = true) → ancB ops f i j = true → listed.getD i false = true
  | 0, _, _, _, _, _, h => by simp [ancB] at h
  | f + 1, i, j, oj, hj, hd, h => by
    unfold ancB at h
    rw [hj] at h
    obtain ⟨e, he, hb⟩ := List.any_eq_true.1 h
    simp only [Bool.and_eq_true, Bool.or_eq_true] at hb
    have hl := hd e (Array.mem_toList_iff.1 he) hb.1
    rcases hb.2 with h1 | h1
    · rw [Nat.eq_of_beq_eq_true h1] at hl; exact hl
    · cases f with
      | zero => simp [ancB] at h1
      | succ f =>
        cases ho : ops[e.on]? with
        | none => unfold ancB at h1; rw [ho] at h1; cases h1
        | some o' => exact anc_listed hc (f + 1) i e.on o' ho (fun e' he' hb' => hc _ _ ho hl e' he' hb') h1

theorem closed_set {listed : Array Bool} {i : Nat} (hc : Closed ops listed) (hi : i ∈ Region.ready .any ops listed) : Closed ops (listed.setIfInBounds i true) := by
  obtain ⟨_, oi, hoi, hall⟩ := mem_ready.1 hi
  intro j oj hj hl e he hb
  by_cases hij : i = j
  · subst hij
    have : oj = oi := Option.some.inj (hj.symm.trans hoi)
    subst this
    exact getD_set_true (hall e he hb)
  · rw [getD_set_ne false hij] at hl
    exact getD_set_true (hc j oj hj hl e he hb)

def wpAnyS (P : Program) (ops : Array Oper) (Q : Exit → Act → World → Prop) (S : Array Bool → World → Prop) : Nat → Array Bool → Act → World → Prop
  | 0, listed, a, w => S listed w ∧ Region.ready .any ops listed = [] ∧ Q .normal a w
  | f + 1, listed, a, w => S listed w ∧ (Region.ready .any ops listed = [] → Q .normal a w) ∧ ∀ i ∈ Region.ready .any ops listed, wpOp P ops Q i (wpAnyS P ops Q S f (listed.setIfInBounds i true)) a w

theorem wpAnyS.any {S : Array Bool → World → Prop} : ∀ (f : Nat) (listed : Array Bool) (a : Act) (w : World), wpAnyS P ops Q S f listed a w → wpAny P .any ops Q f listed a w
  | 0, _, _, _, h => h.2
  | f + 1, _, _, _, h => ⟨h.2.1, fun i hi => wpOp_mono (fun a w hh => wpAnyS.any f _ a w hh) (h.2.2 i hi)⟩
theorem wpAnyS.mono {S S' : Array Bool → World → Prop} (hS : ∀ l w, S l w → S' l w) : ∀ (f : Nat) (listed : Array Bool) (a : Act) (w : World), wpAnyS P ops Q S f listed a w → wpAnyS P ops Q S' f listed a w
  | 0, _, _, _, h => ⟨hS _ _ h.1, h.2⟩
  | f + 1, _, _, _, h => ⟨hS _ _ h.1, h.2.1, fun i hi => wpOp_mono (fun a w hh => wpAnyS.mono hS f _ a w hh) (h.2.2 i hi)⟩
theorem wpAnyS.here {S : Array Bool → World → Prop} {f : Nat} {listed : Array Bool} {a : Act} {w : World} (h : wpAnyS P ops Q S f listed a w) : S listed w := by
  cases f <;> exact h.1

theorem wpOp_put' {j : Nat} {oi oj : Oper} {v : Value} {Y : Act → Prop} (hj : ops[j]? = some oj) (hap : oi.apart ops oj = true) (hsj : ∀ cs b, oj.op ≠ .select cs b)
    (keep : ∀ a, Y a → ∀ u, Y (a.put oj.dst u)) (keepD : ∀ a d, Y a → Y { a with defers := d :: a.defers })
    (hQ : ∀ c a w, ¬ Q (.panic c) a w) {K : Act → World → Prop} {a : Act} {w : World} (hy : Y a) (h : wpOp P ops Q j K (a.put oi.dst v) w) :
    wpOp P ops Q j (fun a' w' => Y a' ∧ K (a'.put oi.dst v) w') a w := by
  obtain ⟨h1, h2, h3⟩ := Oper.apart_spec hap
  unfold wpOp at *
  simp only [hj] at *
  rw [wanted_put oj a oi.dst v h1] at h
  split
  · rename_i hw
    simp only [hw, if_true] at h
    rcases h with h | ⟨hasks, hlets⟩
    case inr => exact .inr ⟨by unfold Oper.asks at *; rw [execOp_put oj hsj a oi.dst v h1] at hasks; exact hasks, hlets⟩
    refine .inl ?_
    unfold Oper.wp at *
    rw [execOp_put oj hsj a oi.dst v h1] at h
    generalize (execOp a.eval oj).run P w = r at *
    cases r with
    | ok n w' =>
      cases n <;> simp only [Oper.upon] at h ⊢
      case value u => exact ⟨keep a hy u, by rw [← Act.put_comm a v u h2]; exact h⟩
      case skip => exact ⟨keep a hy _, by rw [← Act.put_comm a v undef h2]; exact h⟩
      case defer d =>
        refine ⟨keep _ (keepD a d hy) _, ?_⟩
        rw [← Act.put_comm _ v undef h2, ← Act.put_defers]
        exact h
      case enter f args =>
        refine Calls.mono h fun e w'' he => ?_
        cases e with
        | returned u => exact ⟨keep a hy u, by rw [← Act.put_comm a v u h2]; exact he⟩
        | panicked c => exact absurd he (hQ _ _ _)
        | outgrown => exact he
      case row row args => exact Rows.mono h fun u w'' he => ⟨keep a hy u, by rw [← Act.put_comm a v u h2]; exact he⟩
    | halt x w' =>
      cases x <;> simp only [Oper.upon] at h ⊢
      case panic u => exact absurd h (hQ _ _ _)
  · rename_i hw
    simp only [hw] at h
    exact ⟨keep a hy _, by rw [← Act.put_comm a v undef h2]; exact h⟩

/-- 'ag' holds as long as nothing that changes the world has come behind operation k. -/
def Sk (ops : Array Oper) (eff : Nat → Bool) (k : Nat) (ag : World → Prop) (listed : Array Bool) (w : World) : Prop :=
  (∀ d, eff d = true → listed.getD d false = true → ancB ops ops.size k d = false) → ag w

/-- The operation yields v, or is passed over. -/
def Can (P : Program) (ops : Array Oper) (oi : Oper) (v : Value) (ag : World → Prop) (a : Act) : Prop :=
  (Region.wanted oi (yielded ops a.tmps) = true ∧ ∀ W, ag W → (execOp a.eval oi).run P W = .ok (.value v) W) ∨ (Region.wanted oi (yielded ops a.tmps) = false ∧ v = undef)

theorem anyS_first {eff : Nat → Bool} {S : Array Bool → World → Prop} {i : Nat} {oi : Oper} {v : Value} {ag : World → Prop} (hi : ops[i]? = some oi)
    (hsel : ∀ (j : Nat) (o : Oper) cs b, ops[j]? = some o → o.op ≠ .select cs b) (hQ : ∀ c a w, ¬ Q (.panic c) a w) (hei : eff i = false)
    (hS : ∀ l w, S (l.setIfInBounds i true) w → S l w) :
    ∀ (fuel : Nat) (listed : Array Bool) (a : Act) (w : World), Closed ops listed →
      (∀ j oj, ops[j]? = some oj → j ≠ i → listed.getD j true = false → (∀ e ∈ oj.after, Region.binds .any e = true → e.on ≠ i) → oi.apart ops oj = true) →
      i ∈ Region.ready .any ops listed → Can P ops oi v ag a →
      wpAnyS P ops Q (fun l w => S l w ∧ Sk ops eff i ag l w) fuel (listed.setIfInBounds i true) (a.put oi.dst v) w → wpAnyS P ops Q S (fuel + 1) listed a w := by
  have hgo : ∀ (fuel : Nat) (listed : Array Bool) (a : Act) (w : World), Closed ops listed → i ∈ Region.ready .any ops listed →
      Can P ops oi v ag a →
      wpAnyS P ops Q (fun l w => S l w ∧ Sk ops eff i ag l w) fuel (listed.setIfInBounds i true) (a.put oi.dst v) w →
      S listed w ∧ wpOp P ops Q i (wpAnyS P ops Q S fuel (listed.setIfInBounds i true)) a w := by
    intro fuel listed a w hc hr hy H
    have hhere := H.here
    have hnl : listed.getD i false = false := by
      have := (mem_ready.1 hr).1
      rcases Nat.lt_or_ge i listed.size with h' | h'
      · simp [h'] at this ⊢; exact this
      · simp [Array.getElem?_eq_none h']
    have hag : ag w := hhere.2 fun d hd hl => by
      by_cases hdi : d = i
      · subst hdi; rw [hei] at hd; cases hd
      rw [getD_set_ne false (Ne.symm hdi)] at hl
      cases hb : ancB ops ops.size i d with
      | false => rfl
      | true =>
        cases hod : ops[d]? with
        | none => cases hz : ops.size with
          | zero => rw [hz] at hb; simp [ancB] at hb
          | succ m => rw [hz] at hb; unfold ancB at hb; rw [hod] at hb; cases hb
        | some od =>
          have := anc_listed hc _ i d od hod (fun e he hb' => hc _ _ hod hl e he hb') hb
          rw [hnl] at this; cases this
    refine ⟨hS _ _ hhere.1, ?_⟩
    unfold wpOp
    rcases hy with hy | hy
    · simp only [hi, hy.1, if_true]
      refine .inl ?_
      unfold Oper.wp
      rw [hy.2 w hag]
      exact H.mono (fun _ _ h => h.1)
    · simp only [hi, hy.1, Bool.false_eq_true, if_false]
      rw [← hy.2]
      exact H.mono (fun _ _ h => h.1)
  intro fuel
  induction fuel with
  | zero =>
    intro listed a w hc _ hr hy H
    obtain ⟨h1, h2⟩ := hgo 0 listed a w hc hr hy H
    refine ⟨h1, fun h => (by rw [h] at hr; cases hr), fun j hj => ?_⟩
    by_cases hji : j = i
    · subst hji; exact h2
    · have := ready_mono hj hji
      rw [H.2.1] at this
      cases this
  | succ fuel ih =>
    intro listed a w hc hfree hr hy H
    obtain ⟨h1, h2⟩ := hgo (fuel + 1) listed a w hc hr hy H
    refine ⟨h1, fun h => (by rw [h] at hr; cases hr), fun j hj => ?_⟩
    by_cases hji : j = i
    · subst hji; exact h2
    · have h1 := H.2.2 j (ready_mono hj hji)
      obtain ⟨hjun, oj, hoj, hall⟩ := mem_ready.1 hj
      have hnot : ∀ e ∈ oj.after, Region.binds .any e = true → e.on ≠ i := fun e he hb heq => by
        have h1 := hall e he hb
        have h0 := (mem_ready.1 hr).1
        rw [heq] at h1
        rcases Nat.lt_or_ge i listed.size with h' | h'
        · simp [h'] at h0 h1; rw [h0] at h1; cases h1
        · simp [Array.getElem?_eq_none h'] at h1
      have hap := hfree j oj hoj hji hjun hnot
      obtain ⟨_, _, h3⟩ := Oper.apart_spec hap
      have keep : ∀ a : Act, Can P ops oi v ag a → ∀ u, Can P ops oi v ag (a.put oj.dst u) := by
        intro a hy u
        unfold Can at *
        rw [wanted_put oi a oj.dst u h3, execOp_put oi (fun cs b => hsel i oi cs b hi) a oj.dst u h3]
        exact hy
      have h2 := wpOp_put' (Y := fun a => Can P ops oi v ag a) hoj hap (fun cs b => hsel j oj cs b hoj) keep (fun _ _ h => h) hQ hy h1
      have hfree' : ∀ k ok, ops[k]? = some ok → k ≠ i → (listed.setIfInBounds j true).getD k true = false →
          (∀ e ∈ ok.after, Region.binds .any e = true → e.on ≠ i) → oi.apart ops ok = true := fun k ok hk hki hun hno => by
        refine hfree k ok hk hki ?_ hno
        by_cases hjk : j = k
        · subst hjk; exact hjun
        · rw [getD_set_ne true hjk] at hun; exact hun
      refine wpOp_mono (fun a' w' h3 => ih (listed.setIfInBounds j true) a' w' (closed_set hc hj) hfree' (ready_mono hr (Ne.symm hji)) h3.1 ?_) h2
      rw [Array.setIfInBounds_comm _ _ hji]
      exact h3.2

end Go.Sh
end

section
/- A region that draws its order and changes the world, by a plan. No condition. -/
namespace Go.Sh
open Go

variable {P : Program} {ops : Array Oper} {Q : Exit → Act → World → Prop}

def effOf (P : Program) (ops : Array Oper) (i : Nat) : Bool := match ops[i]? with | some o => !isQuietIn P o | none => false
def SS (P : Program) (ops : Array Oper) (taken : List (Nat × AG)) (listed : Array Bool) (w : World) : Prop :=
  ∀ p ∈ taken, Sk ops (effOf P ops) p.1 p.2.at_ listed w

theorem SS_unset {taken : List (Nat × AG)} {i : Nat} (hi : effOf P ops i = false) {l : Array Bool} {w : World} (h : SS P ops taken (l.setIfInBounds i true) w) : SS P ops taken l w := by
  intro p hp ha
  refine h p hp fun d hd hl => ha d hd ?_
  by_cases hdi : i = d
  · subst hdi; rw [hi] at hd; cases hd
  · rw [getD_set_ne false hdi] at hl; exact hl

theorem stable_mem {i : Nat} {w : World} {K : Prop} : ∀ {pend : List (Nat × AG)}, stable ops i w pend K → K ∧ ∀ p ∈ pend, ancB ops ops.size p.1 i = false → p.2.at_ w
  | [], h => ⟨h, fun p hp => by cases hp⟩
  | (k, .pure) :: pend, h => by
    obtain ⟨h1, h2⟩ := stable_mem (pend := pend) (by unfold stable at h; exact h)
    refine ⟨h1, fun p hp hb => ?_⟩
    rcases List.mem_cons.1 hp with rfl | hq
    · trivial
    · exact h2 p hq hb
  | (k, .dep q) :: pend, h => by
    unfold stable at h
    cases hb : ancB ops ops.size k i with
    | true =>
      rw [hb] at h
      obtain ⟨h1, h2⟩ := stable_mem (pend := pend) h
      refine ⟨h1, fun p hp hb' => ?_⟩
      rcases List.mem_cons.1 hp with rfl | hq
      · simp only at hb'; rw [hb] at hb'; cases hb'
      · exact h2 p hq hb'
    | false =>
      rw [hb] at h
      obtain ⟨h1, h2⟩ := stable_mem (pend := pend) h.2
      refine ⟨h1, fun p hp hb' => ?_⟩
      rcases List.mem_cons.1 hp with rfl | hq
      · exact h.1
      · exact h2 p hq hb'
theorem still_mem {i : Nat} : ∀ {pend : List (Nat × AG)} {p : Nat × AG}, p ∈ still ops i pend ↔ p ∈ pend ∧ ancB ops ops.size p.1 i = false
  | [], p => by simp [still]
  | (k, ag) :: pend, p => by
    unfold still
    cases hb : ancB ops ops.size k i with
    | true =>
      simp only [still_mem, List.mem_cons]
      constructor
      · rintro ⟨h1, h2⟩; exact ⟨.inr h1, h2⟩
      · rintro ⟨h1 | h1, h2⟩
        · subst h1; rw [hb] at h2; cases h2
        · exact ⟨h1, h2⟩
    | false =>
      simp only [List.mem_cons, still_mem]
      constructor
      · rintro (h1 | ⟨h1, h2⟩)
        · subst h1; exact ⟨.inl rfl, hb⟩
        · exact ⟨.inr h1, h2⟩
      · rintro ⟨h1 | h1, h2⟩
        · exact .inl h1
        · exact .inr ⟨h1, h2⟩

theorem rawE_elim {F : Fm} {st : St} {e : EV} {K : EK} {a : Act} (h : rawE st e K) (he : EnvOK F st.w st.env a) : ∃ st', K (.val (e.toV st.w)) st' ∧ (∀ w1, EnvOK F w1 st'.env a) ∧ st'.own = [] ∧ st'.w = ext st.w st.own := by
  unfold rawE at h
  split at h
  · rename_i ho; exact ⟨_, h, fun _ => he.flush, rfl, by rw [ho]; rfl⟩
  · exact ⟨_, h _ rfl, fun _ => he.flush, rfl, rfl⟩

theorem raw_ok {F : Fm} {K : St → Prop} (hms : ∀ (i : Nat) (o : Oper) (x : Nat), ops[i]? = some o → o.dst = some x → x ∈ F.M) (hQp : ∀ c a w, ¬ Q (.panic c) a w) (hs : Region.noSelect ops = true) (hQ : ∀ st a, K st → EnvOK F st.w st.env a → Q .normal a (ext st.w st.own)) :
    ∀ (plan : List (Nat × Bool)) (pend taken : List (Nat × AG)) (listed : Array Bool) (st : St) (a : Act), planOK P ops plan listed = true → shRaw P F.n ops plan pend K st → EnvOK F st.w st.env a → st.own = [] → Closed ops listed →
      (∀ p ∈ pend, p.2.at_ st.w) → (∀ p ∈ taken, (∀ d, effOf P ops d = true → listed.getD d false = true → ancB ops ops.size p.1 d = false) → p ∈ pend) →
      wpAnyS P ops Q (SS P ops taken) plan.length listed a st.w
  | [], pend, taken, listed, st, a, hp, h, he, ho, _, h1, h2 => by
    refine ⟨fun p hp ha => h1 p (h2 p hp ha), List.isEmpty_iff.1 hp, ?_⟩
    have := hQ st a h he
    rw [ho] at this
    exact this
  | (i, eff) :: rest, pend, taken, listed, st, a, hp, h, he, ho, hc, h1, h2 => by
    unfold shRaw at h
    split at h
    · exact h.elim
    rename_i o hi
    have hgo : ∀ st' : St, st'.w = st.w → st'.own = [] → EnvOK F st'.w st'.env a → dstOK F.n o.dst = true → Region.wanted o (yielded ops a.tmps) = true →
        rawOp P ops i eff o pend st' (fun pend' st'' => shRaw P F.n ops rest pend' K st'') → wpAnyS P ops Q (SS P ops taken) (rest.length + 1) listed a st.w := by
      intro st' hw' ho' he' hd hwant h
      unfold rawOp at h
      split at h
      · -- quiet
        split at h
        case h_2 => exact h.elim
        rename_i hq
        simp only [planOK, Bool.and_eq_true] at hp
        obtain ⟨⟨hr, hf⟩, hp'⟩ := hp
        have hei : effOf P ops i = false := by unfold effOf; rw [hi]; simp [hq]
        obtain ⟨e, ag, hK, hrun, hat, hagr⟩ := qop_ok he' hq h
        have hw0 : ext st'.w st'.own = st.w := by rw [ho', hw']; rfl
        rw [hw0] at hrun hat
        refine anyS_first (eff := effOf P ops) (v := e.toV st'.w) (ag := ag.at_) hi (Region.noSelect_spec hs) hQp hei (fun l w (hh : SS P ops taken (l.setIfInBounds i true) w) => (SS_unset hei hh : SS P ops taken l w)) rest.length listed a st.w hc
          (Region.free_spec hi hf) (by simpa using hr) (.inl ⟨hwant, hagr⟩) ?_
        have hst : (st'.put o.dst e).w = st.w := (put_w _ _ _).trans hw'
        have := raw_ok hms hQp hs hQ rest ((i, ag) :: pend) ((i, ag) :: taken) (listed.setIfInBounds i true) (st'.put o.dst e) (a.put o.dst (e.toV st'.w)) hp' hK (he'.put hd (fun x hx => hms i o x hi hx) e) (by rw [put_own]; exact ho')
          (closed_set hc (by simpa using hr))
          (fun p hp => by
            rw [hst]
            rcases List.mem_cons.1 hp with rfl | hp
            · exact hat (by rw [hw'])
            · exact h1 p hp)
          (fun p hp ha => by
            rcases List.mem_cons.1 hp with rfl | hp
            · exact List.mem_cons_self
            · refine List.mem_cons_of_mem _ (h2 p hp fun d hd hl => ha d hd (getD_set_true hl)))
        rw [hst] at this
        refine this.mono fun l w hh => ⟨fun p hp => hh p (List.mem_cons_of_mem _ hp), hh _ List.mem_cons_self⟩
      · -- it changes the world
        split at h
        · exact h.elim
        rename_i hq
        have hei : effOf P ops i = true := by unfold effOf; rw [hi]; simp [hq]
        simp only [planOK, Bool.and_eq_true] at hp
        obtain ⟨hr, hp'⟩ := hp
        have hrd : Region.ready .any ops listed = [i] := by
          split at hr
          · rename_i j hj; rw [hj, Nat.eq_of_beq_eq_true hr]
          · cases hr
        have hmem : i ∈ Region.ready .any ops listed := by rw [hrd]; exact List.mem_cons_self
        refine ⟨fun p hp ha => h1 p (h2 p hp ha), fun h0 => (by rw [hrd] at h0; cases h0), fun j hj => ?_⟩
        rw [hrd] at hj
        have hji : j = i := by simpa using hj
        subst hji
        unfold wpOp
        simp only [hi, hwant, if_true]
        refine .inl ?_
        have hw0 : ext st'.w st'.own = st.w := by rw [ho', hw']; rfl
        rw [← hw0]
        refine eop_ok he' h fun e st'' hK he'' => ?_
        obtain ⟨st1, hK1, he1, ho1, hw1⟩ := rawE_elim hK he''
        obtain ⟨hK2, hstab⟩ := stable_mem hK1
        have hst : (st1.put o.dst (.val (e.toV st''.w))).w = st1.w := put_w _ _ _
        have := raw_ok hms hQp hs hQ rest (still ops j pend) taken (listed.setIfInBounds j true) _ (a.put o.dst (e.toV st''.w)) hp' hK2 ((he1 st1.w).put hd (fun x hx => hms j o x hi hx) (.val (e.toV st''.w))) (by rw [put_own]; exact ho1)
          (closed_set hc hmem)
          (fun p hp => by
            rw [hst]
            obtain ⟨hp1, hp2⟩ := still_mem.1 hp
            exact hstab p hp1 hp2)
          (fun p hp ha => by
            have hjs : j < listed.size := by
              rcases Nat.lt_or_ge j listed.size with h' | h'
              · exact h'
              · have := (mem_ready.1 hmem).1
                simp [Array.getElem?_eq_none h'] at this
            refine still_mem.2 ⟨h2 p hp fun d hd hl => ha d hd (getD_set_true hl), ha j hei ?_⟩
            simp [hjs])
        rw [hst, hw1] at this
        exact this
    have hsk : ∀ st' : St, st'.w = st.w → st'.own = [] → EnvOK F st'.w st'.env a → dstOK F.n o.dst = true → Region.wanted o (yielded ops a.tmps) = false →
        rawSkip P eff o (shRaw P F.n ops rest pend K (st'.put o.dst (.val undef))) → wpAnyS P ops Q (SS P ops taken) (rest.length + 1) listed a st.w := by
      intro st' hw' ho' he' hd hwant h0
      have hsk2 : (eff || isQuietIn P o) = true ∧ shRaw P F.n ops rest pend K (st'.put o.dst (.val undef)) := by
        unfold rawSkip at h0
        split at h0
        · rename_i hb; exact ⟨hb, h0⟩
        · exact h0.elim
      obtain ⟨hqb, h⟩ := hsk2
      have hst : (st'.put o.dst (.val undef)).w = st.w := (put_w _ _ _).trans hw'
      have hrest : planOK P ops rest (listed.setIfInBounds i true) = true → i ∈ Region.ready .any ops listed → wpAnyS P ops Q (SS P ops taken) rest.length (listed.setIfInBounds i true) (a.put o.dst undef) st.w := by
        intro hp' hmem
        have := raw_ok hms hQp hs hQ rest pend taken (listed.setIfInBounds i true) _ (a.put o.dst undef) hp' h (he'.put hd (fun x hx => hms i o x hi hx) (.val undef)) (by rw [put_own]; exact ho')
          (closed_set hc hmem)
          (fun p hp => by rw [hst]; exact h1 p hp)
          (fun p hp ha => h2 p hp fun d hd hl => ha d hd (getD_set_true hl))
        rw [hst] at this
        exact this
      cases eff with
      | false =>
        simp only [planOK, Bool.and_eq_true] at hp
        obtain ⟨⟨hr, hf⟩, hp'⟩ := hp
        have hei : effOf P ops i = false := by
          unfold effOf; rw [hi]; simpa using hqb
        · refine anyS_first (eff := effOf P ops) (v := undef) (ag := fun _ => True) hi (Region.noSelect_spec hs) hQp hei (fun l w (hh : SS P ops taken (l.setIfInBounds i true) w) => (SS_unset hei hh : SS P ops taken l w)) rest.length listed a st.w hc
            (Region.free_spec hi hf) (by simpa using hr) (.inr ⟨hwant, rfl⟩) ?_
          exact (hrest hp' (by simpa using hr)).mono fun l w hh => ⟨hh, fun _ => trivial⟩
      | true =>
        simp only [planOK, Bool.and_eq_true] at hp
        obtain ⟨hr, hp'⟩ := hp
        have hrd : Region.ready .any ops listed = [i] := by
          split at hr
          · rename_i j hj; rw [hj, Nat.eq_of_beq_eq_true hr]
          · cases hr
        have hmem : i ∈ Region.ready .any ops listed := by rw [hrd]; exact List.mem_cons_self
        refine ⟨fun p hp ha => h1 p (h2 p hp ha), fun h0 => (by rw [hrd] at h0; cases h0), fun j hj => ?_⟩
        rw [hrd] at hj
        have hji : j = i := by simpa using hj
        subst hji
        unfold wpOp
        simp only [hi, hwant, Bool.false_eq_true, if_false]
        exact hrest hp' hmem
    split at h
    · rename_i hg
      split at h
      · rename_i hd
        exact hgo st rfl ho he hd (wanted_none hg) h
      · exact h.elim
    · rename_i j want hg
      split at h
      · exact h.elim
      rename_i s hs'
      split at h
      · rename_i b hd hds hb
        have hv := he.get s _ hb
        simp only [EV.toV] at hv
        cases b
        · simp only [Br] at h
          have he' : EnvOK F st.w (setE st.env s (.val (.bool false))) a := env_same he hb
          cases want
          · exact hgo ⟨st.w, st.own, setE st.env s (.val (.bool false))⟩ rfl ho he' hd (by rw [wanted_some hg hs' hv]; rfl) h
          · exact hsk ⟨st.w, st.own, setE st.env s (.val (.bool false))⟩ rfl ho he' hd (by rw [wanted_some hg hs' hv]; rfl) h
        · simp only [Br] at h
          have he' : EnvOK F st.w (setE st.env s (.val (.bool true))) a := env_same he hb
          cases want
          · exact hsk ⟨st.w, st.own, setE st.env s (.val (.bool true))⟩ rfl ho he' hd (by rw [wanted_some hg hs' hv]; rfl) h
          · exact hgo ⟨st.w, st.own, setE st.env s (.val (.bool true))⟩ rfl ho he' hd (by rw [wanted_some hg hs' hv]; rfl) h
      · rename_i vs hd hds hb
        have hv := he.get s _ hb
        simp only [EV.toV] at hv
        exact hsk st rfl ho he hd (wanted_undef hg hs' hv) h
      · exact h.elim

theorem draw_raw_ok {F : Fm} {id : Nat} {K : St → Prop} {st : St} {a : Act} (hms : ∀ x ∈ opsMods ops.toList, x ∈ F.M) (hm : P.follows .mixedOrders = true) (hQp : ∀ c a w, ¬ Q (.panic c) a w)
    (hp : planOK P ops (planOf P ops ops.size (Array.replicate ops.size false)) (Array.replicate ops.size false) = true) (hs : Region.noSelect ops = true)
    (hl : (planOf P ops ops.size (Array.replicate ops.size false)).length = ops.size)
    (hQ : ∀ st a, K st → EnvOK F st.w st.env a → Q .normal a (ext st.w st.own))
    (h : shRaw P F.n ops (planOf P ops ops.size (Array.replicate ops.size false)) [] K ⟨st.w.drew, [], st.env⟩) (he : EnvOK F st.w.drew st.env a) : (Code.region id ops true).wp P Q a st.w := by
  refine wp_region_any hm ?_
  have := raw_ok (P := P) (ops := ops) (fun i o x hi hx => hms x (mem_opsMods (Array.mem_toList_iff.2 (Array.mem_of_getElem? hi)) hx)) hQp hs hQ _ [] [] (Array.replicate ops.size false) ⟨st.w.drew, [], st.env⟩ a hp h he rfl
    (fun j oj hj hl => by
      rcases Nat.lt_or_ge j ops.size with h' | h'
      · simp [h'] at hl
      · rw [Array.getElem?_eq_none h'] at hj; cases hj)
    (fun p hp => by cases hp) (fun p hp => by cases hp)
  rw [hl] at this
  exact this.any

theorem shDraw_ok {F : Fm} {id : Nat} {K : St → Prop} {st : St} {a : Act} (hms : ∀ x ∈ opsMods ops.toList, x ∈ F.M) (hm : P.follows .mixedOrders = true) (hQp : ∀ c a w, ¬ Q (.panic c) a w)
    (hQ : ∀ st a, K st → EnvOK F st.w st.env a → Q .normal a (ext st.w st.own))
    (h : shDraw P F.n ops K st) (he : EnvOK F st.w st.env a) : (Code.region id ops true).wp P Q a (ext st.w st.own) := by
  unfold shDraw at h
  split at h
  · rename_i hall
    split at h
    · rename_i hB
      exact draw_still_ok hm hall hB hQ hms h he
    · exact h.elim
  · split at h
    · rename_i hp
      simp only [Bool.and_eq_true] at hp
      obtain ⟨st1, h1, he1, ho1, hw1⟩ := flush_elim h he
      rw [← hw1]
      exact draw_raw_ok hms hm hQp hp.1 hp.2.1 (Nat.eq_of_beq_eq_true hp.2.2) hQ h1 (he1 _)
    · exact h.elim

end Go.Sh
end
