/- The law TransformCondition of the package credencelaw23 answers true at every input and leaves its arguments as they were (Rows.TransformConditionCardSaid); no condition beyond the card's own: the three listed tables stand as the program's text lays them. Part 13 of 25. -/
import Derived.Test.YtajfdcbknghipaaGreatDoorW12
import Derived.Test.YtajfdcbknghipaaGreatDoorW11
import Derived.Test.YtajfdcbknghipaaGreatDoorW04
import Derived.Test.YtajfdcbknghipaaGreatDoorW06

section
/- Valid. Conditions on memory as stated. -/
namespace Go.Proofs.YtajfdcbknghipaaGreatDoor
open Go Go.Sh Go.Fm

variable {w : World} {B : Nat} {p : Option Addr} {c : Nat} {f : List FNode}

def insOK (i : Nat) (ins : List Int) : Bool := ins.all fun x => decide (0 ≤ x ∧ x < i)
def vnode (i : Nat) (x : FNode) : Bool := vform x.kind x.block x.alt x.ins.length && insOK i x.ins
def vfrom : Nat → List FNode → Bool
  | _, [] => true
  | i, x :: f => vnode i x && vfrom (i + 1) f
def vf (f : List FNode) : Bool := vfrom 0 f
theorem vfrom_iff : ∀ (f : List FNode) (k : Nat), vfrom k f = true ↔ ∀ j x, f[j]? = some x → vnode (k + j) x = true
  | [], k => by simp [vfrom]
  | y :: f, k => by
    unfold vfrom
    rw [Bool.and_eq_true, vfrom_iff f (k + 1)]
    constructor
    · rintro ⟨h1, h2⟩ j x hj
      cases j with
      | zero => simp only [List.getElem?_cons_zero, Option.some.injEq] at hj; subst hj; exact h1
      | succ j => have := h2 j x (by simpa using hj); rw [show k + (j + 1) = k + 1 + j by omega]; exact this
    · intro h
      refine ⟨h 0 y rfl, fun j x hj => ?_⟩
      have := h (j + 1) x (by simpa using hj)
      rw [show k + 1 + j = k + (j + 1) by omega]; exact this
theorem vf_iff : vf f = true ↔ ∀ j x, f[j]? = some x → vnode j x = true := by
  unfold vf; rw [vfrom_iff]; simp
theorem vf_false {j : Nat} {x : FNode} (hx : f[j]? = some x) (hv : vnode j x = false) : false = vf f := by
  cases h : vf f with
  | false => rfl
  | true => have := vf_iff.1 h j x hx; rw [hv] at this; cases this
theorem insOK_false {i : Nat} {ins : List Int} {k : Nat} {x : Int} (hx : ins[k]? = some x) (h : ¬ (0 ≤ x ∧ x < i)) : insOK i ins = false := by
  unfold insOK
  rw [List.all_eq_false]
  exact ⟨x, List.mem_of_getElem? hx, by simpa using h⟩

def totalI (f : List FNode) : Nat := (f.map fun x => x.ins.length).sum
theorem totalI_le : ∀ (f : List FNode) (m : Nat), (∀ x ∈ f, x.ins.length ≤ m) → totalI f ≤ f.length * m
  | [], m, _ => by simp [totalI]
  | y :: f, m, h => by
    have h1 := totalI_le f m fun x hx => h x (List.mem_cons_of_mem _ hx)
    have h2 := h y List.mem_cons_self
    unfold totalI at *
    rw [List.map_cons, List.sum_cons, List.length_cons, Nat.succ_mul]; omega
theorem totalI_snoc (f : List FNode) (x : FNode) : totalI (f ++ [x]) = totalI f + x.ins.length := by simp [totalI]

theorem valid_ok (h : FormM B w p f) (hs : f.length ≤ 200) (hi : ∀ x ∈ f, x.ins.length ≤ 200) : CallsF Tryz.prog 44 #[.agg #[.slice p f.length c]] w (Ret (.bool (vf f)) NoB w) := by
  refine C_formula_Valid _ _ _ _ _ ?_
  refine Br_false (by rw [decide_eq_false_iff_not]; omega) ?_
  intro w1 hw1
  refine ⟨fun m vs w' => ∃ i : Nat, m = f.length - i ∧ i ≤ f.length ∧ vs = [.int .i64 (totalI (f.take i)), .bool false, .int .i64 i] ∧ (∀ j x, j < i → f[j]? = some x → vnode j x = true) ∧ Mod NoB w w', ⟨_, 0, rfl, Nat.zero_le _, rfl, fun j x hj => by omega, hw1.mod⟩, ?_⟩
  rintro m t' b' i' w2 ⟨i, rfl, hil, hvs, hprev, hm2⟩
  simp only [List.cons.injEq, Value.int.injEq, Value.bool.injEq, true_and, and_true] at hvs
  obtain ⟨rfl, rfl, rfl⟩ := hvs
  refine Br_dec (fun hlt => ?_) fun hge => ?_
  rotate_left
  · refine ⟨ret_bool ?_, hm2⟩
    rw [eq_comm, vf_iff]
    intro j x hj
    have := (List.getElem?_eq_some_iff.1 hj).1
    exact hprev j x (by omega) hj
  have hi' : i < f.length := by omega
  have hx : f[i]? = some f[i] := List.getElem?_eq_getElem hi'
  have hxi := hi _ (List.getElem_mem hi')
  have htake : f.take (i + 1) = f.take i ++ [f[i]] := List.take_succ_eq_append_getElem hi'
  have hxm : f[i] ∈ f := List.getElem_mem hi'
  generalize f[i] = x at hx hxi htake hxm
  have h2 := h.same hm2
  obtain ⟨a, rfl, hc⟩ := h2.node hx
  refine ⟨⟨by omega, by omega⟩, _, _, _, _, _, _, by rw [Int.toNat_natCast]; exact hc, ?_⟩
  intro w3 hw3
  have hb3 := hw3.blk 0 rfl
  have hm3 : Mod NoB w w3 := hm2.then hw3.mod
  have ht : totalI (f.take i) ≤ 40000 := by
    have h1 := totalI_le (f.take i) 200 fun x hx => hi x (List.mem_of_mem_take hx)
    have h3 : (f.take i).length ≤ 200 := by rw [List.length_take]; omega
    omega
  have e1 : IntKind.i64.wrap ((totalI (f.take i) : Int) + (x.ins.length : Int)) = ((totalI (f.take (i + 1)) : Nat) : Int) := by
    rw [wrap_i64 (by omega) (by omega), htake, totalI_snoc]; omega
  rw [e1]
  have ht2 : totalI (f.take (i + 1)) ≤ 40200 := by rw [htake, totalI_snoc]; omega
  intro J hJ
  refine Br_dec (fun hbig => by omega) fun _ => ?_
  refine ⟨_, _, _, _, _, _, by
    have := Row.of_blk hb3
    exact (this.cells (vs := x.cells) 0 0 fun j v hj => by rw [Nat.add_zero, Nat.zero_add]; exact hj), ?_⟩
  refine (validForm_ok _ _ _ _ _ _ w3).mono ?_
  rintro e w4 ⟨rfl, hm4⟩
  refine ⟨_, rfl, hJ _ _ ?_⟩
  have hm04 := hm3.then hm4
  refine Br_not (Br_intro (fun hv => ?_) fun hv => ⟨ret_bool (vf_false hx (by unfold vnode; rw [hv]; rfl)), hm04⟩)
  refine ⟨x.p, x.ins.length, x.c, by rw [own_add, (hb3.keep hm4 NoB.not).cell]; rfl, ?_⟩
  refine ⟨fun m vs w' => ∃ k : Nat, m = x.ins.length - k ∧ k ≤ x.ins.length ∧ vs = [.bool false, .int .i64 k] ∧ (∀ j v, j < k → x.ins[j]? = some v → 0 ≤ v ∧ v < i) ∧ Mod NoB w w', ⟨_, 0, rfl, Nat.zero_le _, rfl, fun j v hj => by omega, hm04⟩, ?_⟩
  rintro m b' k' w5 ⟨k, rfl, hk, hvs, hpk, hm5⟩
  simp only [List.cons.injEq, Value.int.injEq, Value.bool.injEq, true_and, and_true] at hvs
  obtain ⟨rfl, rfl⟩ := hvs
  refine Br_dec (fun hltk => ?_) fun hgek => ?_
  · have hk' : k < x.ins.length := by omega
    have hv' : x.ins[k]? = some x.ins[k] := List.getElem?_eq_getElem hk'
    generalize x.ins[k] = v at hv'
    obtain ⟨aq, hpq, hcq⟩ := (h.same hm5).ins x hxm |>.row.at (i := k) (v := .int .i64 v) (by rw [ints_get, hv']; rfl)
    rw [hpq]
    refine ⟨⟨by omega, by omega⟩, v, by rw [Int.toNat_natCast, Nat.mul_one]; exact hcq, ?_⟩
    intro J2 hJ2
    have main : ∀ bb : Bool, (bb = true ↔ ¬ (0 ≤ v ∧ v < i)) → J2 [.bool bb] w5 := by
      intro bb hbb
      refine hJ2 _ _ (Br_intro (fun ht => ?_) fun hf => ?_)
      · exact ⟨ret_bool (vf_false hx (by unfold vnode; rw [hv, insOK_false hv' (hbb.1 ht)]; rfl)), hm5⟩
      · have hok : 0 ≤ v ∧ v < i := by
          rcases Classical.em (0 ≤ v ∧ v < i) with h' | h'
          · exact h'
          · rw [hbb.2 h'] at hf; cases hf
        refine ⟨x.ins.length - (k + 1), by omega, k + 1, rfl, hk', by rw [wrap_i64 (by omega) (by omega)]; rfl, ?_, hm5⟩
        intro j u hj hju
        by_cases hjk : j = k
        · subst hjk; rw [hv'] at hju; injection hju with hju; subst hju; exact hok
        · exact hpk j u (by omega) hju
    refine Br_dec (fun hneg => main true ?_) fun hneg => main _ ?_
    · exact ⟨fun _ h' => by omega, fun _ => rfl⟩
    · rw [decide_eq_true_iff]; omega
  · refine ⟨f.length - (i + 1), by omega, i + 1, rfl, hi', by rw [wrap_i64 (by omega) (by omega)]; rfl, ?_, hm5⟩
    intro j y hj hjy
    by_cases hji : j = i
    · subst hji
      rw [hx] at hjy; injection hjy with hjy; subst hjy
      unfold vnode
      rw [hv, Bool.true_and]
      unfold insOK
      rw [List.all_eq_true]
      intro v hvm
      obtain ⟨q, hq⟩ := List.getElem?_of_mem hvm
      have := (List.getElem?_eq_some_iff.1 hq).1
      exact decide_eq_true (hpk q v (by omega) hq)
    · exact hprev j y (by omega) hjy

end Go.Proofs.YtajfdcbknghipaaGreatDoor
end

section
/- importNode. Conditions on memory as stated. -/
namespace Go.Proofs.YtajfdcbknghipaaGreatDoor
open Go Go.Sh Go.Fm

variable {w : World} {s : Addr} {L : List Nd} {d : SD} {B : Nat}

/-- The numbers of the inputs. -/
def numsOf (nums : List Nat) (ins : List Int) : List Nat := ins.map fun x => nums.getD x.toNat 0
def addN (L : List Nd) (k b a : Int) (l : List Nat) : List Nd × Nat :=
  if k = 1 then (L, 1) else if k = 2 then mk L ⟨2, b, a, []⟩ else if k = 3 then nt L (l.headD 0) else if k = 4 ∨ k = 5 then comb L k l else (L, 0)

theorem numsOf_lt {nums : List Nat} {ins : List Int} {n : Nat} (h : ∀ x ∈ nums, x < n) (hi : ∀ x ∈ ins, 0 ≤ x ∧ x < nums.length) : ∀ x ∈ numsOf nums ins, x < n := by
  intro x hx
  obtain ⟨y, hy, rfl⟩ := List.mem_map.1 hx
  have := hi y hy
  have hl : y.toNat < nums.length := by omega
  rw [List.getD_eq_getElem?_getD, List.getElem?_eq_getElem hl]
  exact h _ (List.getElem_mem hl)
theorem insOK_iff {i : Nat} {ins : List Int} (h : insOK i ins = true) : ∀ x ∈ ins, 0 ≤ x ∧ x < i := by
  unfold insOK at h
  rw [List.all_eq_true] at h
  intro x hx
  exact of_decide_eq_true (h x hx)

theorem importNode_ok (h : StI w s L d) (hL : L.length < 30000) {x : FNode} {nums : List Nat} (hx : vnode nums.length x = true) (hxl : x.ins.length ≤ 200) (hr : RowL B w x.p (ints x.ins)) (hf : ∀ b, d.fp b → B ≤ b)
    {pn : Option Addr} {n cn : Nat} (hn : Row w pn (ints (natI nums))) (hnl : nums.length ≤ n) (hv : ∀ a ∈ nums, a < L.length) :
    CallsF Tryz.prog 45 #[.pointer (some s), .agg #[.int .i64 x.kind, .int .i64 x.block, .int .i64 x.alt, .slice x.p x.ins.length x.c], .slice pn n cn] w fun e w' =>
      e = .returned (.int .i64 (addN L x.kind x.block x.alt (numsOf nums x.ins)).2) ∧ StPost w s d (addN L x.kind x.block x.alt (numsOf nums x.ins)).1 w' := by
  unfold vnode at hx
  rw [Bool.and_eq_true] at hx
  have hins := insOK_iff hx.2
  have hvf := hx.1
  have hnum := numsOf_lt hv hins
  have hget : ∀ {w' : World}, Mod NoB w w' → ∀ (k : Nat) (v : Int), x.ins[k]? = some v → ∃ (ap aq : Addr) (y : Nat), x.p = some ap ∧ w'.cell? (ap.add (k * 1)) = some (.int .i64 v) ∧ (0 ≤ v ∧ v < (n : Int)) ∧ pn = some aq ∧ w'.cell? (aq.add (v.toNat * 1)) = some (.int .i64 y) ∧ (numsOf nums x.ins)[k]? = some y := by
    intro w' hm k v hkv
    obtain ⟨ap, hpa, hcp⟩ := (hr.keep hm fun _ hb => hb.elim).row.at (i := k) (v := .int .i64 v) (by rw [ints_get, hkv]; rfl)
    have hvr := hins v (List.mem_of_getElem? hkv)
    have hvl : v.toNat < nums.length := by omega
    have hnv : nums[v.toNat]? = some nums[v.toNat] := List.getElem?_eq_getElem hvl
    obtain ⟨aq, hqa, hcq⟩ := (hn.keep hm fun _ _ => NoB.not).at (i := v.toNat) (v := .int .i64 nums[v.toNat]) (by rw [ints_get, natI_get, hnv]; rfl)
    refine ⟨ap, aq, nums[v.toNat], hpa, by rw [Nat.mul_one]; exact hcp, by omega, hqa, by rw [Nat.mul_one]; exact hcq, ?_⟩
    unfold numsOf
    rw [List.getElem?_map, hkv]
    simp [List.getD_eq_getElem?_getD, hnv]
  refine C_formula_Store_importNode _ _ _ _ _ _ _ _ _ _ _ _ ?_
  refine Br_eq (fun h1 w1 hw1 => ?_) fun h1 => ?_
  · have e : addN L x.kind x.block x.alt (numsOf nums x.ins) = (L, 1) := by unfold addN; rw [if_pos h1]
    rw [e]; exact ⟨rfl, h.post hw1.mod⟩
  refine Br_eq (fun h2 w1 hw1 => ?_) fun h2 => ?_
  · have e : addN L x.kind x.block x.alt (numsOf nums x.ins) = mk L ⟨2, x.block, x.alt, []⟩ := by unfold addN; rw [if_neg h1, if_pos h2]
    rw [e]
    have hp : validP x.block x.alt = true := by
      unfold vform at hvf
      rw [if_neg (by omega), if_pos h2, Bool.and_eq_true] at hvf
      exact hvf.1
    unfold validP at hp
    refine (pick_ok (h.same hw1.mod) hL (of_decide_eq_true hp)).mono ?_
    rintro e w2 ⟨rfl, hpost⟩
    exact ⟨_, rfl, rfl, hpost.pre hw1.mod⟩
  refine Br_eq (fun h3 => ?_) fun h3 => ?_
  · have e : addN L x.kind x.block x.alt (numsOf nums x.ins) = nt L ((numsOf nums x.ins).headD 0) := by unfold addN; rw [if_neg h1, if_neg h2, if_pos h3]
    rw [e]
    have h1l : x.ins.length = 1 := by
      unfold vform at hvf
      rw [if_neg (by omega), if_neg h2, if_pos h3] at hvf
      exact (of_decide_eq_true hvf).2.2
    have hv0 : x.ins[0]? = some x.ins[0] := List.getElem?_eq_getElem (by omega)
    generalize x.ins[0] = v at hv0
    obtain ⟨ap, aq, y, hpa, hcp, hvr, hqa, hcq, hy⟩ := hget (Mod.refl _ _) 0 v hv0
    rw [hpa, hqa]
    have hhd : (numsOf nums x.ins).headD 0 = y := by
      cases hq : numsOf nums x.ins with
      | nil => rw [hq] at hy; cases hy
      | cons z r => rw [hq] at hy; simpa using hy
    refine ⟨⟨by omega, by omega⟩, v, hcp, ⟨by omega, by omega⟩, y, hcq, ?_⟩
    intro w1 hw1
    have hyL : y < L.length := hnum y (List.mem_of_getElem? hy)
    refine (not_ok (h.same hw1.mod) hL hyL).mono ?_
    rintro e w2 ⟨rfl, hpost⟩
    rw [hhd]
    exact ⟨_, rfl, rfl, hpost.pre hw1.mod⟩
  intro w1 hw1 J hJ
  have hb1 := hw1.blk 0 rfl
  have hs1 := hw1.size
  simp only [List.length_cons, List.length_nil] at hs1
  have main : ∀ bb : Bool, bb = decide (x.kind = 4 ∨ x.kind = 5) → J [.bool bb] w1 := by
    intro bb hbb
    refine hJ _ _ (Br_intro (fun ht => ?_) fun hfl => ?_)
    · have hk : x.kind = 4 ∨ x.kind = 5 := by rw [hbb] at ht; exact of_decide_eq_true ht
      have e : addN L x.kind x.block x.alt (numsOf nums x.ins) = comb L x.kind (numsOf nums x.ins) := by unfold addN; rw [if_neg h1, if_neg h2, if_neg h3, if_pos hk]
      rw [e]
      refine ⟨x.p, x.ins.length, x.c, by rw [own_add, hb1.cell]; rfl, ?_⟩
      obtain ⟨w2, hmk, ho2, hm2, hs2⟩ := makeSlice_own (w := w1) elem_int rfl .i64 .i64 (l := x.ins.length) (n := x.ins.length) (Nat.le_refl _) (by omega) (by omega)
      refine ⟨w2, _, _, _, hmk, x.p, x.ins.length, x.c, by rw [own_add, (hb1.keep hm2 NoB.not).cell]; rfl, ?_⟩
      have hm02 : Mod NoB w w2 := hw1.mod.then hm2
      have hnl2 : (numsOf nums x.ins).length = x.ins.length := by simp [numsOf]
      have hsz : w.heap.size ≤ w1.heap.size := hw1.mod.size
      obtain ⟨hb2, hb2'⟩ : Blk w2 w1.heap.size (List.replicate x.ins.length (.int .i64 0)) 3 ∧ True := by
        rcases ho2.form with ⟨h0, _⟩ | ⟨g, rest, hg, hb, _, _, hl⟩
        · cases h0
        · injection hg with hg; injection hg with hg; subst hg
          have : rest = [] := by
            apply List.eq_nil_of_length_eq_zero
            simp only [List.length_append, List.length_replicate, Nat.mul_one] at hl; omega
          rw [this, List.append_nil] at hb
          exact ⟨hb, trivial⟩
      refine ⟨fun m vs w' => ∃ k : Nat, m = x.ins.length - k ∧ k ≤ x.ins.length ∧ vs = [.int .i64 k] ∧ Blk w' w1.heap.size (ints (natI ((numsOf nums x.ins).take k)) ++ List.replicate (x.ins.length - k) (.int .i64 0)) 3 ∧ Mod NoB w w' ∧ Mod (· = w1.heap.size) w2 w', ⟨_, 0, rfl, Nat.zero_le _, rfl, hb2, hm02, Mod.refl _ _⟩, ?_⟩
      rintro m k' w3 ⟨k, rfl, hk3, hvs, hb3, hm3, hm23⟩
      simp only [List.cons.injEq, Value.int.injEq, true_and, and_true] at hvs
      subst hvs
      refine Br_dec (fun hlt => ?_) fun hge => ?_
      · have hk' : k < x.ins.length := by omega
        have hv0 : x.ins[k]? = some x.ins[k] := List.getElem?_eq_getElem hk'
        generalize x.ins[k] = v at hv0
        obtain ⟨ap, aq, y, hpa, hcp, hvr, hqa, hcq, hy⟩ := hget hm3 k v hv0
        rw [hpa, hqa]
        have hltk : (ints (natI ((numsOf nums x.ins).take k))).length = k := by rw [ints_len, natI_len, List.length_take]; omega
        refine ⟨⟨by omega, by omega⟩, v, by rw [Int.toNat_natCast]; exact hcp, ⟨by omega, by omega⟩, y, hcq, ⟨by omega, by omega⟩, ?_, ?_⟩
        · rw [own_add]
          refine canStore_blk hb3 _ 0 rfl ?_
          simp only [List.length_append, hltk, List.length_replicate, List.length_cons, List.length_nil, Int.toNat_natCast]
          omega
        intro w4 hw4
        rw [own_add, Int.toNat_natCast] at hw4
        have hb4 := hw4.blk hb3
        have hm4 : Mod (· = w1.heap.size) w3 w4 := hw4.mod
        refine ⟨x.ins.length - (k + 1), by omega, k + 1, rfl, hk', by rw [wrap_i64 (by omega) (by omega)]; rfl, ?_, hm3.new _ hm4 fun b hb e => by omega, hm23.then hm4⟩
        have htk : (numsOf nums x.ins).take (k + 1) = (numsOf nums x.ins).take k ++ [y] := by
          rw [List.take_add_one, hy]; rfl
        have es : setAt (ints (natI ((numsOf nums x.ins).take k)) ++ List.replicate (x.ins.length - k) (.int .i64 0)) (0 + k * 1) [.int .i64 y] = ints (natI ((numsOf nums x.ins).take (k + 1))) ++ List.replicate (x.ins.length - (k + 1)) (.int .i64 0) := by
          rw [htk, natI_append, ints_append]
          have hrep : List.replicate (x.ins.length - k) (Value.int .i64 0) = .int .i64 0 :: List.replicate (x.ins.length - (k + 1)) (.int .i64 0) := by
            have : x.ins.length - k = (x.ins.length - (k + 1)) + 1 := by omega
            rw [this, List.replicate_succ]
          simp only [setAt, Nat.zero_add, Nat.mul_one]
          rw [hrep, List.set_append_right _ _ (by omega), hltk, Nat.sub_self, List.set_cons_zero, List.append_assoc]
          rfl
        rw [es] at hb4
        exact hb4
      · have hke : k = x.ins.length := by omega
        subst hke
        have hall : (numsOf nums x.ins).take x.ins.length = numsOf nums x.ins := by rw [← hnl2, List.take_length]
        rw [hall, Nat.sub_self, List.replicate_zero, List.append_nil] at hb3
        refine ⟨x.kind, by rw [own_add, ((hb1.keep hm2 NoB.not).keep hm23 (show ¬ w.heap.size + 0 = w1.heap.size by omega)).cell]; rfl, ?_⟩
        have hc := combine_ok (p := some ⟨w1.heap.size, 0, none⟩) (c := x.ins.length) (h.same hm3) hL hk (Row.of_blk hb3) hnum (by omega)
        rw [hnl2] at hc
        refine hc.mono ?_
        rintro e w4 ⟨rfl, hpost⟩
        exact ⟨_, rfl, rfl, hpost.pre hm3⟩
    · have hk : ¬ (x.kind = 4 ∨ x.kind = 5) := by rw [hbb] at hfl; exact of_decide_eq_false hfl
      have e : addN L x.kind x.block x.alt (numsOf nums x.ins) = (L, 0) := by unfold addN; rw [if_neg h1, if_neg h2, if_neg h3, if_neg hk]
      rw [e]; exact ⟨rfl, h.post hw1.mod⟩
  refine Br_eq (fun h4 => main _ ?_) fun h4 => main _ ?_
  · rw [Bool.eq_iff_iff]; simp [h4]
  · rw [Bool.eq_iff_iff]; simp [h4]

end Go.Proofs.YtajfdcbknghipaaGreatDoor
end

section
/- The nodes that a node uses: plain Lean, no program. -/
namespace Go.Fm

/-- For every node, the ascending list of itself and what it uses. -/
def descs (L : List Nd) : List (List Nat) := L.foldl (fun acc n => acc ++ [srt (acc.length :: n.ins.flatMap fun x => acc.getD x [])]) []
def coneL (L : List Nd) (a : Nat) : List Nat := (descs L).getD a []
theorem descs_snoc (L : List Nd) (n : Nd) : descs (L ++ [n]) = descs L ++ [srt ((descs L).length :: n.ins.flatMap fun x => (descs L).getD x [])] := by
  unfold descs; rw [List.foldl_append]; rfl
theorem snoc_ind {α : Type} {P : List α → Prop} (h0 : P []) (h1 : ∀ l x, P l → P (l ++ [x])) : ∀ l, P l := by
  intro l
  have : ∀ m (l : List α), l.length = m → P l := by
    intro m
    induction m with
    | zero => intro l hl; rw [List.eq_nil_of_length_eq_zero hl]; exact h0
    | succ m ih =>
      intro l hl
      have hne : l ≠ [] := by intro e; rw [e] at hl; simp at hl
      rw [← List.dropLast_concat_getLast hne]
      exact h1 _ _ (ih _ (by rw [List.length_dropLast]; omega))
  exact this _ l rfl
theorem descs_length (L : List Nd) : (descs L).length = L.length := by
  induction L using snoc_ind with
  | h0 => rfl
  | h1 L n ih => rw [descs_snoc, List.length_append, List.length_append, ih]; rfl
theorem descs_append (L e : List Nd) : ∃ r, descs (L ++ e) = descs L ++ r := by
  induction e using snoc_ind with
  | h0 => exact ⟨[], by simp⟩
  | h1 e n ih =>
    obtain ⟨r, hr⟩ := ih
    refine ⟨r ++ [srt ((descs (L ++ e)).length :: n.ins.flatMap fun x => (descs (L ++ e)).getD x [])], ?_⟩
    rw [← List.append_assoc, descs_snoc, hr, List.append_assoc]
theorem coneL_append {L e : List Nd} {a : Nat} (ha : a < L.length) : coneL (L ++ e) a = coneL L a := by
  obtain ⟨r, hr⟩ := descs_append L e
  unfold coneL
  rw [hr, List.getD_eq_getElem?_getD, List.getD_eq_getElem?_getD, List.getElem?_append_left (by rw [descs_length]; exact ha)]
theorem coneL_eq {L : List Nd} (hok : ∀ i n, L[i]? = some n → NdOK i n) {a : Nat} {n : Nd} (ha : L[a]? = some n) : coneL L a = srt (a :: n.ins.flatMap fun x => coneL L x) := by
  have hlt := (List.getElem?_eq_some_iff.1 ha).1
  have hge := (List.getElem?_eq_some_iff.1 ha).2
  have hsplit : L = L.take a ++ (n :: L.drop (a + 1)) := by
    rw [← hge, List.getElem_cons_drop, List.take_append_drop]
  have hl : (L.take a).length = a := by rw [List.length_take]; omega
  have h1 : coneL (L.take a ++ [n]) a = srt (a :: n.ins.flatMap fun x => coneL (L.take a) x) := by
    unfold coneL
    rw [descs_snoc, List.getD_eq_getElem?_getD, List.getElem?_append_right (by rw [descs_length, hl]; exact Nat.le_refl _), descs_length, hl, Nat.sub_self]
    rfl
  have h2 : L = (L.take a ++ [n]) ++ L.drop (a + 1) := by rw [List.append_assoc]; exact hsplit
  have h3 : coneL L a = coneL (L.take a ++ [n]) a := by
    rw [h2]
    have h4 : ((L.take a ++ [n]) ++ L.drop (a + 1)).take a = L.take a := by rw [← h2]
    rw [h4]
    exact coneL_append (by rw [List.length_append, hl]; simp)
  rw [h3, h1]
  congr 2
  have h5 : ∀ x ∈ n.ins, coneL (L.take a) x = coneL L x := by
    intro x hx
    have hxa := (hok a n ha).lt x hx
    have h6 := coneL_append (L := L.take a) (e := n :: L.drop (a + 1)) (a := x) (by rw [hl]; exact hxa)
    rw [← hsplit] at h6
    exact h6.symm
  clear h1 h2 h3 ha hsplit hge
  revert h5
  generalize n.ins = l
  intro h5
  induction l with
  | nil => rfl
  | cons x l ih =>
    rw [List.flatMap_cons, List.flatMap_cons, h5 x List.mem_cons_self, ih fun y hy => h5 y (List.mem_cons_of_mem _ hy)]
theorem coneL_asc {L : List Nd} (hok : ∀ i n, L[i]? = some n → NdOK i n) (a : Nat) : (coneL L a).Pairwise (· < ·) := by
  cases h : L[a]? with
  | some n => rw [coneL_eq hok h]; exact srt_asc _
  | none =>
    have : coneL L a = [] := by
      unfold coneL
      rw [List.getD_eq_getElem?_getD, List.getElem?_eq_none (by rw [descs_length]; exact List.getElem?_eq_none_iff.1 h)]
      rfl
    rw [this]; exact List.Pairwise.nil
theorem mem_cone {L : List Nd} (hok : ∀ i n, L[i]? = some n → NdOK i n) {a : Nat} {n : Nd} (ha : L[a]? = some n) (x : Nat) : x ∈ coneL L a ↔ x = a ∨ ∃ y ∈ n.ins, x ∈ coneL L y := by
  rw [coneL_eq hok ha, mem_srt, List.mem_cons, List.mem_flatMap]
theorem cone_self {L : List Nd} (hok : ∀ i n, L[i]? = some n → NdOK i n) {a : Nat} (ha : a < L.length) : a ∈ coneL L a := by
  rw [mem_cone hok (List.getElem?_eq_getElem ha)]; exact .inl rfl
/-- What a used node uses is used. -/
theorem cone_trans {L : List Nd} (hok : ∀ i n, L[i]? = some n → NdOK i n) : ∀ (a : Nat), ∀ {x y : Nat} {m : Nd}, a < L.length → x ∈ coneL L a → L[x]? = some m → y ∈ m.ins → y ∈ coneL L a := by
  intro a
  induction a using Nat.strongRecOn with
  | ind a ih =>
    intro x y m ha hx hm hy
    have hn : L[a]? = some L[a] := List.getElem?_eq_getElem ha
    generalize L[a] = n at hn
    rw [mem_cone hok hn] at hx ⊢
    rcases hx with rfl | ⟨z, hz, hxz⟩
    · rw [hn] at hm
      injection hm with hm
      subst hm
      have hyx := (hok _ _ hn).lt y hy
      exact .inr ⟨y, hy, cone_self hok (by omega)⟩
    · have hza := (hok _ _ hn).lt z hz
      exact .inr ⟨z, hz, ih z hza (by omega) hxz hm hy⟩
theorem cone_le {L : List Nd} (hok : ∀ i n, L[i]? = some n → NdOK i n) : ∀ (a : Nat), ∀ {x : Nat}, a < L.length → x ∈ coneL L a → x ≤ a := by
  intro a
  induction a using Nat.strongRecOn with
  | ind a ih =>
    intro x ha hx
    have hn : L[a]? = some L[a] := List.getElem?_eq_getElem ha
    generalize L[a] = n at hn
    rw [mem_cone hok hn] at hx
    rcases hx with rfl | ⟨z, hz, hxz⟩
    · exact Nat.le_refl _
    · have hza := (hok _ _ hn).lt z hz
      have := ih z hza (by omega) hxz
      omega
theorem cone_sub {L : List Nd} (hok : ∀ i n, L[i]? = some n → NdOK i n) : ∀ (a : Nat), ∀ {b : Nat}, b < L.length → a ∈ coneL L b → ∀ x, x ∈ coneL L a → x ∈ coneL L b := by
  intro a
  induction a using Nat.strongRecOn with
  | ind a ih =>
    intro b hb hab x hx
    have hal := cone_le hok b hb hab
    have hn : L[a]? = some (L[a]'(by omega)) := List.getElem?_eq_getElem (by omega)
    generalize L[a]'(by omega) = n at hn
    rw [mem_cone hok hn] at hx
    rcases hx with rfl | ⟨z, hz, hxz⟩
    · exact hab
    · exact ih z ((hok _ _ hn).lt z hz) hb (cone_trans hok b hb hab hn hz) x hxz
/-- A list that is closed, holds the root and nothing but used nodes is the cone. -/
theorem cone_of_closed {L : List Nd} (hok : ∀ i n, L[i]? = some n → NdOK i n) {a : Nat} (ha : a < L.length) {l : List Nat} (h0 : a ∈ l) (hcl : ∀ x ∈ l, ∀ m, L[x]? = some m → ∀ y ∈ m.ins, y ∈ l) (hsub : ∀ x ∈ l, x ∈ coneL L a) : srt l = coneL L a := by
  have key : ∀ (b : Nat), b < L.length → b ∈ l → ∀ x ∈ coneL L b, x ∈ l := by
    intro b
    induction b using Nat.strongRecOn with
    | ind b ih =>
      intro hb hbl x hx
      have hn : L[b]? = some L[b] := List.getElem?_eq_getElem hb
      generalize L[b] = n at hn
      rw [mem_cone hok hn] at hx
      rcases hx with rfl | ⟨z, hz, hxz⟩
      · exact hbl
      · have hzb := (hok _ _ hn).lt z hz
        exact ih z hzb (by omega) (hcl b hbl n hn z hz) x hxz
  exact (srt_eq (coneL_asc hok a) fun x => ⟨fun hx => key a ha h0 x hx, fun hx => hsub x hx⟩).symm

end Go.Fm
namespace Go.Fm
def nodeAt (L : List Nd) (x : Nat) : Nd := (L[x]?).getD ⟨0, 0, 0, []⟩
theorem nodeAt_eq {L : List Nd} {x : Nat} {n : Nd} (h : L[x]? = some n) : nodeAt L x = n := by unfold nodeAt; rw [h]; rfl
/-- A node, its inputs numbered by a list. -/
def reN (l : List Nat) (n : Nd) : Nd := ⟨n.kind, n.block, n.alt, n.ins.map fun y => l.idxOf y⟩
/-- The nodes that a node uses, as a formula of its own. -/
def expN (L : List Nd) (a : Nat) : List Nd := (coneL L a).map fun x => reN (coneL L a) (nodeAt L x)
theorem idxOf_get {l : List Nat} (h : l.Nodup) {i x : Nat} (hi : l[i]? = some x) : l.idxOf x = i := by
  have hm := List.mem_of_getElem? hi
  have hl := List.idxOf_lt_length_iff.2 hm
  exact nodup_inj h (by rw [List.getElem?_eq_getElem hl, List.getElem_idxOf hl]) hi
end Go.Fm
end

section
/- The values of nodes in a world: plain Lean, no program. -/
namespace Go.Fm

def pickV (v : List Int) (b a : Int) : Bool := decide (v[b.toNat]? = some a)
def nval (n : Nd) (vals : List Bool) (v : List Int) : Bool :=
  if n.kind = 1 then true else if n.kind = 2 then pickV v n.block n.alt else if n.kind = 3 then !(vals.getD (n.ins.headD 0) false) else if n.kind = 4 then n.ins.all (fun x => vals.getD x false) else if n.kind = 5 then n.ins.any (fun x => vals.getD x false) else false
def evalL (L : List Nd) (v : List Int) : List Bool := L.foldl (fun vals n => vals ++ [nval n vals v]) []
theorem evalL_snoc (L : List Nd) (n : Nd) (v : List Int) : evalL (L ++ [n]) v = evalL L v ++ [nval n (evalL L v) v] := by
  unfold evalL; rw [List.foldl_append]; rfl
theorem evalL_length (L : List Nd) (v : List Int) : (evalL L v).length = L.length := by
  induction L using snoc_ind with
  | h0 => rfl
  | h1 L n ih => rw [evalL_snoc, List.length_append, List.length_append, ih]; rfl
theorem evalL_append (L e : List Nd) (v : List Int) : ∃ r, evalL (L ++ e) v = evalL L v ++ r := by
  induction e using snoc_ind with
  | h0 => exact ⟨[], by simp⟩
  | h1 e n ih =>
    obtain ⟨r, hr⟩ := ih
    refine ⟨r ++ [nval n (evalL (L ++ e) v) v], ?_⟩
    rw [← List.append_assoc, evalL_snoc, hr, List.append_assoc]
/-- The value of node a. -/
def val (L : List Nd) (v : List Int) (a : Nat) : Bool := (evalL L v).getD a false
theorem val_append {L e : List Nd} {v : List Int} {a : Nat} (ha : a < L.length) : val (L ++ e) v a = val L v a := by
  obtain ⟨r, hr⟩ := evalL_append L e v
  unfold val
  rw [hr, List.getD_eq_getElem?_getD, List.getD_eq_getElem?_getD, List.getElem?_append_left (by rw [evalL_length]; exact ha)]
theorem nval_congr {n : Nd} {l m : List Bool} {v : List Int} (h : ∀ x ∈ n.ins, l.getD x false = m.getD x false) (h3 : n.kind = 3 → n.ins ≠ []) : nval n l v = nval n m v := by
  have h4 : n.ins.all (fun x => l.getD x false) = n.ins.all (fun x => m.getD x false) := by
    rw [Bool.eq_iff_iff, List.all_eq_true, List.all_eq_true]
    exact ⟨fun hh x hx => by rw [← h x hx]; exact hh x hx, fun hh x hx => by rw [h x hx]; exact hh x hx⟩
  have h5 : n.ins.any (fun x => l.getD x false) = n.ins.any (fun x => m.getD x false) := by
    rw [Bool.eq_iff_iff, List.any_eq_true, List.any_eq_true]
    exact ⟨fun ⟨x, hx, hh⟩ => ⟨x, hx, by rw [← h x hx]; exact hh⟩, fun ⟨x, hx, hh⟩ => ⟨x, hx, by rw [h x hx]; exact hh⟩⟩
  have h6 : n.kind = 3 → l.getD (n.ins.headD 0) false = m.getD (n.ins.headD 0) false := by
    intro hk
    have := h3 hk
    cases hi : n.ins with
    | nil => exact absurd hi this
    | cons x r => rw [List.headD_cons]; exact h x (by rw [hi]; exact List.mem_cons_self)
  unfold nval
  rw [h4, h5]
  by_cases hk : n.kind = 3
  · rw [h6 hk]
  · simp only [if_neg hk]
/-- The value of a node by those of its inputs. -/
theorem val_eq {L : List Nd} (hok : ∀ i n, L[i]? = some n → NdOK i n) {a : Nat} {n : Nd} (ha : L[a]? = some n) (v : List Int) : val L v a = nval n (evalL L v) v := by
  have hlt := (List.getElem?_eq_some_iff.1 ha).1
  have hge := (List.getElem?_eq_some_iff.1 ha).2
  have hsplit : L = (L.take a ++ [n]) ++ L.drop (a + 1) := by
    rw [List.append_assoc]
    show L = L.take a ++ (n :: L.drop (a + 1))
    rw [← hge, List.getElem_cons_drop, List.take_append_drop]
  have hl : (L.take a).length = a := by rw [List.length_take]; omega
  have h1 : val L v a = val (L.take a ++ [n]) v a := by
    have := val_append (L := L.take a ++ [n]) (e := L.drop (a + 1)) (v := v) (a := a) (by rw [List.length_append, hl]; simp)
    rw [← hsplit] at this
    exact this
  have h2 : val (L.take a ++ [n]) v a = nval n (evalL (L.take a) v) v := by
    unfold val
    rw [evalL_snoc, List.getD_eq_getElem?_getD, List.getElem?_append_right (by rw [evalL_length, hl]; exact Nat.le_refl _), evalL_length, hl, Nat.sub_self]
    rfl
  rw [h1, h2]
  refine nval_congr (fun x hx => ?_) fun hk => ?_
  · have hxa := (hok a n ha).lt x hx
    have := val_append (L := L.take a) (e := [n] ++ L.drop (a + 1)) (v := v) (a := x) (by rw [hl]; exact hxa)
    rw [← List.append_assoc, ← hsplit] at this
    exact this.symm
  · have := (hok a n ha).not1 hk
    intro e; rw [e] at this; cases this

end Go.Fm
end

section
/- Condition, as a function on stores: plain Lean, no program. -/
namespace Go.Fm

def getN : List (Nat × Nat) → Nat → Nat
  | [], _ => 0
  | (k, v) :: m, x => if x = k then v else getN m x
theorem getN_snoc (m : List (Nat × Nat)) (k v x : Nat) : getN (m ++ [(k, v)]) x = if x ∈ m.map Prod.fst then getN m x else if x = k then v else 0 := by
  induction m with
  | nil => simp [getN]
  | cons e m ih =>
    obtain ⟨k', v'⟩ := e
    simp only [List.cons_append, getN, ih, List.map_cons, List.mem_cons]
    by_cases h : x = k'
    · simp [h]
    · simp only [h, false_or, if_false]
/-- What one node becomes. -/
def condN (L : List Nd) (bec : List (Nat × Nat)) (x : Nat) (n : Nd) (b al : Int) : List Nd × Nat :=
  if n.kind = 2 ∧ n.block = b then (L, if n.alt = al then 1 else 0)
  else if n.ins.map (getN bec) = n.ins then (L, x)
  else if n.kind = 3 then nt L ((n.ins.map (getN bec)).headD 0)
  else if n.kind = 4 ∨ n.kind = 5 then comb L n.kind (n.ins.map (getN bec)) else (L, x)
/-- What the nodes of a list become, one after the other; the nodes themselves are those of L0. -/
def condR (L0 : List Nd) (b al : Int) : List Nd → List (Nat × Nat) → List Nat → List Nd × List (Nat × Nat)
  | L, bec, [] => (L, bec)
  | L, bec, x :: xs => condR L0 b al (condN L bec x (nodeAt L0 x) b al).1 (bec ++ [(x, (condN L bec x (nodeAt L0 x) b al).2)]) xs
theorem condR_snoc (L0 : List Nd) (b al : Int) : ∀ (xs : List Nat) (L : List Nd) (bec : List (Nat × Nat)) (x : Nat), condR L0 b al L bec (xs ++ [x]) =
    ((condN (condR L0 b al L bec xs).1 (condR L0 b al L bec xs).2 x (nodeAt L0 x) b al).1, (condR L0 b al L bec xs).2 ++ [(x, (condN (condR L0 b al L bec xs).1 (condR L0 b al L bec xs).2 x (nodeAt L0 x) b al).2)])
  | [], _, _, _ => rfl
  | y :: xs, L, bec, x => by rw [List.cons_append, condR, condR_snoc L0 b al xs, condR]
theorem condR_keys (L0 : List Nd) (b al : Int) : ∀ (xs : List Nat) (L : List Nd) (bec : List (Nat × Nat)), (condR L0 b al L bec xs).2.map Prod.fst = bec.map Prod.fst ++ xs
  | [], _, _ => by simp [condR]
  | x :: xs, L, bec => by rw [condR, condR_keys L0 b al xs]; simp
/-- Condition: the store behind it, and the node. -/
def condF (L : List Nd) (a : Nat) (b al : Int) : List Nd × Nat :=
  ((condR L b al L [] (coneL L a)).1, getN (condR L b al L [] (coneL L a)).2 a)

theorem comb_ext (L : List Nd) (kind : Int) (l : List Nat) : ∃ e, (comb L kind l).1 = L ++ e ∧ e.length ≤ 1 := by
  unfold comb
  split
  · exact ⟨[], by simp, by simp⟩
  · split
    · exact ⟨[], by simp, by simp⟩
    · exact ⟨[], by simp, by simp⟩
    · exact mk_ext _ _
theorem nt_ext (L : List Nd) (a : Nat) : ∃ e, (nt L a).1 = L ++ e ∧ e.length ≤ 1 := by
  unfold nt
  split
  · exact ⟨[], by simp, by simp⟩
  · split
    · split
      · exact ⟨[], by simp, by simp⟩
      · exact mk_ext _ _
    · exact ⟨[], by simp, by simp⟩
theorem condN_ext (L : List Nd) (bec : List (Nat × Nat)) (x : Nat) (n : Nd) (b al : Int) : ∃ e, (condN L bec x n b al).1 = L ++ e ∧ e.length ≤ 1 := by
  unfold condN
  split
  · exact ⟨[], by simp, by simp⟩
  split
  · exact ⟨[], by simp, by simp⟩
  split
  · exact nt_ext _ _
  split
  · exact comb_ext _ _ _
  · exact ⟨[], by simp, by simp⟩

theorem comb_lt {L : List Nd} {kind : Int} {l : List Nat} (h : WF L) (hk : kind = 4 ∨ kind = 5) (hl : ∀ a ∈ l, a < L.length) : (comb L kind l).2 < (comb L kind l).1.length := by
  have h2 := h.two
  have hf := flat_lt h.ok (kind := kind) hl
  have hno := ndOK_comb h hk hl (l := l)
  unfold comb
  generalize flat L kind l = f at hf hno
  split
  · show absorbOf kind < L.length
    unfold absorbOf; split <;> omega
  · rename_i hc
    match f, hf, hno, hc with
    | [], _, _, _ => show neutralOf kind < L.length; unfold neutralOf; split <;> omega
    | [a], hf, _, _ => exact hf a List.mem_cons_self
    | a :: b :: r, _, hno, hc =>
      have hc' : (a :: b :: r).contains (absorbOf kind) = false := by
        cases hq : (a :: b :: r).contains (absorbOf kind) with
        | false => rfl
        | true => rw [hq] at hc; simp at hc
      exact (List.getElem?_eq_some_iff.1 (mk_wf h (hno hc')).2).1
theorem nt_lt {L : List Nd} (h : WF L) {a : Nat} (ha : a < L.length) : (nt L a).2 < (nt L a).1.length := by
  have h2 := h.two
  unfold nt
  split
  · show 1 - a < L.length; omega
  · have hn : L[a]? = some L[a] := List.getElem?_eq_getElem ha
    generalize L[a] = nd at hn
    rw [hn]
    simp only
    split
    · rename_i h3
      obtain ⟨x, hx⟩ : ∃ x, nd.ins = [x] := List.length_eq_one_iff.1 ((h.ok a nd hn).not1 h3)
      have := (h.ok a nd hn).lt x (by rw [hx]; exact List.mem_cons_self)
      show nd.ins.headD 0 < L.length
      rw [hx]; simp; omega
    · exact (List.getElem?_eq_some_iff.1 (mk_wf h (ndOK_not (by omega) ha)).2).1
theorem condN_lt {L : List Nd} (h : WF L) {bec : List (Nat × Nat)} {x : Nat} {n : Nd} {b al : Int} (hx : x < L.length) (hb : ∀ y ∈ n.ins, getN bec y < L.length) (h3 : n.kind = 3 → n.ins ≠ []) : (condN L bec x n b al).2 < (condN L bec x n b al).1.length := by
  have h2 := h.two
  unfold condN
  split
  · show (if n.alt = al then 1 else 0) < L.length
    split <;> omega
  split
  · exact hx
  split
  · rename_i hk
    refine nt_lt h ?_
    have := h3 hk
    cases hi : n.ins with
    | nil => exact absurd hi this
    | cons y r => rw [List.map_cons, List.headD_cons]; exact hb y (by rw [hi]; exact List.mem_cons_self)
  split
  · rename_i hk
    refine comb_lt h hk fun y hy => ?_
    obtain ⟨z, hz, rfl⟩ := List.mem_map.1 hy
    exact hb z hz
  · exact hx

end Go.Fm
namespace Go.Fm
theorem asc_last {l : List Nat} {a : Nat} (h : l.Pairwise (· < ·)) (ha : a ∈ l) (hle : ∀ x ∈ l, x ≤ a) : 0 < l.length ∧ l.getD (l.length - 1) 0 = a := by
  obtain ⟨j, hj⟩ := List.getElem?_of_mem ha
  obtain ⟨hjl, hje⟩ := List.getElem?_eq_some_iff.1 hj
  refine ⟨by omega, ?_⟩
  rw [List.getD_eq_getElem?_getD, List.getElem?_eq_getElem (by omega)]
  show l[l.length - 1] = a
  by_cases hjn : j = l.length - 1
  · rw [← hje]; simp only [hjn]
  · have h1 := List.pairwise_iff_getElem.1 h j (l.length - 1) hjl (by omega) (by omega)
    have h2 := hle _ (List.getElem_mem (show l.length - 1 < l.length by omega))
    omega
/-- In an ascending list what is smaller comes first. -/
theorem asc_before {l : List Nat} (h : l.Pairwise (· < ·)) {i x y : Nat} (hi : l[i]? = some x) (hy : y ∈ l) (hlt : y < x) : y ∈ l.take i := by
  obtain ⟨j, hj⟩ := List.getElem?_of_mem hy
  obtain ⟨hjl, hje⟩ := List.getElem?_eq_some_iff.1 hj
  obtain ⟨hil, hie⟩ := List.getElem?_eq_some_iff.1 hi
  have hji : j < i := by
    rcases Nat.lt_trichotomy j i with h' | h' | h'
    · exact h'
    · subst h'; omega
    · have := List.pairwise_iff_getElem.1 h i j hil hjl h'; omega
  exact List.mem_of_getElem? (i := j) (by rw [List.getElem?_take, if_pos hji]; exact hj)
end Go.Fm
end

section
/- Import. Conditions on memory as stated. -/
namespace Go.Proofs.YtajfdcbknghipaaGreatDoor
open Go Go.Sh Go.Fm

variable {w : World} {s : Addr} {L : List Nd} {d : SD} {B : Nat} {kind : Int} {l : List Nat}

theorem addN_ext (L : List Nd) (k b a : Int) (l : List Nat) : ∃ e, (addN L k b a l).1 = L ++ e ∧ e.length ≤ 1 := by
  unfold addN
  split
  · exact ⟨[], by simp, by simp⟩
  split
  · exact mk_ext _ _
  split
  · exact nt_ext _ _
  split
  · exact comb_ext _ _ _
  · exact ⟨[], by simp, by simp⟩
theorem addN_lt (h : WF L) {k b a : Int} {n : Nat} (hv : vform k b a n = true) (hn : l.length = n) (hl : ∀ x ∈ l, x < L.length) : (addN L k b a l).2 < (addN L k b a l).1.length := by
  have h2 := h.two
  unfold addN
  split
  · show 1 < L.length; omega
  split
  · rename_i h1 hk
    unfold vform at hv
    rw [if_neg (by omega), if_pos hk, Bool.and_eq_true] at hv
    have hp := hv.1
    unfold validP at hp
    exact (List.getElem?_eq_some_iff.1 (mk_wf h (ndOK_pick (of_decide_eq_true hp))).2).1
  split
  · rename_i h1 h2' hk
    unfold vform at hv
    rw [if_neg (by omega), if_neg h2', if_pos hk] at hv
    have hl1 : l.length = 1 := by rw [hn]; exact (of_decide_eq_true hv).2.2
    obtain ⟨x, rfl⟩ := List.length_eq_one_iff.1 hl1
    exact nt_lt h (hl x List.mem_cons_self)
  split
  · rename_i hk
    exact comb_lt h hk hl
  · show 0 < L.length; omega

/-- The store and the nodes' numbers behind the import of these nodes. -/
def impF : List Nd → List Nat → List FNode → List Nd × List Nat
  | L, nums, [] => (L, nums)
  | L, nums, x :: f => impF (addN L x.kind x.block x.alt (numsOf nums x.ins)).1 (nums ++ [(addN L x.kind x.block x.alt (numsOf nums x.ins)).2]) f
theorem impF_snoc : ∀ (f : List FNode) (L : List Nd) (nums : List Nat) (x : FNode), impF L nums (f ++ [x]) =
    ((addN (impF L nums f).1 x.kind x.block x.alt (numsOf (impF L nums f).2 x.ins)).1, (impF L nums f).2 ++ [(addN (impF L nums f).1 x.kind x.block x.alt (numsOf (impF L nums f).2 x.ins)).2])
  | [], _, _, _ => rfl
  | y :: f, L, nums, x => by rw [List.cons_append, impF, impF_snoc f, impF]
theorem impF_len : ∀ (f : List FNode) (L : List Nd) (nums : List Nat), (impF L nums f).2.length = nums.length + f.length
  | [], _, _ => rfl
  | x :: f, L, nums => by rw [impF, impF_len f]; simp; omega

theorem import_ok (h : StI w s L d) {f : List FNode} (hL : L.length + f.length < 30000) {p : Option Addr} {c : Nat} (hm : FormM B w p f) (hBw : B ≤ w.heap.size) (hf : ∀ b, d.fp b → B ≤ b) (hs : f.length ≤ 200) (hi : ∀ x ∈ f, x.ins.length ≤ 200) (hv : vf f = true) :
    CallsF Tryz.prog 24 #[.pointer (some s), .agg #[.slice p f.length c]] w fun e w' =>
      e = .returned (.tuple #[.int .i64 ((impF L [] f).2.getLastD 0), .int .i64 0]) ∧ StPost w s d (impF L [] f).1 w' := by
  have hvn := vf_iff.1 hv
  refine C_formula_Store_Import _ _ _ _ _ _ ?_
  intro w1 hw1
  have hb1 := hw1.blk 0 rfl
  refine (valid_ok (hm.same hw1.mod) hs hi).mono ?_
  rintro e w2 ⟨rfl, hm2⟩
  rw [hv]
  refine ⟨true, rfl, p, f.length, c, by rw [own_add, (hb1.keep hm2 NoB.not).cell]; rfl, ?_⟩
  obtain ⟨w3, hmk, ho3, hm3, hs3⟩ := makeSlice_own (w := w2) elem_int rfl .i64 .i64 (l := f.length) (n := f.length) (Nat.le_refl _) (by omega) (by omega)
  have hm13 : Mod NoB w1 w3 := hm2.then hm3
  have hm03 : Mod NoB w w3 := hw1.mod.then hm13
  refine ⟨w3, _, _, _, hmk, p, f.length, c, by rw [own_add, (hb1.keep hm13 NoB.not).cell]; rfl, ?_⟩
  have hsz : w.heap.size ≤ w2.heap.size := (hw1.mod.then hm2).size
  have hb3 : Blk w3 w2.heap.size (List.replicate f.length (.int .i64 0)) 3 := ho3.full
  refine ⟨fun m vs w' => ∃ (i : Nat) (d' : SD), m = f.length - i ∧ i ≤ f.length ∧ vs = [.int .i64 ((impF L [] (f.take i)).2.getLastD 0), .int .i64 0, .int .i64 0, .int .i64 i] ∧ StI w' s (impF L [] (f.take i)).1 d' ∧ (∀ b, d'.fp b → d.fp b ∨ w.heap.size ≤ b) ∧ ¬ d'.fp w2.heap.size ∧
    Blk w' w2.heap.size (ints (natI (impF L [] (f.take i)).2) ++ List.replicate (f.length - i) (.int .i64 0)) 3 ∧ (∀ a ∈ (impF L [] (f.take i)).2, a < (impF L [] (f.take i)).1.length) ∧ (impF L [] (f.take i)).1.length ≤ L.length + i ∧ Mod d.fp w w',
    ⟨_, 0, d, rfl, Nat.zero_le _, rfl, h.same hm03, fun b hb => .inl hb, fun hd => by have := h.m.lt _ hd; omega, hb3, fun a ha => (by cases ha), Nat.le_refl _, hm03.to⟩, ?_⟩
  rintro m r0 r1 r2 i' w4 ⟨i, d', rfl, hil, hvs, h4, hfp4, hnb, hb4, hlt4, hlen4, hm4⟩
  simp only [List.cons.injEq, Value.int.injEq, true_and, and_true] at hvs
  obtain ⟨rfl, rfl, rfl, rfl⟩ := hvs
  refine Br_dec (fun hlt => ?_) fun hge => ?_
  rotate_left
  · have : i = f.length := by omega
    subst this
    rw [List.take_length] at h4 ⊢
    exact ⟨rfl, d', h4, hm4, hfp4⟩
  have hi' : i < f.length := by omega
  have hx : f[i]? = some f[i] := List.getElem?_eq_getElem hi'
  have hxi := hi _ (List.getElem_mem hi')
  have htake : f.take (i + 1) = f.take i ++ [f[i]] := List.take_succ_eq_append_getElem hi'
  have hxm : f[i] ∈ f := List.getElem_mem hi'
  generalize f[i] = x at hx hxi htake hxm
  have hnumlen : (impF L [] (f.take i)).2.length = i := by rw [impF_len, List.length_take]; simp; omega
  have hsn := impF_snoc (f.take i) L [] x
  rw [← htake] at hsn
  generalize impF L [] (f.take i) = st at h4 hb4 hlt4 hlen4 hnumlen hsn ⊢
  obtain ⟨Li, nums⟩ := st
  simp only at h4 hb4 hlt4 hlen4 hnumlen hsn ⊢
  have hfB : ∀ b, d.fp b → B ≤ b := hf
  have hf4 : ∀ b, d'.fp b → B ≤ b := fun b hb => by
    rcases hfp4 b hb with h' | h'
    · exact hf b h'
    · omega
  have hform4 := hm.keep hm4 hf
  obtain ⟨a, rfl, hc⟩ := hform4.node hx
  refine ⟨⟨by omega, by omega⟩, _, _, _, _, _, _, by rw [Int.toNat_natCast]; exact hc, ?_⟩
  intro w5 hw5
  have h5 := h4.same hw5.mod
  have hb5 := hb4.keep hw5.mod NoB.not
  have hrow5 : Row w5 (some ⟨w2.heap.size, 0, none⟩) (ints (natI nums)) := (Row.of_blk hb5).front
  have hvx := hvn i x hx
  refine (importNode_ok (B := B) h5 (by omega) (x := x) (nums := nums) (by rw [hnumlen]; exact hvx) hxi ((hform4.ins x hxm).keep hw5.mod fun _ hb => hb.elim) hf4 hrow5 (by omega) hlt4).mono ?_
  rintro e w6 ⟨rfl, d6, h6, hm6, hfp6⟩
  have hvf : vform x.kind x.block x.alt x.ins.length = true := by unfold vnode at hvx; rw [Bool.and_eq_true] at hvx; exact hvx.1
  have hins := insOK_iff (i := nums.length) (ins := x.ins) (by unfold vnode at hvx; rw [Bool.and_eq_true] at hvx; rw [hnumlen]; exact hvx.2)
  have hnl : (numsOf nums x.ins).length = x.ins.length := by simp [numsOf]
  have hrlt := addN_lt h4.wf (l := numsOf nums x.ins) hvf hnl (numsOf_lt hlt4 hins)
  obtain ⟨ex, hex, hexl⟩ := addN_ext Li x.kind x.block x.alt (numsOf nums x.ins)
  generalize addN Li x.kind x.block x.alt (numsOf nums x.ins) = r at h6 hrlt hex hsn ⊢
  obtain ⟨Lr, ar⟩ := r
  simp only at h6 hrlt hex hsn ⊢
  refine ⟨_, rfl, Br_dec (fun hneg => by omega) fun _ => ?_⟩
  have hs45 : w4.heap.size ≤ w5.heap.size := hw5.mod.size
  have hlt2 : w2.heap.size < w4.heap.size := hb4.lt
  have hnb6 : ¬ d6.fp w2.heap.size := fun hd => by
    rcases hfp6 _ hd with h' | h'
    · exact hnb h'
    · omega
  have hb6 := hb5.keep hm6 hnb
  have hltk : (ints (natI nums)).length = i := by rw [ints_len, natI_len]; exact hnumlen
  refine ⟨⟨by omega, by omega⟩, ?_, ?_⟩
  · rw [own_add]
    refine canStore_blk hb6 _ 0 rfl ?_
    simp only [List.length_append, hltk, List.length_replicate, List.length_cons, List.length_nil, Int.toNat_natCast]
    omega
  intro w7 hw7
  rw [own_add, Int.toNat_natCast] at hw7
  have hb7 := hw7.blk hb6
  have hm7 : Mod (· = w2.heap.size) w6 w7 := hw7.mod
  have es : setAt (ints (natI nums) ++ List.replicate (f.length - i) (.int .i64 0)) (0 + i * 1) [.int .i64 ar] = ints (natI (nums ++ [ar])) ++ List.replicate (f.length - (i + 1)) (.int .i64 0) := by
    rw [natI_append, ints_append]
    have hrep : List.replicate (f.length - i) (Value.int .i64 0) = .int .i64 0 :: List.replicate (f.length - (i + 1)) (.int .i64 0) := by
      have : f.length - i = (f.length - (i + 1)) + 1 := by omega
      rw [this, List.replicate_succ]
    simp only [setAt, Nat.zero_add, Nat.mul_one]
    rw [hrep, List.set_append_right _ _ (by omega), hltk, Nat.sub_self, List.set_cons_zero, List.append_assoc]
    rfl
  rw [es] at hb7
  refine ⟨f.length - (i + 1), by omega, i + 1, d6, rfl, hi', ?_, ?_, ?_, hnb6, ?_, ?_, ?_, ?_⟩
  · rw [hsn, wrap_i64 (by omega) (by omega)]
    simp only [List.getLastD_concat]
    rfl
  · rw [hsn]; exact h6.keep hm7 fun b hb e => hnb6 (e ▸ hb)
  · intro b hb
    rcases hfp6 b hb with h' | h'
    · exact hfp4 b h'
    · have := hm4.size; exact .inr (by omega)
  · rw [hsn]; exact hb7
  · rw [hsn]
    intro a' ha'
    rcases List.mem_append.1 ha' with h' | h'
    · have := hlt4 a' h'
      show a' < Lr.length
      rw [hex, List.length_append]; omega
    · have : a' = ar := by simpa using h'
      subst this; exact hrlt
  · rw [hsn]; show Lr.length ≤ _
    rw [hex, List.length_append]; omega
  · refine ((hm4.then hw5.mod.to).trans hm6 (fun _ h => h) fun b hb hd => ?_).new _ hm7 fun b hb e => by omega
    rcases hfp4 b hd with h' | h'
    · exact h'
    · omega

end Go.Proofs.YtajfdcbknghipaaGreatDoor
end

section
/- Maps whose keys are whole numbers or strings. No condition. -/
namespace Go.Sh
open Go

/-- Keys of one kind: what the model's quick comparison says of them. -/
structure KeyOK (P : Program) (t kt : TypeId) (et : TypeId) (kd : TypeDesc) {κ : Type} [DecidableEq κ] (enc : κ → Value) : Prop where
  mp : P.underlying t = some (.map kt et)
  key : P.underlying kt = some kd
  same : ∀ a b, Instr.sameNow kd (enc a) (enc b) = some (decide (a = b))
  check : ∀ (e : Bool) (k : κ) (w : World), (Instr.checkKey e 10000 kt (enc k)).run P w = .ok () w
  bits : ∀ a : κ, Instr.sameBits 10000 (enc a) (enc a) = true

variable {P : Program} {t kt et : TypeId} {kd : TypeDesc} {κ : Type} [DecidableEq κ] {enc : κ → Value} {w : World} {r : Nat}

def getM (m : List (κ × Value)) (k : κ) : Option Value := match m with
  | [] => none
  | (k', v) :: m => if k = k' then some v else getM m k
def putM (m : List (κ × Value)) (k : κ) (v : Value) : List (κ × Value) := match m with
  | [] => [(k, v)]
  | (k', v') :: m => if k = k' then (k', v) :: m else (k', v') :: putM m k v

theorem getM_put (m : List (κ × Value)) (k j : κ) (v : Value) : getM (putM m k v) j = if j = k then some v else getM m j := by
  induction m with
  | nil => simp only [putM, getM]
  | cons e m ih =>
    obtain ⟨k', v'⟩ := e
    unfold putM
    by_cases h : k = k'
    · subst h
      simp only [if_true, getM]
      by_cases hj : j = k
      · simp [hj]
      · simp [hj]
    · simp only [if_neg h, getM]
      rw [ih]
      by_cases hj : j = k'
      · subst hj
        have : ¬ j = k := fun e => h e.symm
        simp [this]
      · simp [hj]

/-- The map r holds these keys and values. -/
def MapM (enc : κ → Value) (w : World) (r : Nat) (m : List (κ × Value)) : Prop := ∃ es clock, w.heap[r]? = some (.map es clock) ∧ es.toList.map (fun e => (e.key, e.val)) = m.map fun kv => (enc kv.1, kv.2)
omit [DecidableEq κ] in
theorem MapM.lt {m : List (κ × Value)} (h : MapM enc w r m) : r < w.heap.size := by
  obtain ⟨es, clock, h1, _⟩ := h
  exact (Array.getElem?_eq_some_iff.1 h1).1
omit [DecidableEq κ] in
theorem MapM.keep {m : List (κ × Value)} {fp : Nat → Prop} {w' : World} (h : MapM enc w r m) (hm : Mod fp w w') (hn : ¬ fp r) : MapM enc w' r m := by
  have hl := h.lt
  obtain ⟨es, clock, h1, h2⟩ := h
  exact ⟨es, clock, (hm.keep r hl hn).trans h1, h2⟩

theorem findNow_eq (hk : KeyOK P t kt et kd enc) (k : κ) : ∀ (es : List MapEntry) (m : List (κ × Value)) (i : Nat), es.map (fun e => (e.key, e.val)) = m.map (fun kv => (enc kv.1, kv.2)) →
    (getM m k = none ∧ Instr.findNow kd (enc k) es i = some none ∧ putM m k = fun v => m ++ [(k, v)]) ∨
    (∃ j v, getM m k = some v ∧ Instr.findNow kd (enc k) es i = some (some (i + j, v)) ∧ j < es.length ∧ (∀ u, putM m k u = m.set j (k, u)) ∧ (m[j]?).map (·.1) = some k)
  | [], [], i, _ => .inl ⟨rfl, rfl, rfl⟩
  | [], _ :: _, _, h => by cases h
  | _ :: _, [], _, h => by cases h
  | e :: es, (k', v') :: m, i, h => by
    simp only [List.map_cons, List.cons.injEq, Prod.mk.injEq] at h
    obtain ⟨⟨h1, h2⟩, h3⟩ := h
    unfold Instr.findNow
    rw [h1, hk.same]
    by_cases hkk : k = k'
    · subst hkk
      simp only [decide_true]
      refine .inr ⟨0, v', by simp [getM], by rw [h2, Nat.add_zero], by simp, fun u => by simp [putM], by simp⟩
    · simp only [decide_eq_false hkk]
      rcases findNow_eq hk k es m (i + 1) h3 with ⟨a, b, c⟩ | ⟨j, v, a, b, c, d, e2⟩
      · refine .inl ⟨by simp only [getM, if_neg hkk]; exact a, b, ?_⟩
        funext v
        simp only [putM, if_neg hkk, c, List.cons_append]
      · refine .inr ⟨j + 1, v, by simp only [getM, if_neg hkk]; exact a, by rw [b]; congr 3; omega, by simp; omega, fun u => by simp only [putM, if_neg hkk, d u, List.set_cons_succ], by simpa using e2⟩

theorem run_getMap {r : Nat} {es : Array MapEntry} {c : Nat} (h : w.heap[r]? = some (.map es c)) : (getObj r).run P w = .ok (.map es c) w := by
  simp [getObj, Sem.run, h]
theorem run_setMap {r : Nat} {es : Array MapEntry} {c : Nat} (h : w.heap[r]? = some (.map es c)) (o : Obj) : (setObj r o).run P w = .ok () { w with heap := w.heap.setIfInBounds r o } := by
  simp [setObj, Sem.run, h]

theorem lookup_ok (hk : KeyOK P t kt et kd enc) {m : List (κ × Value)} (hm : MapM enc w r m) (k : κ) {z : Value} (hz : (zeroValue et).run P w = .ok z w) (ck : Bool) :
    (Instr.lookup t (.map (some r)) (enc k) ck).run P w = .ok (if ck then .tuple #[(getM m k).getD z, .bool (getM m k).isSome] else (getM m k).getD z) w := by
  obtain ⟨es, clock, h1, h2⟩ := hm
  unfold Instr.lookup
  simp only [Sem.run_bind, run_underlying hk.mp, Result.andThen_ok, run_getMap h1, Sem.run_pure, hk.check]
  unfold Instr.findKey
  simp only [Sem.run_bind, run_underlying hk.key, Result.andThen_ok]
  rcases findNow_eq hk k es.toList m 0 h2 with ⟨a, b, _⟩ | ⟨j, v, a, b, _⟩
  · rw [b, a]
    simp only [Sem.run_pure, Result.andThen_ok, Sem.run_bind, hz]
    cases ck <;> rfl
  · rw [b, a]
    simp only [Sem.run_pure, Result.andThen_ok]
    cases ck <;> rfl

theorem update_ok (hk : KeyOK P t kt et kd enc) {m : List (κ × Value)} (hm : MapM enc w r m) (k : κ) (v : Value) :
    ∃ w', (Instr.mapUpdate t (.map (some r)) (enc k) v).run P w = .ok () w' ∧ MapM enc w' r (putM m k v) ∧ Mod (· = r) w w' := by
  have hlt := hm.lt
  obtain ⟨es, clock, h1, h2⟩ := hm
  have hset : ∀ o : Obj, Mod (· = r) w { w with heap := w.heap.setIfInBounds r o } := fun o =>
    ⟨rfl, rfl, rfl, by simp, fun b _ hn => by simp only [Array.getElem?_setIfInBounds]; rw [if_neg (fun e => hn e.symm)]⟩
  unfold Instr.mapUpdate
  simp only [Sem.run_bind, run_underlying hk.mp, Result.andThen_ok, run_getMap h1, Sem.run_pure, hk.check]
  unfold Instr.findKey
  simp only [Sem.run_bind, run_underlying hk.key, Result.andThen_ok]
  rcases findNow_eq hk k es.toList m 0 h2 with ⟨a, b, c⟩ | ⟨j, v0, a, b, c, d, e⟩
  · rw [b]
    simp only [Sem.run_pure, Result.andThen_ok, run_setMap h1]
    refine ⟨_, rfl, ⟨es.push { key := enc k, val := v, born := clock }, clock + 1, by simp [hlt], ?_⟩, hset _⟩
    rw [c]
    simp only [Array.toList_push, List.map_append, h2, List.map_cons, List.map_nil]
  · rw [b]
    simp only [Sem.run_pure, Result.andThen_ok, Nat.zero_add, Sem.run_bind]
    have hj : j < es.size := by simpa using c
    have hkey : (es[j]?.map (·.key)).getD (enc k) = enc k := by
      have h3 : (es.toList.map fun e => (e.key, e.val))[j]? = (m.map fun kv => (enc kv.1, kv.2))[j]? := by rw [h2]
      rw [List.getElem?_map, List.getElem?_map] at h3
      cases hmj : m[j]? with
      | none => rw [hmj] at e; cases e
      | some kv =>
        rw [hmj] at e h3
        simp only [Option.map_some, Option.some.injEq] at e h3
        rw [Array.getElem?_toList, Array.getElem?_eq_getElem hj] at h3
        simp only [Option.map_some, Option.some.injEq, Prod.mk.injEq] at h3
        rw [Array.getElem?_eq_getElem hj]
        simp only [Option.map_some, Option.getD_some]
        rw [h3.1, e]
    rw [hkey]
    have hstay : (Instr.keyThatStays (enc k) (enc k)).run P w = .ok (enc k) w := by
      unfold Instr.keyThatStays
      rw [if_pos (hk.bits k)]; rfl
    rw [hstay]
    simp only [Result.andThen_ok, run_setMap h1]
    refine ⟨_, rfl, ⟨es.modify j fun e => { e with key := enc k, val := v }, clock, by simp [hlt], ?_⟩, hset _⟩
    rw [d v, List.map_set, ← h2]
    apply List.ext_getElem?
    intro i
    rw [List.getElem?_map, Array.getElem?_toList, Array.getElem?_modify, List.getElem?_set]
    by_cases hij : j = i
    · subst hij
      simp [hj]
    · simp [hij]
end Go.Sh
end
