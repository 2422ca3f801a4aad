/- States that are alike, in plain Lean. Conditions: none. -/
import Derived.Test.YtjeclleophlliaaMiniM
namespace Go.Cm

def stepN (d : Dfa) (i c : Nat) : Nat := (rowN d i).getD c 0
def runC (d : Dfa) (i : Nat) (cs : List Nat) : Nat := cs.foldl (stepN d) i
/-- how many classes -/
def kN (d : Dfa) : Nat := (d.next.getD 0 []).length
def ruleN (d : Dfa) (i : Nat) : Int := d.rules.getD i 0
/-- no text tells the two states apart -/
def Eqv (d : Dfa) (i j : Nat) : Prop := ∀ cs : List Nat, (∀ c ∈ cs, c < kN d) → ruleN d (runC d i cs) = ruleN d (runC d j cs)

theorem Eqv.refl (d : Dfa) (i : Nat) : Eqv d i i := fun _ _ => rfl
theorem Eqv.symm {d : Dfa} {i j : Nat} (h : Eqv d i j) : Eqv d j i := fun cs hc => (h cs hc).symm
theorem Eqv.trans {d : Dfa} {i j k : Nat} (h : Eqv d i j) (g : Eqv d j k) : Eqv d i k := fun cs hc => (h cs hc).trans (g cs hc)
theorem Eqv.rules {d : Dfa} {i j : Nat} (h : Eqv d i j) : ruleN d i = ruleN d j := h [] (fun _ h => by cases h)
theorem Eqv.step {d : Dfa} {i j : Nat} (h : Eqv d i j) {c : Nat} (hc : c < kN d) : Eqv d (stepN d i c) (stepN d j c) := fun cs hcs =>
  h (c :: cs) (fun x hx => by
    rcases List.mem_cons.1 hx with rfl | h1
    · exact hc
    · exact hcs x h1)

theorem step_lt {d : Dfa} (h : Valid d) {i : Nat} (hi : i < d.next.length) {c : Nat} (hc : c < kN d) : stepN d i c < d.next.length := by
  obtain ⟨h1, h2, h3, k, hk, hr⟩ := h
  have h0 := (hr 0 (by omega)).2.2.1
  obtain ⟨-, -, hl, hj⟩ := hr i hi
  have hc' : c < (d.next.getD i []).length := by unfold kN at hc; omega
  have := hj c hc'
  have e : stepN d i c = ((d.next.getD i []).getD c 0).toNat := by
    unfold stepN rowN
    simp only [List.getD_eq_getElem?_getD, List.getElem?_map] at hc' ⊢
    rw [List.getElem?_eq_getElem hc']; rfl
  rw [e]; omega
theorem row_len {d : Dfa} (h : Valid d) {i : Nat} (hi : i < d.next.length) : (d.next.getD i []).length = kN d := by
  obtain ⟨h1, h2, h3, k, hk, hr⟩ := h
  have h0 := (hr 0 (by omega)).2.2.1
  have h4 := (hr i hi).2.2.1
  unfold kN; omega

/-- what is kept by all classes, and has one rule, is alike -/
theorem Eqv.of_bisim {d : Dfa} (hv : Valid d) (R : Nat → Nat → Prop) (h : ∀ i j, i < d.next.length → j < d.next.length → R i j → ruleN d i = ruleN d j ∧ ∀ c, c < kN d → R (stepN d i c) (stepN d j c)) {i j : Nat} (hi : i < d.next.length) (hj : j < d.next.length) (hr : R i j) : Eqv d i j := by
  intro cs
  induction cs generalizing i j with
  | nil => intro _; exact (h i j hi hj hr).1
  | cons c cs ih =>
    intro hcs
    have hc := hcs c (by simp)
    exact ih (step_lt hv hi hc) (step_lt hv hj hc) ((h i j hi hj hr).2 c hc) (fun x hx => hcs x (by simp [hx]))

/-- a table of marks -/
def mrk (M : List (List Bool)) (i j : Nat) : Bool := (M.getD i []).getD j false
def setM (M : List (List Bool)) (i j : Nat) : List (List Bool) := M.set i ((M.getD i []).set j true)
structure Tab (n : Nat) (M : List (List Bool)) : Prop where
  len : M.length = n
  row : ∀ i, i < n → (M.getD i []).length = n
theorem getD_set_gen {α : Type} (l : List α) (i j : Nat) (x d : α) : (l.set i x).getD j d = if i = j ∧ i < l.length then x else l.getD j d := by
  simp only [List.getD_eq_getElem?_getD, List.getElem?_set]
  by_cases h : i = j
  · subst h
    by_cases h2 : i < l.length
    · simp [h2]
    · simp [h2]
  · simp [h]
theorem Tab.set {n : Nat} {M : List (List Bool)} (h : Tab n M) {i j : Nat} (hi : i < n) : Tab n (setM M i j) := by
  refine ⟨by simp [setM, h.len], fun a ha => ?_⟩
  unfold setM
  rw [getD_set_gen]
  split
  · rw [List.length_set]; exact h.row i hi
  · exact h.row a ha
theorem mrk_setM {n : Nat} {M : List (List Bool)} (h : Tab n M) {i j a b : Nat} (hi : i < n) (hj : j < n) : mrk (setM M i j) a b = if i = a ∧ j = b then true else mrk M a b := by
  unfold mrk setM
  rw [getD_set_gen]
  by_cases ha : i = a
  · subst ha
    rw [if_pos ⟨rfl, by rw [h.len]; exact hi⟩, getD_set_gen]
    by_cases hb : j = b
    · subst hb; rw [if_pos ⟨rfl, by rw [h.row i hi]; exact hj⟩, if_pos ⟨rfl, rfl⟩]
    · rw [if_neg (fun q => hb q.1), if_neg (fun q => hb q.2)]
  · rw [if_neg (fun q => ha q.1), if_neg (fun q => ha q.1)]

/-- how many places bear no mark -/
def open_ (M : List (List Bool)) : Nat := (M.map fun r => r.count false).sum
theorem count_set_lt (r : List Bool) (j : Nat) (hj : j < r.length) (h : r.getD j false = false) : (r.set j true).count false + 1 = r.count false := by
  induction r generalizing j with
  | nil => simp at hj
  | cons x r ih =>
    cases j with
    | zero => simp at h; subst h; simp
    | succ j =>
      have := ih j (by simpa using hj) (by simpa using h)
      simp only [List.set_cons_succ, List.count_cons]
      omega
theorem open_setM {n : Nat} {M : List (List Bool)} (h : Tab n M) {i j : Nat} (hi : i < n) (hj : j < n) (hf : mrk M i j = false) : open_ (setM M i j) + 1 = open_ M := by
  have hlen := h.len
  have hrow := h.row i hi
  unfold open_ setM
  unfold mrk at hf
  clear h
  have key : ∀ (M : List (List Bool)) (i : Nat) (r' : List Bool), i < M.length → r'.count false + 1 = (M.getD i []).count false → ((M.set i r').map fun r => r.count false).sum + 1 = (M.map fun r => r.count false).sum := by
    intro M
    induction M with
    | nil => intro i r' hi; simp at hi
    | cons x M ih =>
      intro i r' hi hr
      cases i with
      | zero => simp at hr ⊢; omega
      | succ i =>
        have := ih i r' (by simpa using hi) (by simpa using hr)
        simp only [List.set_cons_succ, List.map_cons, List.sum_cons]
        omega
  exact key M i _ (by omega) (count_set_lt _ j (by omega) hf)

/-- the marks that a run of the table has: none is wrong, and those of the rules are there -/
structure Marks (d : Dfa) (M : List (List Bool)) : Prop where
  tab : Tab d.next.length M
  sound : ∀ i j, i < d.next.length → j < d.next.length → mrk M i j = true → ¬ Eqv d i j
  base : ∀ i j, i < d.next.length → j < d.next.length → ruleN d i ≠ ruleN d j → mrk M i j = true
/-- nothing is left to mark, at a class -/
def ClosedAt (d : Dfa) (M : List (List Bool)) (i j c : Nat) : Prop := mrk M (stepN d i c) (stepN d j c) = true → mrk M i j = true
theorem Marks.set {d : Dfa} {M : List (List Bool)} (h : Marks d M) {i j c : Nat} (hi : i < d.next.length) (hj : j < d.next.length) (hc : c < kN d) (hv : Valid d) (hm : mrk M (stepN d i c) (stepN d j c) = true) : Marks d (setM M i j) := by
  have hne : ¬ Eqv d i j := fun e => h.sound _ _ (step_lt hv hi hc) (step_lt hv hj hc) hm (e.step hc)
  refine ⟨h.tab.set hi, fun a b ha hb hab => ?_, fun a b ha hb hab => ?_⟩
  · rw [mrk_setM h.tab hi hj] at hab
    split at hab
    · rename_i q; obtain ⟨rfl, rfl⟩ := q; exact hne
    · exact h.sound a b ha hb hab
  · rw [mrk_setM h.tab hi hj]; split
    · rfl
    · exact h.base a b ha hb hab
/-- the table says of each two states whether they are alike -/
def ApartOk (d : Dfa) (M : List (List Bool)) : Prop := Tab d.next.length M ∧ ∀ i j, i < d.next.length → j < d.next.length → (mrk M i j = false ↔ Eqv d i j)
theorem Marks.done {d : Dfa} {M : List (List Bool)} (hv : Valid d) (h : Marks d M) (hc : ∀ i j c, i < d.next.length → j < d.next.length → c < kN d → ClosedAt d M i j c) : ApartOk d M := by
  refine ⟨h.tab, fun i j hi hj => ⟨fun hm => ?_, fun he => ?_⟩⟩
  · refine Eqv.of_bisim hv (fun a b => a < d.next.length ∧ b < d.next.length ∧ mrk M a b = false) (fun a b ha hb hab => ⟨?_, fun c hcc => ⟨step_lt hv ha hcc, step_lt hv hb hcc, ?_⟩⟩) hi hj ⟨hi, hj, hm⟩
    · rcases Classical.em (ruleN d a = ruleN d b) with e | e
      · exact e
      · have := h.base a b ha hb e; rw [hab.2.2] at this; cases this
    · cases hq : mrk M (stepN d a c) (stepN d b c) with
      | false => rfl
      | true => have := hc a b c ha hb hcc hq; rw [hab.2.2] at this; cases this
  · cases hq : mrk M i j with
    | false => rfl
    | true => exact absurd he (h.sound i j hi hj hq)

section
open Classical
/-- the states alike to one, among the first n -/
noncomputable def members (d : Dfa) (i n : Nat) : List Nat := (List.range n).filter fun j => decide (Eqv d i j)
noncomputable def firsts (d : Dfa) (k : Nat) : List Nat := (List.range k).filter fun i => decide (∀ j, j < i → ¬ Eqv d i j)
noncomputable def alikeUpto (d : Dfa) (k n : Nat) : List (List Nat) := (firsts d k).map fun i => members d i n
noncomputable def alikeI (d : Dfa) : List (List Int) := if Valid d then (alikeUpto d d.next.length d.next.length).map nl else []
theorem alikeI_yes {d : Dfa} (h : Valid d) : alikeI d = (alikeUpto d d.next.length d.next.length).map nl := by unfold alikeI; rw [if_pos h]
theorem alikeI_no {d : Dfa} (h : ¬ Valid d) : alikeI d = [] := by unfold alikeI; rw [if_neg h]
theorem members_succ_yes {d : Dfa} {i n : Nat} (h : Eqv d i n) : members d i (n + 1) = members d i n ++ [n] := by
  unfold members; rw [List.range_succ, List.filter_append]; simp [h]
theorem members_succ_no {d : Dfa} {i n : Nat} (h : ¬ Eqv d i n) : members d i (n + 1) = members d i n := by
  unfold members; rw [List.range_succ, List.filter_append]; simp [h]
theorem members_len (d : Dfa) (i n : Nat) : (members d i n).length ≤ n := by
  unfold members; have := List.length_filter_le (fun j => decide (Eqv d i j)) (List.range n); simpa using this
theorem firsts_succ_yes {d : Dfa} {k : Nat} (h : ∀ j, j < k → ¬ Eqv d k j) : firsts d (k + 1) = firsts d k ++ [k] := by
  unfold firsts; rw [List.range_succ, List.filter_append, List.filter_cons, if_pos (by simpa using h)]; simp
theorem firsts_succ_no {d : Dfa} {k : Nat} (h : ¬ ∀ j, j < k → ¬ Eqv d k j) : firsts d (k + 1) = firsts d k := by
  unfold firsts; rw [List.range_succ, List.filter_append, List.filter_cons, if_neg (by simpa using h)]; simp
theorem firsts_len (d : Dfa) (k : Nat) : (firsts d k).length ≤ k := by
  unfold firsts; have := List.length_filter_le (fun i => decide (∀ j, j < i → ¬ Eqv d i j)) (List.range k); simpa using this
theorem alikeUpto_succ_yes {d : Dfa} {k n : Nat} (h : ∀ j, j < k → ¬ Eqv d k j) : alikeUpto d (k + 1) n = alikeUpto d k n ++ [members d k n] := by
  unfold alikeUpto; rw [firsts_succ_yes h]; simp
theorem alikeUpto_succ_no {d : Dfa} {k n : Nat} (h : ¬ ∀ j, j < k → ¬ Eqv d k j) : alikeUpto d (k + 1) n = alikeUpto d k n := by
  unfold alikeUpto; rw [firsts_succ_no h]
end
end Go.Cm
