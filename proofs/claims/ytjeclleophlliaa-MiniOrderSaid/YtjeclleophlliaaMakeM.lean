/- The least automaton that does the same, in plain Lean: what it is made of. Conditions: none. -/
import Derived.Test.YtjeclleophlliaaMiniP
namespace Go.Cm

section
variable {α β : Type} [DecidableEq β]
/-- one of each that a reading cannot tell apart: the first that is met -/
def pickBy (f : α → β) (l : List α) : List α := l.foldl (fun ks s => if f s ∈ ks.map f then ks else ks ++ [s]) []
theorem pickBy_snoc (f : α → β) (l : List α) (s : α) : pickBy f (l ++ [s]) = if f s ∈ (pickBy f l).map f then pickBy f l else pickBy f l ++ [s] := by
  unfold pickBy; rw [List.foldl_append]; rfl
theorem list_snoc_ind {α : Type} {P : List α → Prop} (h0 : P []) (h : ∀ l a, P l → P (l ++ [a])) (l : List α) : P l := by
  have : ∀ n (l : List α), l.length = n → P l := by
    intro n
    induction n with
    | zero => intro l hl; obtain rfl := List.length_eq_zero_iff.1 hl; exact h0
    | succ n ih =>
      intro l hl
      have hne : l ≠ [] := by intro e; subst e; cases hl
      have := List.dropLast_concat_getLast hne
      rw [← this]
      exact h _ _ (ih _ (by simp [hl]))
  exact this _ l rfl
theorem pickBy_map (f : α → β) (l : List α) : (pickBy f l).map f = uniq (l.map f) := by
  induction l using list_snoc_ind with
  | h0 => rfl
  | h l s ih =>
    rw [List.map_append, List.map_cons, List.map_nil, uniq_snoc, pickBy_snoc, ← ih]
    unfold addNew
    split
    · rfl
    · simp
theorem mem_pickBy {f : α → β} {l : List α} {x : α} (h : x ∈ pickBy f l) : x ∈ l := by
  induction l using list_snoc_ind with
  | h0 => cases h
  | h l s ih =>
    rw [pickBy_snoc] at h
    split at h
    · exact List.mem_append_left _ (ih h)
    · rcases List.mem_append.1 h with h | h
      · exact List.mem_append_left _ (ih h)
      · exact List.mem_append_right _ h
theorem pickBy_len (f : α → β) (l : List α) : (pickBy f l).length ≤ l.length := by
  have h := congrArg List.length (pickBy_map f l)
  rw [List.length_map] at h
  rw [h]
  have := uniq_len (l.map f)
  rwa [List.length_map] at this
/-- the list is not longer than what it is picked from, and grows at its end -/
theorem pickBy_append (f : α → β) (l m : List α) : ∃ k, pickBy f (l ++ m) = pickBy f l ++ k := by
  induction m using list_snoc_ind with
  | h0 => exact ⟨[], by simp⟩
  | h m s ih =>
    obtain ⟨k, hk⟩ := ih
    rw [← List.append_assoc, pickBy_snoc]
    split
    · exact ⟨k, hk⟩
    · exact ⟨k ++ [s], by rw [hk, List.append_assoc]⟩
/-- the place of a thing among those that were picked -/
def place (f : α → β) (l : List α) (s : α) : Nat := idx ((pickBy f l).map f) (f s)
theorem place_lt {f : α → β} {l : List α} {s : α} (h : s ∈ l) : place f l s < (pickBy f l).length := by
  have : f s ∈ (pickBy f l).map f := by rw [pickBy_map, mem_uniq]; exact List.mem_map_of_mem h
  have := idxOf_lt this
  simpa [place] using this
theorem place_append {f : α → β} {l m : List α} {s : α} (h : s ∈ l) : place f (l ++ m) s = place f l s := by
  obtain ⟨k, hk⟩ := pickBy_append f l m
  unfold place
  rw [hk, List.map_append, idxOf_append_left]
  rw [pickBy_map, mem_uniq]; exact List.mem_map_of_mem h
/-- readings that tell the same things apart -/
theorem pickBy_congr {γ : Type} [DecidableEq γ] {f : α → β} {g : α → γ} {l : List α} (h : ∀ a ∈ l, ∀ b ∈ l, f a = f b ↔ g a = g b) : pickBy f l = pickBy g l ∧ ∀ s ∈ l, place f l s = place g l s := by
  have h1 : pickBy f l = pickBy g l := by
    have : ∀ m, (∀ a ∈ m, a ∈ l) → pickBy f m = pickBy g m := by
      intro m
      induction m using list_snoc_ind with
      | h0 => intro _; rfl
      | h m s ih =>
        intro hm
        have ih := ih fun a ha => hm a (List.mem_append_left _ ha)
        have hs := hm s (by simp)
        rw [pickBy_snoc, pickBy_snoc, ← ih]
        have e : f s ∈ (pickBy f m).map f ↔ g s ∈ (pickBy f m).map g := by
          simp only [List.mem_map]
          constructor
          · rintro ⟨a, ha, he⟩; exact ⟨a, ha, (h a (hm a (List.mem_append_left _ (mem_pickBy ha))) s hs).1 he⟩
          · rintro ⟨a, ha, he⟩; exact ⟨a, ha, (h a (hm a (List.mem_append_left _ (mem_pickBy ha))) s hs).2 he⟩
        simp only [e]
    exact this l fun _ h => h
  refine ⟨h1, fun s hs => ?_⟩
  unfold place
  rw [← h1]
  have : ∀ m : List α, (∀ a ∈ m, a ∈ l) → idx (m.map f) (f s) = idx (m.map g) (g s) := by
    intro m
    unfold idx
    induction m with
    | nil => intro _; simp
    | cons a m ih =>
      intro hm
      have e := h a (hm a (by simp)) s hs
      simp only [List.map_cons, List.idxOf_cons]
      by_cases hf : f a = f s
      · have h1 : (f a == f s) = true := by simpa using hf
        have h2 : (g a == g s) = true := by simpa using e.1 hf
        rw [h1, h2]; simp
      · have h1 : (f a == f s) = false := by simpa using hf
        have h2 : (g a == g s) = false := by simpa using fun q => hf (e.2 q)
        rw [h1, h2, ih fun a ha => hm a (by simp [ha])]
  exact this _ fun a ha => mem_pickBy ha
end

section
variable {α β : Type} [DecidableEq β] {f : α → β} {l F : List α} {k q : Nat} {s z : α}
theorem take_succ_getD' (hk : k < l.length) (hs : l.getD k z = s) : l.take (k + 1) = l.take k ++ [s] := by
  rw [List.take_succ_eq_append_getElem hk, ← hs]; simp [List.getD, hk]
theorem idxOf_le (l : List β) (q : Nat) (x : β) (h : l[q]? = some x) : l.idxOf x ≤ q := by
  induction l generalizing q with
  | nil => simp at h
  | cons a l ih =>
    rw [List.idxOf_cons]
    cases q with
    | zero => simp at h; subst h; simp
    | succ q =>
      have := ih q (by simpa using h)
      cases a == x
      · simpa using this
      · simp
theorem place_found (hk : k < l.length) (hs : l.getD k z = s) (hF : pickBy f (l.take k) = F) (hq : q < F.length) (h1 : ∀ a, a < q → f (F.getD a z) ≠ f s) (h2 : f (F.getD q z) = f s) : pickBy f (l.take (k + 1)) = F ∧ place f l s = q := by
  have e := take_succ_getD' hk hs
  have hm : f s ∈ F.map f := List.mem_map.2 ⟨F.getD q z, getD_mem F q z hq, h2⟩
  have h3 : pickBy f (l.take (k + 1)) = F := by rw [e, pickBy_snoc, hF, if_pos hm]
  refine ⟨h3, ?_⟩
  have h4 := place_append (f := f) (l := l.take (k + 1)) (m := l.drop (k + 1)) (s := s) (by rw [e]; simp)
  rw [List.take_append_drop] at h4
  rw [h4]
  unfold place
  rw [h3]
  unfold idx
  have h5 : (F.map f).idxOf (f s) < (F.map f).length := List.idxOf_lt_length_of_mem hm
  have h6 := List.getElem_idxOf h5
  rw [List.length_map] at h5
  rw [List.getElem_map] at h6
  rcases Nat.lt_trichotomy ((F.map f).idxOf (f s)) q with h | h | h
  · exact absurd (by rw [List.getD_eq_getElem?_getD, List.getElem?_eq_getElem h5]; exact h6) (h1 _ h)
  · exact h
  · exfalso
    have h7 : (F.map f)[q]? = some (f s) := by
      rw [List.getElem?_map, List.getElem?_eq_getElem hq, Option.map_some, ← h2, List.getD_eq_getElem?_getD, List.getElem?_eq_getElem hq, Option.getD_some]
    have h8 := idxOf_le _ _ _ h7
    omega
theorem place_new (hk : k < l.length) (hs : l.getD k z = s) (hF : pickBy f (l.take k) = F) (h1 : ∀ a, a < F.length → f (F.getD a z) ≠ f s) : pickBy f (l.take (k + 1)) = F ++ [s] ∧ place f l s = F.length := by
  have e := take_succ_getD' hk hs
  have hm : f s ∉ F.map f := fun h => by
    obtain ⟨x, hx, he⟩ := List.mem_map.1 h
    obtain ⟨a, ha, rfl⟩ := List.mem_iff_getElem.1 hx
    exact h1 a ha (by rw [List.getD_eq_getElem?_getD, List.getElem?_eq_getElem ha]; exact he)
  have h3 : pickBy f (l.take (k + 1)) = F ++ [s] := by rw [e, pickBy_snoc, hF, if_neg hm]
  refine ⟨h3, ?_⟩
  have h4 := place_append (f := f) (l := l.take (k + 1)) (m := l.drop (k + 1)) (s := s) (by rw [e]; simp)
  rw [List.take_append_drop] at h4
  rw [h4]
  unfold place
  rw [h3, List.map_append, List.map_cons, List.map_nil, idxOf_append_new hm, List.length_map]
end

/-- the first state that is alike -/
noncomputable def repN (d : Dfa) (s : Nat) : Nat := Classical.choose (first_of d s)
theorem repN_spec (d : Dfa) (s : Nat) : repN d s ∈ firsts d (s + 1) ∧ Eqv d s (repN d s) := Classical.choose_spec (first_of d s)
theorem repN_eq {d : Dfa} {a b : Nat} : repN d a = repN d b ↔ Eqv d a b := by
  obtain ⟨h1, h2⟩ := repN_spec d a
  obtain ⟨h3, h4⟩ := repN_spec d b
  constructor
  · intro h; exact h2.trans (h ▸ h4.symm)
  · intro h; exact first_unique h1 h3 (h2.symm.trans (h.trans h4))

noncomputable def heads (d : Dfa) : List Nat := pickBy (repN d) (reach d)
noncomputable def num (d : Dfa) (s : Nat) : Nat := place (repN d) (reach d) s
noncomputable def rowsD (d : Dfa) : List (List Int) := (heads d).map fun f => nl ((rowN d f).map (num d))
def colI (rows : List (List Int)) (k : Int) : List Int := rows.map fun r => r.getD k.toNat 0
def leftI (rows : List (List Int)) (cls : List Int) : List Int := pickBy (colI rows) cls
def clsI (rows : List (List Int)) (cls : List Int) : List Int := nl (cls.map (place (colI rows) cls))
def nextI (rows : List (List Int)) (left : List Int) : List (List Int) := rows.map fun r => left.map fun k => r.getD k.toNat 0
noncomputable def makeD (d : Dfa) : Dfa := ⟨clsI (rowsD d) d.cls, nextI (rowsD d) (leftI (rowsD d) d.cls), (heads d).map (ruleN d)⟩
def zeroD : Dfa := ⟨List.replicate 256 0, [], []⟩
open Classical in
noncomputable def makeI (d : Dfa) : Dfa := if Valid d then makeD d else zeroD
open Classical in
noncomputable def makeE (d : Dfa) : Int := if Valid d then 0 else 4
theorem makeI_yes {d : Dfa} (h : Valid d) : makeI d = makeD d := by unfold makeI; rw [if_pos h]
theorem makeI_no {d : Dfa} (h : ¬ Valid d) : makeI d = zeroD := by unfold makeI; rw [if_neg h]
theorem makeE_yes {d : Dfa} (h : Valid d) : makeE d = 0 := by unfold makeE; rw [if_pos h]
theorem makeE_no {d : Dfa} (h : ¬ Valid d) : makeE d = 4 := by unfold makeE; rw [if_neg h]

/-- a list of all that is reached, each in the order in which it is met -/
def upTo (g : Nat → List Nat) (l : List Nat) : List Nat := uniq (0 :: l.flatMap g)
structure Met (g : Nat → List Nat) (l : List Nat) : Prop where
  more : ∀ j, j < l.length → j < (upTo g (l.take j)).length
  all : upTo g l = l
theorem uniq_append {α : Type} [DecidableEq α] (l m : List α) : uniq (l ++ m) = m.foldl addNew (uniq l) := by unfold uniq; rw [List.foldl_append]
theorem foldl_addNew_prefix {α : Type} [DecidableEq α] (m l : List α) : ∃ k, m.foldl addNew l = l ++ k := by
  induction m generalizing l with
  | nil => exact ⟨[], by simp⟩
  | cons a m ih =>
    obtain ⟨k, hk⟩ := ih (addNew l a)
    rw [List.foldl_cons, hk]
    unfold addNew; split
    · exact ⟨k, rfl⟩
    · exact ⟨a :: k, by simp⟩
theorem uniq_prefix {α : Type} [DecidableEq α] (l m : List α) : ∃ k, uniq (l ++ m) = uniq l ++ k := by
  rw [uniq_append]; exact foldl_addNew_prefix m (uniq l)
theorem upTo_append (g : Nat → List Nat) (l m : List Nat) : ∃ k, upTo g (l ++ m) = upTo g l ++ k := by
  unfold upTo
  rw [List.flatMap_append, ← List.cons_append]
  exact uniq_prefix _ _
theorem Met.take {g : Nat → List Nat} {l : List Nat} (h : Met g l) {j : Nat} (hj : j < l.length) : l.take (j + 1) = (upTo g (l.take j)).take (j + 1) := by
  obtain ⟨k, hk⟩ := upTo_append g (l.take j) (l.drop j)
  rw [List.take_append_drop, h.all] at hk
  have hm := h.more j hj
  generalize upTo g (l.take j) = u at hk hm ⊢
  rw [hk, List.take_append_of_le_length hm]
theorem Met.unique {g : Nat → List Nat} {l l' : List Nat} (h : Met g l) (h' : Met g l') : l = l' := by
  have key : ∀ j, j ≤ l.length → j ≤ l'.length → l.take j = l'.take j := by
    intro j
    induction j with
    | zero => intro _ _; simp
    | succ j ih =>
      intro h1 h2
      rw [h.take (by omega), h'.take (by omega), ih (by omega) (by omega)]
  rcases Nat.lt_trichotomy l.length l'.length with hl | hl | hl
  · have h1 := key l.length (Nat.le_refl _) (by omega)
    have h2 := h'.more l.length hl
    rw [← h1, List.take_length, h.all] at h2
    exact absurd h2 (Nat.lt_irrefl _)
  · have h1 := key l.length (Nat.le_refl _) (by omega)
    rw [List.take_length, hl, List.take_length] at h1
    exact h1
  · have h1 := key l'.length (by omega) (Nat.le_refl _)
    have h2 := h.more l'.length hl
    rw [h1, List.take_length, h'.all] at h2
    exact absurd h2 (Nat.lt_irrefl _)
theorem scanRow_addNew (out row : List Nat) : scanRow out row = row.foldl addNew out := rfl

theorem rowN_lt {d : Dfa} (hv : Valid d) {i x : Nat} (hi : i < d.next.length) (hx : x ∈ rowN d i) : x < d.next.length := rowN_mem hv hi hx
/-- what the search keeps -/
theorem reachFrom_met {d : Dfa} (hv : Valid d) : ∀ f i out, f + i = d.next.length + 1 → i ≤ out.length → (∀ x ∈ out, x < d.next.length) → out.Nodup → upTo (rowN d) (out.take i) = out → (∀ j, j < i → j < (upTo (rowN d) (out.take j)).length) →
    Met (rowN d) (reachFrom d f i out) ∧ (∀ x ∈ reachFrom d f i out, x < d.next.length) ∧ (reachFrom d f i out).Nodup := by
  intro f
  induction f with
  | zero =>
    intro i out hf hi hb hn
    have := nodup_bound hn hb
    omega
  | succ f ih =>
    intro i out hf hi hb hn hall hmore
    unfold reachFrom
    by_cases hlt : i < out.length
    · rw [if_pos hlt]
      have hg : out.getD i 0 = out[i] := by simp [List.getD, hlt]
      have hmem : out.getD i 0 ∈ out := by rw [hg]; exact List.getElem_mem hlt
      obtain ⟨s1, s2, s3, s4⟩ := scanRow_spec (rowN d (out.getD i 0)) out
      obtain ⟨k, hk⟩ := foldl_addNew_prefix (rowN d (out.getD i 0)) out
      rw [← scanRow_addNew] at hk
      have htk : ∀ j, j ≤ out.length → (scanRow out (rowN d (out.getD i 0))).take j = out.take j := fun j hj => by
        rw [hk, List.take_append_of_le_length hj]
      refine ih (i + 1) _ (by omega) (by omega) (fun x hx => ?_) (s1 hn) ?_ (fun j hj => ?_)
      · rcases (s2 x).1 hx with h | h
        · exact hb x h
        · exact rowN_lt hv (hb _ hmem) h
      · rw [htk _ hlt, List.take_succ_eq_append_getElem hlt]
        unfold upTo at hall ⊢
        rw [List.flatMap_append, ← List.cons_append, uniq_append, hall, scanRow_addNew, hg]
        simp
      · rw [htk j (by omega)]
        rcases Nat.lt_succ_iff_lt_or_eq.1 hj with h | rfl
        · exact hmore j h
        · rw [hall]; exact hlt
    · rw [if_neg hlt]
      have hi' : i = out.length := by omega
      subst hi'
      rw [List.take_length] at hall
      exact ⟨⟨hmore, hall⟩, hb, hn⟩
theorem reach_met {d : Dfa} (hv : Valid d) : Met (rowN d) (reach d) ∧ (∀ x ∈ reach d, x < d.next.length) ∧ (reach d).Nodup := by
  have h1 := hv.1
  exact reachFrom_met hv _ 0 [0] (by omega) (by simp) (by simp; omega) (by simp) rfl (fun j hj => absurd hj (Nat.not_lt_zero j))
theorem zero_reach {d : Dfa} (hv : Valid d) : 0 ∈ reach d := by
  have h := (reach_met hv).1.all
  rw [← h, upTo, mem_uniq]; simp
theorem reach_step {d : Dfa} (hv : Valid d) {s t : Nat} (hs : s ∈ reach d) (ht : t ∈ rowN d s) : t ∈ reach d := by
  have h := (reach_met hv).1.all
  rw [← h, upTo, mem_uniq]
  exact List.mem_cons_of_mem _ (List.mem_flatMap.2 ⟨s, hs, ht⟩)
theorem reach_len {d : Dfa} (hv : Valid d) : (reach d).length ≤ d.next.length := nodup_bound (reach_met hv).2.2 (reach_met hv).2.1
theorem heads_mem {d : Dfa} {f : Nat} (h : f ∈ heads d) : f ∈ reach d := mem_pickBy h
theorem heads_len {d : Dfa} (hv : Valid d) : (heads d).length ≤ d.next.length := Nat.le_trans (pickBy_len _ _) (reach_len hv)
theorem num_lt {d : Dfa} {s : Nat} (hs : s ∈ reach d) : num d s < (heads d).length := place_lt hs
end Go.Cm
