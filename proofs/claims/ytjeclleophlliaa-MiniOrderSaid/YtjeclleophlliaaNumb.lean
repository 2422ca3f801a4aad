/- Things numbered in the order in which they are met first, in plain Lean. Conditions: none. -/
import Derived.Test.YtjeclleophlliaaDfaM
namespace Go.Cm

section
variable {α : Type} [DecidableEq α]
def addNew (ks : List α) (s : α) : List α := if s ∈ ks then ks else ks ++ [s]
/-- each thing once, in the order in which they are met first -/
def uniq (l : List α) : List α := l.foldl addNew []
theorem addNew_mem {ks : List α} {s x : α} : x ∈ addNew ks s ↔ x ∈ ks ∨ x = s := by
  unfold addNew; split
  · rename_i h; exact ⟨.inl, fun q => q.elim id (fun e => e ▸ h)⟩
  · simp
theorem addNew_nodup {ks : List α} {s : α} (h : ks.Nodup) : (addNew ks s).Nodup := by
  unfold addNew; split
  · exact h
  · rename_i hn; rw [List.nodup_append]; exact ⟨h, by simp, fun a ha b hb e => by simp at hb; subst hb; subst e; exact hn ha⟩
theorem uniq_snoc (l : List α) (s : α) : uniq (l ++ [s]) = addNew (uniq l) s := by simp [uniq, List.foldl_append]
theorem uniq_nodup (l : List α) : (uniq l).Nodup := by
  have : ∀ (l ks : List α), ks.Nodup → (l.foldl addNew ks).Nodup := by
    intro l
    induction l with
    | nil => intro ks h; exact h
    | cons a l ih => intro ks h; exact ih _ (addNew_nodup h)
  exact this l [] List.nodup_nil
theorem mem_uniq (l : List α) (x : α) : x ∈ uniq l ↔ x ∈ l := by
  have : ∀ (l ks : List α), x ∈ l.foldl addNew ks ↔ x ∈ ks ∨ x ∈ l := by
    intro l
    induction l with
    | nil => intro ks; simp
    | cons a l ih => intro ks; rw [List.foldl_cons, ih, addNew_mem, List.mem_cons]; constructor
                     · rintro ((h | h) | h)
                       · exact .inl h
                       · exact .inr (.inl h)
                       · exact .inr (.inr h)
                     · rintro (h | h | h)
                       · exact .inl (.inl h)
                       · exact .inl (.inr h)
                       · exact .inr h
  simpa [uniq] using this l []
theorem uniq_len (l : List α) : (uniq l).length ≤ l.length := by
  have : ∀ (l ks : List α), (l.foldl addNew ks).length ≤ ks.length + l.length := by
    intro l
    induction l with
    | nil => intro ks; simp
    | cons a l ih => intro ks; have := ih (addNew ks a); simp only [List.foldl_cons, List.length_cons]
                     have h2 : (addNew ks a).length ≤ ks.length + 1 := by unfold addNew; split <;> simp
                     omega
  simpa [uniq] using this l []
/-- the place of a thing -/
def idx (ks : List α) (x : α) : Nat := ks.idxOf x
theorem idxOf_append_left {ks m : List α} {s : α} (h : s ∈ ks) : idx (ks ++ m) s = idx ks s := by
  unfold idx; rw [List.idxOf_append, if_pos h]
theorem idxOf_append_new {ks : List α} {s : α} (h : s ∉ ks) : idx (ks ++ [s]) s = ks.length := by
  unfold idx; rw [List.idxOf_append, if_neg h]; simp
theorem idxOf_addNew {ks : List α} {s x : α} (h : x ∈ ks) : idx (addNew ks s) x = idx ks x := by
  unfold addNew; split
  · rfl
  · exact idxOf_append_left h
/-- the number of a thing does not change when more things come -/
theorem idxOf_uniq_append (l m : List α) {x : α} (h : x ∈ l) : idx (uniq (l ++ m)) x = idx (uniq l) x := by
  have : ∀ (m ks : List α), x ∈ ks → idx (m.foldl addNew ks) x = idx ks x := by
    intro m
    induction m with
    | nil => intro ks _; rfl
    | cons a m ih => intro ks hk; rw [List.foldl_cons, ih _ (addNew_mem.2 (.inl hk)), idxOf_addNew hk]
  unfold uniq
  rw [List.foldl_append]
  exact this m _ ((mem_uniq l x).2 h)
theorem idxOf_lt {ks : List α} {x : α} (hx : x ∈ ks) : idx ks x < ks.length := List.idxOf_lt_length_of_mem hx
theorem getElem_idx {ks : List α} {x : α} (hx : x ∈ ks) : ks[idx ks x]'(idxOf_lt hx) = x := List.getElem_idxOf (idxOf_lt hx)
theorem idxOf_inj {ks : List α} {x y : α} (hx : x ∈ ks) (hy : y ∈ ks) (h : idx ks x = idx ks y) : x = y := by
  rw [← getElem_idx hx, ← getElem_idx hy]
  congr 1

/-- two lists of things: where the first ones' sameness follows the second ones' and the counts are one, they are same together -/
theorem same_of_count {β : Type} [DecidableEq β] (l : List α) (f : α → β) (h : (uniq l).length = (uniq (l.map f)).length) : ∀ x ∈ l, ∀ y ∈ l, f x = f y → x = y := by
  have hmap : ∀ (l : List α), (uniq (l.map f)).length ≤ (uniq l).length := by
    intro l
    have : ∀ (l : List α) (ks : List α) (js : List β), js.length ≤ ks.length → (∀ x ∈ ks, f x ∈ js) → ((l.map f).foldl addNew js).length ≤ (l.foldl addNew ks).length := by
      intro l
      induction l with
      | nil => intro ks js h _; exact h
      | cons a l ih =>
        intro ks js h hk
        simp only [List.map_cons, List.foldl_cons]
        refine ih _ _ ?_ ?_
        · unfold addNew
          by_cases ha : a ∈ ks
          · rw [if_pos ha, if_pos (hk a ha)]; exact h
          · rw [if_neg ha]; split <;> simp <;> omega
        · intro x hx
          rcases addNew_mem.1 hx with h1 | rfl
          · exact addNew_mem.2 (.inl (hk x h1))
          · exact addNew_mem.2 (.inr rfl)
    exact this l [] [] (Nat.le_refl _) (fun x hx => by cases hx)
  -- a strict loss at the first clash
  have key : ∀ (l : List α) (ks : List α) (js : List β), js.length ≤ ks.length → (∀ x ∈ ks, f x ∈ js) → ((∃ x ∈ ks, ∃ y ∈ ks, f x = f y ∧ x ≠ y) → js.length < ks.length) →
      ((∃ x, (x ∈ ks ∨ x ∈ l) ∧ ∃ y, (y ∈ ks ∨ y ∈ l) ∧ f x = f y ∧ x ≠ y) → ((l.map f).foldl addNew js).length < (l.foldl addNew ks).length) := by
    intro l
    induction l with
    | nil => intro ks js h hk hc ⟨x, hx, y, hy, he⟩; exact hc ⟨x, hx.resolve_right (by simp), y, hy.resolve_right (by simp), he⟩
    | cons a l ih =>
      intro ks js h hk hc hex
      simp only [List.map_cons, List.foldl_cons]
      refine ih _ _ ?_ ?_ ?_ ?_
      · unfold addNew
        by_cases ha : a ∈ ks
        · rw [if_pos ha, if_pos (hk a ha)]; exact h
        · rw [if_neg ha]; split <;> simp <;> omega
      · intro x hx
        rcases addNew_mem.1 hx with h1 | rfl
        · exact addNew_mem.2 (.inl (hk x h1))
        · exact addNew_mem.2 (.inr rfl)
      · rintro ⟨x, hx, y, hy, he, hne⟩
        by_cases ha : a ∈ ks
        · have e : addNew ks a = ks := by unfold addNew; rw [if_pos ha]
          rw [e] at hx hy ⊢
          have e2 : addNew js (f a) = js := by unfold addNew; rw [if_pos (hk a ha)]
          rw [e2]; exact hc ⟨x, hx, y, hy, he, hne⟩
        · have e : addNew ks a = ks ++ [a] := by unfold addNew; rw [if_neg ha]
          by_cases hf : f a ∈ js
          · have e2 : addNew js (f a) = js := by unfold addNew; rw [if_pos hf]
            rw [e, e2]; simp; omega
          · have e2 : addNew js (f a) = js ++ [f a] := by unfold addNew; rw [if_neg hf]
            rw [e] at hx hy
            have hxk : x ∈ ks := by
              rcases List.mem_append.1 hx with h1 | h1
              · exact h1
              · simp at h1; subst h1
                rcases List.mem_append.1 hy with h2 | h2
                · exact absurd (he ▸ hk y h2) hf
                · simp at h2; exact absurd h2.symm hne
            have hyk : y ∈ ks := by
              rcases List.mem_append.1 hy with h1 | h1
              · exact h1
              · simp at h1; subst h1; exact absurd (he ▸ hk x hxk) hf
            have := hc ⟨x, hxk, y, hyk, he, hne⟩
            rw [e, e2]; simp; omega
      · obtain ⟨x, hx, y, hy, he⟩ := hex
        refine ⟨x, ?_, y, ?_, he⟩
        · rcases hx with h1 | h1
          · exact .inl (addNew_mem.2 (.inl h1))
          · rcases List.mem_cons.1 h1 with rfl | h2
            · exact .inl (addNew_mem.2 (.inr rfl))
            · exact .inr h2
        · rcases hy with h1 | h1
          · exact .inl (addNew_mem.2 (.inl h1))
          · rcases List.mem_cons.1 h1 with rfl | h2
            · exact .inl (addNew_mem.2 (.inr rfl))
            · exact .inr h2
  intro x hx y hy he
  rcases Classical.em (x = y) with h1 | h1
  · exact h1
  · exfalso
    have := key l [] [] (Nat.le_refl _) (fun x hx => by cases hx) (fun ⟨x, hx, _⟩ => by cases hx) ⟨x, .inr hx, y, .inr hy, he, h1⟩
    unfold uniq at h
    omega
theorem uniq_map_le {β : Type} [DecidableEq β] (l : List α) (f : α → β) : (uniq (l.map f)).length ≤ (uniq l).length := by
  have : ∀ (l : List α) (ks : List α) (js : List β), js.length ≤ ks.length → (∀ x ∈ ks, f x ∈ js) → ((l.map f).foldl addNew js).length ≤ (l.foldl addNew ks).length := by
    intro l
    induction l with
    | nil => intro ks js h _; exact h
    | cons a l ih =>
      intro ks js h hk
      simp only [List.map_cons, List.foldl_cons]
      refine ih _ _ ?_ ?_
      · unfold addNew
        by_cases ha : a ∈ ks
        · rw [if_pos ha, if_pos (hk a ha)]; exact h
        · rw [if_neg ha]; split <;> simp <;> omega
      · intro x hx
        rcases addNew_mem.1 hx with h1 | rfl
        · exact addNew_mem.2 (.inl (hk x h1))
        · exact addNew_mem.2 (.inr rfl)
  exact this l [] [] (Nat.le_refl _) (fun x hx => by cases hx)
end
end Go.Cm
