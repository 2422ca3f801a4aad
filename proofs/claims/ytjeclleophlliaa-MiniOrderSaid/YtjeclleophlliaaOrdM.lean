/- Numbers that were exchanged, in plain Lean; an automaton of other numbers. Conditions: none. -/
import Derived.Test.YtjeclleophlliaaMakeO
namespace Go.Cm

/-- a list of the numbers below n, each once, the first one first -/
structure PermOk (n : Nat) (L : List Nat) : Prop where
  len : L.length = n
  zero : 0 < n → L.getD 0 0 = 0
  lt : ∀ i, i < n → L.getD i 0 < n
  back : ∃ q : Nat → Nat, (∀ i, i < n → q i < n) ∧ (∀ i, i < n → q (L.getD i 0) = i) ∧ ∀ i, i < n → L.getD (q i) 0 = i
theorem PermOk.start (n : Nat) : PermOk n (List.range n) :=
  ⟨by simp, fun h => by simp [List.getD, h], fun i hi => by simp [List.getD, hi], fun i => i, fun i hi => hi, fun i hi => by simp [List.getD, hi], fun i hi => by simp [List.getD, hi]⟩
theorem getD_setN (l : List Nat) (i j x : Nat) : (l.set i x).getD j 0 = if i = j ∧ i < l.length then x else l.getD j 0 := by
  simp only [List.getD_eq_getElem?_getD, List.getElem?_set]
  by_cases h : i = j
  · subst h
    by_cases h2 : i < l.length
    · simp [h2]
    · simp [h2]
  · simp [h]
theorem PermOk.swap {n : Nat} {L : List Nat} (h : PermOk n L) {a b : Nat} (ha0 : 0 < a) (hb0 : 0 < b) (ha : a < n) (hb : b < n) : PermOk n ((L.set a (L.getD b 0)).set b (L.getD a 0)) := by
  have hl := h.len
  have g : ∀ i, ((L.set a (L.getD b 0)).set b (L.getD a 0)).getD i 0 = if i = b then L.getD a 0 else if i = a then L.getD b 0 else L.getD i 0 := by
    intro i
    rw [getD_setN, getD_setN, List.length_set]
    by_cases h1 : i = b
    · subst h1; rw [if_pos ⟨rfl, by omega⟩, if_pos rfl]
    · rw [if_neg (fun q => h1 q.1.symm), if_neg h1]
      by_cases h2 : i = a
      · subst h2; rw [if_pos ⟨rfl, by omega⟩, if_pos rfl]
      · rw [if_neg (fun q => h2 q.1.symm), if_neg h2]
  obtain ⟨q, q1, q2, q3⟩ := h.back
  refine ⟨by simp [hl], fun h0 => ?_, fun i hi => ?_, fun i => if q i = b then a else if q i = a then b else q i, fun i hi => ?_, fun i hi => ?_, fun i hi => ?_⟩
  · rw [g, if_neg (by omega), if_neg (by omega)]; exact h.zero h0
  · rw [g]
    split
    · exact h.lt a ha
    · split
      · exact h.lt b hb
      · exact h.lt i hi
  · show (if q i = b then a else if q i = a then b else q i) < n
    split
    · exact ha
    · split
      · exact hb
      · exact q1 i hi
  · show (if q _ = b then a else if q _ = a then b else q _) = i
    rw [g]
    by_cases h1 : i = b
    · subst h1
      rw [if_pos rfl, q2 a ha]
      by_cases h2 : a = i
      · rw [if_pos h2]; exact h2
      · rw [if_neg h2, if_pos rfl]
    · rw [if_neg h1]
      by_cases h2 : i = a
      · subst h2
        rw [if_pos rfl, q2 b hb, if_pos rfl]
      · rw [if_neg h2, q2 i hi, if_neg h1, if_neg h2]
  · show ((L.set a (L.getD b 0)).set b (L.getD a 0)).getD (if q i = b then a else if q i = a then b else q i) 0 = i
    rw [g]
    have h3 := q3 i hi
    by_cases h1 : q i = b
    · rw [if_pos h1]
      by_cases h2 : a = b
      · rw [if_pos h2, h2, ← h1, h3]
      · rw [if_neg h2, if_pos rfl, ← h1, h3]
    · rw [if_neg h1]
      by_cases h2 : q i = a
      · rw [if_pos h2, if_pos rfl, ← h2, h3]
      · rw [if_neg h2, if_neg h1, if_neg h2, h3]

/-- the automaton whose states have these numbers -/
theorem turned_of {d : Dfa} {L : List Nat} (hv : Valid d) (h : PermOk d.next.length L) {rows : Nat → List Int} {rs : List Int} (hr : rs.length = d.next.length) (hrs : ∀ i, i < d.next.length → rs.getD (L.getD i 0) 0 = d.rules.getD i 0)
    (hrow : ∀ i, i < d.next.length → rows (L.getD i 0) = nl ((rowN d i).map fun x => L.getD x 0)) : ∃ q : Nat → Nat, Turned d ⟨d.cls, (List.range d.next.length).map rows, rs⟩ (fun i => L.getD i 0) q := by
  obtain ⟨q, q1, q2, q3⟩ := h.back
  have h1 := hv.1
  refine ⟨q, rfl, by simp, hr, h.lt, q1, q2, q3, h.zero (by omega), fun i hi => ?_, hrs⟩
  have := h.lt i hi
  rw [← hrow i hi]
  simp only [List.getD_eq_getElem?_getD, List.getElem?_map] at this ⊢
  rw [List.getElem?_range this]; rfl
end Go.Cm
