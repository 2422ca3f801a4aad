/- Slices of slices that a call makes itself. Conditions: none. -/
import Derived.Test.YtfeglklggadndaaOwn
namespace Go.Cm
open Go.RowKit Go.Proofs

/-- a slice of slices reads as rows -/
def RowsG (w : World) (v : Value) (ll : List (List Value)) : Prop := ∃ vs, Sl w v vs ∧ vs.length = ll.length ∧ ∀ i, i < ll.length → Sl w (vs.getD i undef) (ll.getD i [])
theorem RowsG.up {w w' : World} {v : Value} {ll : List (List Value)} (h : RowsG w v ll) (hb : Below w.heap.size w w') : RowsG w' v ll := by
  obtain ⟨vs, h1, h2, h3⟩ := h
  exact ⟨vs, h1.up hb, h2, fun i hi => (h3 i hi).up hb⟩
theorem RowsG.open {w : World} {v : Value} {ll : List (List Value)} (h : RowsG w v ll) :
    ∃ oa cap b off, v = .slice oa ll.length cap ∧ Hd w oa ll.length cap b off ∧ ∀ i, i < ll.length →
      ∃ oi ci bi fi, w.cell? ⟨b, off + i, none⟩ = some (.slice oi (ll.getD i []).length ci) ∧ Hd w oi (ll.getD i []).length ci bi fi ∧
        (∀ j, j < (ll.getD i []).length → w.cell? ⟨bi, fi + j, none⟩ = some ((ll.getD i []).getD j undef)) ∧ Sl w (.slice oi (ll.getD i []).length ci) (ll.getD i []) := by
  obtain ⟨vs, ⟨oa, cap, b, off, rfl, hd, hc⟩, h2, h3⟩ := h
  rw [h2] at hd hc ⊢
  refine ⟨oa, cap, b, off, rfl, hd, fun i hi => ?_⟩
  have h4 := h3 i hi
  obtain ⟨oi, ci, bi, fi, he, hdi, hci⟩ := h4
  refine ⟨oi, ci, bi, fi, ?_, hdi, hci, ?_⟩
  · rw [hc i hi, he]
  · rw [← he]; exact h3 i hi
theorem getD_map_ints (ll : List (List Int)) (i : Nat) : (ll.map ints).getD i [] = ints (ll.getD i []) := by
  simp only [List.getD_eq_getElem?_getD, List.getElem?_map]
  cases ll[i]? <;> simp [ints]
theorem RowsG.ints {w : World} {v : Value} {ll : List (List Int)} (h : RowsG w v (ll.map ints)) : RowsAt w v ll := by
  obtain ⟨vs, h1, h2, h3⟩ := h
  refine ⟨vs, h1, by simpa using h2, fun i hi => ?_⟩
  have := h3 i (by simpa using hi)
  rwa [getD_map_ints] at this

structure OwnM (w : World) (B E E' : Nat) (v : Value) (vs : List Value) (ll : List (List Value)) : Prop where
  outer : Own w B E v vs
  len : vs.length = ll.length
  rows : ∀ i, i < ll.length → Own w B E' (vs.getD i undef) (ll.getD i [])
  apart : ∀ i j, i < ll.length → j < ll.length → i ≠ j → ∀ k, (vs.getD i undef).ownBlock = some k → (vs.getD j undef).ownBlock ≠ some k
  off : ∀ i, i < ll.length → ∀ k, (vs.getD i undef).ownBlock = some k → v.ownBlock ≠ some k

variable {w w' : World} {B E E' : Nat} {v : Value} {vs : List Value} {ll : List (List Value)}

theorem OwnM.nil (w : World) (B E E' : Nat) : OwnM w B E E' (.slice none 0 0) [] [] := ⟨Own.nil w B E, rfl, fun i hi => absurd hi (Nat.not_lt_zero i), fun i _ hi => absurd hi (Nat.not_lt_zero i), fun i hi => absurd hi (Nat.not_lt_zero i)⟩
theorem OwnM.rowsG (h : OwnM w B E E' v vs ll) : RowsG w v ll := ⟨vs, h.outer.sl, h.len, fun i hi => (h.rows i hi).sl⟩

theorem ne_of_row {u : Value} {row : Option Nat} (h : ∀ k, u.ownBlock = some k → row ≠ some k) : u.ownBlock = none ∨ u.ownBlock ≠ row := by
  cases hu : u.ownBlock with
  | none => exact .inl rfl
  | some k => exact .inr (fun e => h k hu e.symm)

/-- nothing of it is written -/
theorem OwnM.keep (h : OwnM w B E E' v vs ll) {row : Option Nat} (hg : w.grownBy w' row) (hv : ∀ k, v.ownBlock = some k → row ≠ some k) (hr : ∀ i, i < ll.length → ∀ k, (vs.getD i undef).ownBlock = some k → row ≠ some k) : OwnM w' B E E' v vs ll :=
  ⟨h.outer.keep hg (ne_of_row hv), h.len, fun i hi => (h.rows i hi).keep hg (ne_of_row (hr i hi)), h.apart, h.off⟩
theorem OwnM.up (h : OwnM w B E E' v vs ll) (hb : Below w.heap.size w w') : OwnM w' B E E' v vs ll :=
  h.keep (row := none) (grown_below hb none) (fun _ _ e => by cases e) (fun _ _ _ _ e => by cases e)
/-- a row that lies elsewhere than the matrix and is none of its blocks -/
def OwnM.free (v : Value) (vs : List Value) (row : Option Nat) : Prop := (∀ k, v.ownBlock = some k → row ≠ some k) ∧ ∀ i, i < vs.length → ∀ k, (vs.getD i undef).ownBlock = some k → row ≠ some k
theorem OwnM.keep' (h : OwnM w B E E' v vs ll) {row : Option Nat} (hg : w.grownBy w' row) (hf : OwnM.free v vs row) : OwnM w' B E E' v vs ll :=
  h.keep hg hf.1 fun i hi => hf.2 i (by rw [h.len]; exact hi)
/-- a block that was laid later than the matrix is none of its blocks -/
theorem OwnM.free_new (h : OwnM w B E E' v vs ll) {k : Nat} (hk : w.heap.size ≤ k) : OwnM.free v vs (some k) :=
  ⟨fun q hq e => by have := h.outer.lt q hq; injection e with e; omega, fun i hi q hq e => by have := (h.rows i (by rw [← h.len]; exact hi)).lt q hq; injection e with e; omega⟩
theorem OwnM.free_none : OwnM.free v vs none := ⟨fun _ _ e => (by cases e), fun _ _ _ _ e => (by cases e)⟩
theorem OwnM.free_below (h : OwnM w B E E' v vs ll) {k : Nat} (hk : k < B) : OwnM.free v vs (some k) :=
  ⟨fun q hq e => by have := h.outer.lt q hq; injection e with e; omega, fun i hi q hq e => by have := (h.rows i (by rw [← h.len]; exact hi)).lt q hq; injection e with e; omega⟩

theorem getD_append_left' {α : Type} {l m : List α} {i : Nat} {d : α} (h : i < l.length) : (l ++ m).getD i d = l.getD i d := by simp [List.getD, List.getElem?_append_left h]
theorem getD_append_one {α : Type} {l : List α} {x d : α} : (l ++ [x]).getD l.length d = x := by simp [List.getD]
theorem getD_set_ne' {α : Type} {l : List α} {i j : Nat} {x d : α} (h : i ≠ j) : (l.set i x).getD j d = l.getD j d := by simp [List.getD, h]
theorem getD_set_self' {α : Type} {l : List α} {i : Nat} {x d : α} (h : i < l.length) : (l.set i x).getD i d = x := by simp [List.getD, h]

/-- a row is appended: what append's law leaves -/
theorem OwnM.push (h : OwnM w B E E' v vs ll) {r : Value} {xs : List Value} (hr : Own w B E' r xs) (hf : OwnM.free v vs r.ownBlock) {v' : Value} {w0 : World} (hw0 : w.grownBy w0 none) (ho : Own w' B E v' (vs ++ [r])) (hg : w0.grownBy w' v.ownBlock) (hk : ∀ k, v'.ownBlock = some k → v.ownBlock = some k ∨ w0.heap.size ≤ k) :
    OwnM w' B E E' v' (vs ++ [r]) (ll ++ [xs]) := by
  have hg' : w.grownBy w' v.ownBlock := grown_trans ⟨hw0.os, hw0.tape, hw0.output, hw0.size, fun k hk _ => hw0.block k hk (by simp)⟩ hg
  have hvr : ∀ k, r.ownBlock = some k → v.ownBlock ≠ some k := fun k hk e => hf.1 k e hk
  have hrow : ∀ i, i < ll.length → Own w' B E' (vs.getD i undef) (ll.getD i []) := fun i hi => (h.rows i hi).keep hg' (ne_of_row (h.off i hi))
  have hl := h.len
  have idx : ∀ i, i < (ll ++ [xs]).length → (i < ll.length ∧ (vs ++ [r]).getD i undef = vs.getD i undef ∧ (ll ++ [xs]).getD i [] = ll.getD i []) ∨ (i = ll.length ∧ (vs ++ [r]).getD i undef = r ∧ (ll ++ [xs]).getD i [] = xs) := by
    intro i hi
    rw [List.length_append, List.length_singleton] at hi
    rcases Nat.lt_succ_iff_lt_or_eq.1 hi with h1 | rfl
    · exact .inl ⟨h1, getD_append_left' (by omega), getD_append_left' h1⟩
    · exact .inr ⟨rfl, by rw [← hl]; exact getD_append_one, getD_append_one⟩
  refine ⟨ho, by simp [hl], fun i hi => ?_, fun i j hi hj hne k hik => ?_, fun i hi k hik => ?_⟩
  · rcases idx i hi with ⟨h1, e1, e2⟩ | ⟨h1, e1, e2⟩
    · rw [e1, e2]; exact hrow i h1
    · rw [e1, e2]; exact hr.keep hg' (ne_of_row hvr)
  · rcases idx i hi with ⟨h1, e1, e2⟩ | ⟨h1, e1, e2⟩ <;> rcases idx j hj with ⟨h3, e3, e4⟩ | ⟨h3, e3, e4⟩ <;> rw [e1] at hik <;> rw [e3]
    · exact h.apart i j h1 h3 hne k hik
    · exact hf.2 i (by omega) k hik
    · intro e; exact hf.2 j (by omega) k e hik
    · omega
  · have hsz : w.heap.size ≤ w0.heap.size := hw0.size
    rcases idx i hi with ⟨h1, e1, e2⟩ | ⟨h1, e1, e2⟩ <;> rw [e1] at hik <;> intro e
    · rcases hk k e with h2 | h2
      · exact h.off i h1 k hik h2
      · have := (h.rows i h1).lt k hik; omega
    · rcases hk k e with h2 | h2
      · exact hvr k hik h2
      · have := hr.lt k hik; omega

/-- a row is written in place -/
theorem OwnM.writeRow (h : OwnM w B E E' v vs ll) {i : Nat} (hi : i < ll.length) {xs : List Value} (hr : Own w' B E' (vs.getD i undef) xs) (hg : w.grownBy w' (vs.getD i undef).ownBlock) : OwnM w' B E E' v vs (ll.set i xs) := by
  refine ⟨h.outer.keep hg (ne_of_row fun k hk e => h.off i hi k e hk), by simp [h.len], fun j hj => ?_, fun a b ha hb => h.apart a b (by simpa using ha) (by simpa using hb), fun a ha => h.off a (by simpa using ha)⟩
  rw [List.length_set] at hj
  by_cases hij : i = j
  · subst hij; rw [getD_set_self' hi]; exact hr
  · rw [getD_set_ne' hij]
    exact (h.rows j hj).keep hg (ne_of_row fun k hk e => h.apart i j hi hj hij k e hk)

/-- a row is replaced: the new one lies in the old one's block or in a later one -/
theorem OwnM.setRow {g : Nat} {n cap : Nat} (h : OwnM w B E E' (.slice (some ⟨g, 0, none⟩) n cap) vs ll) {i : Nat} (hi : i < ll.length) {r : Value} {xs : List Value} (hr : Own w' B E' r xs) (hg : w.grownBy w' (vs.getD i undef).ownBlock) (hk : ∀ k, r.ownBlock = some k → (vs.getD i undef).ownBlock = some k ∨ w.heap.size ≤ k) :
    OwnM (w'.setCell ⟨g, i, none⟩ r) B E E' (.slice (some ⟨g, 0, none⟩) n cap) (vs.set i r) (ll.set i xs) ∧ w'.grownBy (w'.setCell ⟨g, i, none⟩ r) (some g) := by
  have ho : Own w' B E (.slice (some ⟨g, 0, none⟩) n cap) vs := h.outer.keep hg (ne_of_row fun k hk e => h.off i hi k e hk)
  obtain ⟨h1, h2⟩ := ho.store i r
  have hgb := h.outer.blk
  have hvi : i < vs.length := by rw [h.len]; exact hi
  have hrg : ∀ k, r.ownBlock = some k → k ≠ g := fun k hk' e => by
    rcases hk k hk' with h3 | h3
    · exact h.off i hi k h3 (by rw [e]; rfl)
    · omega
  refine ⟨⟨h1, by simp [h.len], fun j hj => ?_, fun a b ha hb hne k hak => ?_, fun a ha k hak => ?_⟩, h2⟩
  · rw [List.length_set] at hj
    by_cases hij : i = j
    · subst hij; rw [getD_set_self' hvi, getD_set_self' hi]
      exact hr.keep h2 (ne_of_row fun k hk' e => hrg k hk' (by injection e with e; exact e.symm))
    · rw [getD_set_ne' hij, getD_set_ne' hij]
      exact ((h.rows j hj).keep hg (ne_of_row fun k hk e => h.apart i j hi hj hij k e hk)).keep h2 (ne_of_row fun k hk' e => h.off j hj k hk' (by simpa [Value.ownBlock] using e))
  · rw [List.length_set] at ha hb
    by_cases hia : i = a <;> by_cases hib : i = b
    · omega
    · subst hia
      rw [getD_set_self' hvi] at hak; rw [getD_set_ne' hib]
      rcases hk k hak with h3 | h3
      · exact h.apart i b hi hb hib k h3
      · intro e; have := (h.rows b hb).lt k e; omega
    · subst hib
      rw [getD_set_ne' hia] at hak; rw [getD_set_self' hvi]
      intro e
      rcases hk k e with h3 | h3
      · exact h.apart a i ha hi (fun q => hia q.symm) k hak h3
      · have := (h.rows a ha).lt k hak; omega
    · rw [getD_set_ne' hia] at hak; rw [getD_set_ne' hib]; exact h.apart a b ha hb hne k hak
  · rw [List.length_set] at ha
    by_cases hia : i = a
    · subst hia; rw [getD_set_self' hvi] at hak
      intro e; simp [Value.ownBlock] at e; exact hrg k hak e.symm
    · rw [getD_set_ne' hia] at hak; exact h.off a ha k hak
end Go.Cm
