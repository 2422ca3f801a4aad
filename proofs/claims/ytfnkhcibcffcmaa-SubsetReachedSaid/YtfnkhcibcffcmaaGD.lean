/- Texts of this claim, joined: walks of small functions and plain facts about them. Conditions: as each says. -/
import Derived.Test.YtfnkhcibcffcmaaGA
import Derived.Test.YtfnkhcibcffcmaaGB
import Derived.Deep.LoopGhost
/- The maker of automata in memory: what lies apart, and what stays. Conditions: none. -/
namespace Go.Cm
open Go.RowKit Go.Proofs

/-- only blocks of S were written to -/
structure Fx (S : Nat → Prop) (w w' : World) : Prop where
  os : w'.os = w.os
  tape : w'.tape = w.tape
  output : w'.output = w.output
  size : w.heap.size ≤ w'.heap.size
  block : ∀ k, k < w.heap.size → ¬ S k → w'.heap[k]? = w.heap[k]?
/-- .. and the blocks S that belong to an object are now S': further ones are new -/
structure Gw (S : Nat → Prop) (w : World) (S' : Nat → Prop) (w' : World) : Prop where
  fx : Fx S w w'
  sub : ∀ k, S' k → S k ∨ w.heap.size ≤ k
section
variable {S S' S1 S2 : Nat → Prop} {w w' w1 w2 : World}
theorem Fx.refl (S : Nat → Prop) (w : World) : Fx S w w := ⟨rfl, rfl, rfl, Nat.le_refl _, fun _ _ _ => rfl⟩
theorem Gw.refl (S : Nat → Prop) (w : World) : Gw S w S w := ⟨Fx.refl S w, fun _ h => .inl h⟩
theorem Gw.trans (h : Gw S w S1 w1) (k : Gw S1 w1 S2 w2) : Gw S w S2 w2 :=
  ⟨⟨k.fx.os.trans h.fx.os, k.fx.tape.trans h.fx.tape, k.fx.output.trans h.fx.output, Nat.le_trans h.fx.size k.fx.size, fun i hi h1 => by
      rw [k.fx.block i (Nat.lt_of_lt_of_le hi h.fx.size) (fun e => (h.sub i e).elim h1 (fun z => by omega)), h.fx.block i hi h1]⟩,
    fun i hi => (k.sub i hi).elim (h.sub i) (fun z => .inr (Nat.le_trans h.fx.size z))⟩
theorem gw_below (S : Nat → Prop) (h : Below w.heap.size w w1) : Gw S w S w1 := ⟨⟨h.os, h.tape, h.output, h.size, fun k hk _ => h.block k hk⟩, fun _ h => .inl h⟩
theorem Gw.up (h : Gw S w S1 w1) (k : Below w1.heap.size w1 w2) : Gw S w S1 w2 := h.trans (gw_below S1 k)
theorem gw_grown {row : Option Nat} (h : w.grownBy w1 row) (hr : ∀ k, row = some k → S k) (hs : ∀ k, S' k → S k ∨ w.heap.size ≤ k) : Gw S w S' w1 :=
  ⟨⟨h.os, h.tape, h.output, h.size, fun k hk h1 => h.block k hk (fun e => h1 (hr k e.symm))⟩, hs⟩
theorem Gw.out (h : Gw S w S' w1) {p : Nat} (hp : p < w.heap.size) (hn : ¬ S p) : ¬ S' p := fun e => (h.sub p e).elim hn (fun z => by omega)
theorem Gw.blk (h : Gw S w S' w1) {p : Nat} (hp : p < w.heap.size) (hn : ¬ S p) : w1.heap[p]? = w.heap[p]? := h.fx.block p hp hn
theorem Gw.cell (h : Gw S w S' w1) {b o : Nat} (hb : b < w.heap.size) (hn : ¬ S b) : w1.cell? ⟨b, o, none⟩ = w.cell? ⟨b, o, none⟩ := World.cell?_of_block (w := w) (h.fx.block b hb hn)
theorem Gw.size (h : Gw S w S' w1) : w.heap.size ≤ w1.heap.size := h.fx.size
theorem Gw.below (h : Gw S w S' w1) {n : Nat} (hn : n ≤ w.heap.size) (hS : ∀ k, S k → n ≤ k) : Below n w w1 :=
  ⟨h.fx.os, h.fx.tape, h.fx.output, h.fx.size, fun k hk => h.fx.block k (by omega) (fun e => by have := hS k e; omega)⟩
end

/-- owners that lie apart -/
def Sep (L : List (Option Nat)) : Prop := ∀ i j k : Nat, L[i]? = some (some k) → L[j]? = some (some k) → i = j
theorem Sep.set {L : List (Option Nat)} (h : Sep L) {n i : Nat} {b : Option Nat} (hlt : ∀ j k : Nat, L[j]? = some (some k) → k < n) (hb : ∀ k : Nat, b = some k → L[i]? = some (some k) ∨ n ≤ k) : Sep (L.set i b) := by
  intro x y k hx hy
  rw [List.getElem?_set] at hx hy
  by_cases hix : i = x <;> by_cases hiy : i = y
  · omega
  · rw [if_pos hix] at hx
    rw [if_neg hiy] at hy
    split at hx
    · have hbk : b = some k := by injection hx
      rcases hb k hbk with h1 | h1
      · exact absurd (h i y k h1 hy) hiy
      · have := hlt y k hy; omega
    · cases hx
  · rw [if_neg hix] at hx
    rw [if_pos hiy] at hy
    split at hy
    · have hbk : b = some k := by injection hy
      rcases hb k hbk with h1 | h1
      · exact absurd (h i x k h1 hx) hix
      · have := hlt x k hx; omega
    · cases hy
  · rw [if_neg hix] at hx
    rw [if_neg hiy] at hy
    exact h x y k hx hy
theorem Sep.snoc {L : List (Option Nat)} (h : Sep L) : Sep (L ++ [none]) := by
  have key : ∀ x k : Nat, (L ++ [none])[x]? = some (some k) → L[x]? = some (some k) := fun x k hx => by
    by_cases hl : x < L.length
    · rwa [List.getElem?_append_left hl] at hx
    · rw [List.getElem?_append_right (by omega)] at hx
      by_cases h0 : x - L.length = 0
      · rw [h0] at hx; simp at hx
      · rw [List.getElem?_eq_none (by simp; omega)] at hx; cases hx
  exact fun x y k hx hy => h x y k (key x k hx) (key y k hy)

structure Ed where
  to : Int
  free : Bool
  a : Int
  b : Int
  c : Int
  d : Int
def edC (e : Ed) : List Value := [.int .i64 e.to, .bool e.free, .int .u64 e.a, .int .u64 e.b, .int .u64 e.c, .int .u64 e.d]
theorem edC_len (l : List Ed) : ∀ x ∈ l.map edC, x.length = 6 := by
  intro x hx
  obtain ⟨e, -, rfl⟩ := List.mem_map.1 hx
  rfl
def stV (q : Nat) : Value := .func (.func 53) #[] #[.pointer (some ⟨q, 0, none⟩)]
def ffV (q : Nat) : Value := .func (.func 54) #[] #[.pointer (some ⟨q, 0, none⟩)]
def mkL (q g : Nat) (ve vr : Value) (vs : List Value) : List (Option Nat) := some q :: some g :: ve.ownBlock :: vr.ownBlock :: vs.map Value.ownBlock
def MkS (g : Nat) (ve vr : Value) (vs : List Value) (k : Nat) : Prop := k = g ∨ ve.ownBlock = some k ∨ vr.ownBlock = some k ∨ ∃ i, i < vs.length ∧ (vs.getD i undef).ownBlock = some k
/-- the maker in block g; its variable is block q -/
structure Mk (w : World) (g q : Nat) (ve : Value) (vs : List Value) (vr : Value) (ll : List (List Ed)) (rl : List Int) (F : Int) : Prop where
  box : Own w 0 80 (.slice (some ⟨g, 0, none⟩) 5 5) [ve, .int .i64 F, vr, stV q, ffV q]
  hq : w.cell? ⟨q, 0, none⟩ = some (.pointer (some ⟨g, 0, none⟩))
  hql : q < w.heap.size
  outer : Own w 0 85 ve vs
  len : vs.length = ll.length
  rows : ∀ i, i < ll.length → OwnK 6 w 0 92 (vs.getD i undef) ((ll.getD i []).map edC)
  rules : Own w 0 3 vr (ints rl)
  sep : Sep (mkL q g ve vr vs)
section
variable {w w' w0 w1 : World} {g q : Nat} {ve vr : Value} {vs : List Value} {ll : List (List Ed)} {rl : List Int} {F : Int}
theorem mkL_row (q g : Nat) (ve vr : Value) (vs : List Value) (i : Nat) (hi : i < vs.length) : (mkL q g ve vr vs)[i + 4]? = some (vs.getD i undef).ownBlock := by
  simp [mkL, List.getD, hi]
theorem Mk.c0 (h : Mk w g q ve vs vr ll rl F) : w.cell? ⟨g, 0, none⟩ = some ve := h.box.cell (by simp)
theorem Mk.c1 (h : Mk w g q ve vs vr ll rl F) : w.cell? ⟨g, 1, none⟩ = some (.int .i64 F) := h.box.cell (by simp)
theorem Mk.c2 (h : Mk w g q ve vs vr ll rl F) : w.cell? ⟨g, 2, none⟩ = some vr := h.box.cell (by simp)
theorem Mk.c3 (h : Mk w g q ve vs vr ll rl F) : w.cell? ⟨g, 3, none⟩ = some (stV q) := h.box.cell (by simp)
theorem Mk.c4 (h : Mk w g q ve vs vr ll rl F) : w.cell? ⟨g, 4, none⟩ = some (ffV q) := h.box.cell (by simp)
theorem Mk.f (h : Mk w g q ve vs vr ll rl F) (c : Nat) : w.frozen? ⟨g, c, none⟩ = false := h.box.free c
theorem Mk.lt (h : Mk w g q ve vs vr ll rl F) : g < w.heap.size := h.box.blk.2
/-- each owner is a block of the world -/
theorem Mk.all (h : Mk w g q ve vs vr ll rl F) : ∀ j k : Nat, (mkL q g ve vr vs)[j]? = some (some k) → k < w.heap.size := by
  intro j k hj
  rcases j with _ | _ | _ | _ | j
  · simp [mkL] at hj; subst hj; exact h.hql
  · simp [mkL] at hj; subst hj; exact h.lt
  · simp [mkL] at hj; exact (h.outer.lt k hj).2
  · simp [mkL] at hj; exact (h.rules.lt k hj).2
  · by_cases hjl : j < vs.length
    · rw [mkL_row _ _ _ _ _ j hjl] at hj
      injection hj with hj
      exact ((h.rows j (by rw [← h.len]; exact hjl)).lt k hj).2
    · simp [mkL, List.getElem?_eq_none (show vs.length ≤ j by omega)] at hj
theorem Mk.mem (h : Mk w g q ve vs vr ll rl F) {k : Nat} (hk : MkS g ve vr vs k) : ∃ j, 1 ≤ j ∧ (mkL q g ve vr vs)[j]? = some (some k) := by
  rcases hk with rfl | hk | hk | ⟨i, hi, hk⟩
  · exact ⟨1, by omega, rfl⟩
  · exact ⟨2, by omega, by simp [mkL, hk]⟩
  · exact ⟨3, by omega, by simp [mkL, hk]⟩
  · exact ⟨i + 4, by omega, by rw [mkL_row _ _ _ _ _ i hi, hk]⟩
theorem Mk.mlt (h : Mk w g q ve vs vr ll rl F) {k : Nat} (hk : MkS g ve vr vs k) : k < w.heap.size := by
  obtain ⟨j, -, hj⟩ := h.mem hk
  exact h.all j k hj
theorem Mk.mq (h : Mk w g q ve vs vr ll rl F) : ¬ MkS g ve vr vs q := by
  intro hk
  obtain ⟨j, h1, hj⟩ := h.mem hk
  have := h.sep 0 j q rfl hj
  omega
/-- what is not written stays -/
theorem Mk.keep (h : Mk w g q ve vs vr ll rl F) {row : Option Nat} (hg : w.grownBy w' row) (hr : ∀ j k : Nat, (mkL q g ve vr vs)[j]? = some (some k) → row ≠ some k) : Mk w' g q ve vs vr ll rl F :=
  ⟨h.box.keep hg (ne_of_row fun k hk => hr 1 k (by rw [show k = g from (Option.some.inj hk).symm]; rfl)), by rw [← h.hq]; exact World.cell?_of_block (w := w) (hg.block q h.hql (fun e => hr 0 q rfl e.symm)), Nat.lt_of_lt_of_le h.hql hg.size, h.outer.keep hg (ne_of_row fun k hk => hr 2 k (by simp [mkL, hk])), h.len,
    fun i hi => (h.rows i hi).keep hg (ne_of_row fun k hk => hr (i + 4) k (by rw [mkL_row _ _ _ _ _ i (by rw [h.len]; exact hi), hk])), h.rules.keep hg (ne_of_row fun k hk => hr 3 k (by simp [mkL, hk])), h.sep⟩
theorem Mk.up (h : Mk w g q ve vs vr ll rl F) (hb : Below w.heap.size w w') : Mk w' g q ve vs vr ll rl F := h.keep (row := none) (grown_below hb none) (fun _ _ _ e => by cases e)
end
end Go.Cm

/- What a step of the maker leaves in memory. Conditions: none. -/
namespace Go.Cm
open Go.RowKit Go.Proofs

section
variable {w w' w0 w1 : World} {g q : Nat} {ve vr : Value} {vs : List Value} {ll : List (List Ed)} {rl : List Int} {F : Int}
theorem mkL_ne {w : World} (h : Mk w g q ve vs vr ll rl F) {i j k : Nat} (hi : (mkL q g ve vr vs)[i]? = some (some k)) (hij : i ≠ j) : (mkL q g ve vr vs)[j]? ≠ some (some k) := fun e => hij (h.sep i j k hi e)
theorem Mk.ne_g (h : Mk w g q ve vs vr ll rl F) : ve.ownBlock ≠ some g ∧ vr.ownBlock ≠ some g ∧ q ≠ g := by
  refine ⟨fun e => ?_, fun e => ?_, fun e => ?_⟩
  · have := h.sep 1 2 g rfl (by simp [mkL, e]); omega
  · have := h.sep 1 3 g rfl (by simp [mkL, e]); omega
  · have := h.sep 0 1 g (by simp [mkL, e]) rfl; omega
theorem Mk.ne_q (h : Mk w g q ve vs vr ll rl F) : ve.ownBlock ≠ some q ∧ vr.ownBlock ≠ some q ∧ g ≠ q := by
  refine ⟨fun e => ?_, fun e => ?_, fun e => h.ne_g.2.2 e.symm⟩
  · have := h.sep 0 2 q rfl (by simp [mkL, e]); omega
  · have := h.sep 0 3 q rfl (by simp [mkL, e]); omega
theorem Mk.ne_er (h : Mk w g q ve vs vr ll rl F) : ∀ k, ve.ownBlock = some k → vr.ownBlock ≠ some k := fun k h1 h2 => by
  have := h.sep 2 3 k (by simp [mkL, h1]) (by simp [mkL, h2]); omega
theorem Mk.ne_row (h : Mk w g q ve vs vr ll rl F) {i k : Nat} (hi : i < ll.length) (hk : (vs.getD i undef).ownBlock = some k) : k ≠ q ∧ k ≠ g ∧ ve.ownBlock ≠ some k ∧ vr.ownBlock ≠ some k ∧ (∀ j, j < ll.length → j ≠ i → (vs.getD j undef).ownBlock ≠ some k) := by
  have hr := mkL_row q g ve vr vs i (by rw [h.len]; exact hi)
  rw [hk] at hr
  refine ⟨fun e => ?_, fun e => ?_, fun e => ?_, fun e => ?_, fun j hj hji e => ?_⟩
  · have := h.sep 0 (i + 4) k (by rw [e]; rfl) hr; omega
  · have := h.sep 1 (i + 4) k (by rw [e]; rfl) hr; omega
  · have := h.sep 2 (i + 4) k (by simp [mkL, e]) hr; omega
  · have := h.sep 3 (i + 4) k (by simp [mkL, e]) hr; omega
  · have h2 := mkL_row q g ve vr vs j (by rw [h.len]; exact hj)
    rw [e] at h2
    have := h.sep (j + 4) (i + 4) k h2 hr; omega
/-- a state comes: its edges -/
theorem Mk.pushE (h : Mk w g q ve vs vr ll rl F) {v' : Value} (ho : Own w1 0 85 v' (vs ++ [.slice none 0 0])) (hg : w.grownBy w1 ve.ownBlock) (hk : ∀ k, v'.ownBlock = some k → ve.ownBlock = some k ∨ w.heap.size ≤ k) :
    Mk (w1.setCell ⟨g, 0, none⟩ v') g q v' (vs ++ [.slice none 0 0]) vr (ll ++ [[]]) rl F ∧ Gw (MkS g ve vr vs) w (MkS g v' vr (vs ++ [.slice none 0 0])) (w1.setCell ⟨g, 0, none⟩ v') := by
  have hlt := h.lt
  have hng := h.ne_g
  have hb1 := h.box.keep hg (.inr (fun e => hng.1 e.symm))
  obtain ⟨hb2, hg2⟩ := hb1.store 0 v'
  have hv'g : v'.ownBlock ≠ some g := fun e => (hk g e).elim hng.1 (fun z => by omega)
  have hgg : w.grownBy w1 ve.ownBlock := hg
  have hrowg : ∀ i, i < ll.length → ∀ k, (vs.getD i undef).ownBlock = some k → some g ≠ some k := fun i hi k hk' e => (h.ne_row hi hk').2.1 (Option.some.inj e).symm
  have hmem : ∀ k, MkS g v' vr (vs ++ [.slice none 0 0]) k → MkS g ve vr vs k ∨ w.heap.size ≤ k := by
    rintro k (rfl | h1 | h1 | ⟨i, hi, h1⟩)
    · exact .inl (.inl rfl)
    · exact (hk k h1).imp (fun z => .inr (.inl z)) id
    · exact .inl (.inr (.inr (.inl h1)))
    · by_cases hil : i < vs.length
      · rw [getD_append_left' hil] at h1
        exact .inl (.inr (.inr (.inr ⟨i, hil, h1⟩)))
      · have hie : i = vs.length := by rw [List.length_append, List.length_singleton] at hi; omega
        subst hie
        rw [getD_append_one] at h1; cases h1
  refine ⟨⟨hb2, ?_, Nat.lt_of_lt_of_le h.hql (Nat.le_trans hg.size hg2.size), ho.keep hg2 (.inr hv'g), by simp [h.len], fun i hi => ?_, (h.rules.keep hg (ne_of_row fun k hk' e => h.ne_er k e hk')).keep hg2 (.inr (fun e => hng.2.1 e)), ?_⟩, ?_⟩
  · rw [← h.hq]
    exact World.cell?_of_block (w := w) (by rw [hg2.block q (Nat.lt_of_lt_of_le h.hql hg.size) (fun e => hng.2.2 (Option.some.inj e)), hg.block q h.hql (fun e => h.ne_q.1 e.symm)])
  · by_cases hil : i < ll.length
    · rw [getD_append_left' (by rw [h.len]; exact hil), getD_append_left' hil]
      exact ((h.rows i hil).keep hg (ne_of_row fun k hk' e => (h.ne_row hil hk').2.2.1 e)).keep hg2 (ne_of_row (hrowg i hil))
    · have hie : i = ll.length := by rw [List.length_append, List.length_singleton] at hi; omega
      subst hie
      rw [getD_append_one, ← h.len, getD_append_one]
      exact OwnK.nil _ _ _ _
  · have e : mkL q g v' vr (vs ++ [.slice none 0 0]) = (mkL q g ve vr vs).set 2 v'.ownBlock ++ [none] := by simp [mkL, Value.ownBlock]
    rw [e]
    refine (h.sep.set h.all fun k hk' => ?_).snoc
    exact (hk k hk').imp (fun z => by simp [mkL, z]) id
  · exact (gw_grown hg (fun k e => .inr (.inl e)) hmem).trans (gw_grown hg2 (fun k e => .inl (Option.some.inj e).symm) (fun k hk' => .inl hk'))
/-- .. and its rule -/
theorem Mk.pushR (h : Mk w g q ve vs vr ll rl F) {v' : Value} {rl' : List Int} (ho : Own w1 0 3 v' (ints rl')) (hg : w.grownBy w1 vr.ownBlock) (hk : ∀ k, v'.ownBlock = some k → vr.ownBlock = some k ∨ w.heap.size ≤ k) :
    Mk (w1.setCell ⟨g, 2, none⟩ v') g q ve vs v' ll rl' F ∧ Gw (MkS g ve vr vs) w (MkS g ve v' vs) (w1.setCell ⟨g, 2, none⟩ v') := by
  have hlt := h.lt
  have hng := h.ne_g
  have hb1 := h.box.keep hg (.inr (fun e => hng.2.1 e.symm))
  obtain ⟨hb2, hg2⟩ := hb1.store 2 v'
  have hv'g : v'.ownBlock ≠ some g := fun e => (hk g e).elim hng.2.1 (fun z => by omega)
  have hrowg : ∀ i, i < ll.length → ∀ k, (vs.getD i undef).ownBlock = some k → some g ≠ some k := fun i hi k hk' e => (h.ne_row hi hk').2.1 (Option.some.inj e).symm
  have hmem : ∀ k, MkS g ve v' vs k → MkS g ve vr vs k ∨ w.heap.size ≤ k := by
    rintro k (rfl | h1 | h1 | ⟨i, hi, h1⟩)
    · exact .inl (.inl rfl)
    · exact .inl (.inr (.inl h1))
    · exact (hk k h1).imp (fun z => .inr (.inr (.inl z))) id
    · exact .inl (.inr (.inr (.inr ⟨i, hi, h1⟩)))
  refine ⟨⟨hb2, ?_, Nat.lt_of_lt_of_le h.hql (Nat.le_trans hg.size hg2.size), (h.outer.keep hg (ne_of_row fun k hk' e => h.ne_er k hk' e)).keep hg2 (.inr (fun e => hng.1 e)), h.len, fun i hi => ?_, ho.keep hg2 (.inr hv'g), ?_⟩, ?_⟩
  · rw [← h.hq]
    exact World.cell?_of_block (w := w) (by rw [hg2.block q (Nat.lt_of_lt_of_le h.hql hg.size) (fun e => hng.2.2 (Option.some.inj e)), hg.block q h.hql (fun e => h.ne_q.2.1 e.symm)])
  · exact ((h.rows i hi).keep hg (ne_of_row fun k hk' e => (h.ne_row hi hk').2.2.2.1 e)).keep hg2 (ne_of_row (hrowg i hi))
  · have e : mkL q g ve v' vs = (mkL q g ve vr vs).set 3 v'.ownBlock := by simp [mkL]
    rw [e]
    refine h.sep.set h.all fun k hk' => ?_
    exact (hk k hk').imp (fun z => by simp [mkL, z]) id
  · exact (gw_grown hg (fun k e => .inr (.inr (.inl e))) hmem).trans (gw_grown hg2 (fun k e => .inl (Option.some.inj e).symm) (fun k hk' => .inl hk'))
/-- a state's edges are replaced: they lie in the old ones' block or in a later one -/
theorem Mk.setRow {ge n cap : Nat} (h : Mk w g q (.slice (some ⟨ge, 0, none⟩) n cap) vs vr ll rl F) {i : Nat} (hi : i < ll.length) {r : Value} {xs : List Ed} (hr : OwnK 6 w1 0 92 r (xs.map edC)) (hg : w.grownBy w1 (vs.getD i undef).ownBlock) (hk : ∀ k, r.ownBlock = some k → (vs.getD i undef).ownBlock = some k ∨ w.heap.size ≤ k) :
    Mk (w1.setCell ⟨ge, i, none⟩ r) g q (.slice (some ⟨ge, 0, none⟩) n cap) (vs.set i r) vr (ll.set i xs) rl F ∧ Gw (MkS g (.slice (some ⟨ge, 0, none⟩) n cap) vr vs) w (MkS g (.slice (some ⟨ge, 0, none⟩) n cap) vr (vs.set i r)) (w1.setCell ⟨ge, i, none⟩ r) := by
  have hvi : i < vs.length := by rw [h.len]; exact hi
  have hgb := h.outer.blk.2
  have hown : (Value.slice (some ⟨ge, 0, none⟩) n cap).ownBlock = some ge := rfl
  have hnr := fun k (hk' : (vs.getD i undef).ownBlock = some k) => h.ne_row hi hk'
  have hng := h.ne_g
  have hnq := h.ne_q
  have ho := h.outer.keep hg (ne_of_row fun k hk' e => (hnr k e).2.2.1 hk')
  obtain ⟨ho2, hg2⟩ := ho.store i r
  have hrg : ∀ k, r.ownBlock = some k → k ≠ ge := fun k hk' e => (hk k hk').elim (fun z => (hnr k z).2.2.1 (by rw [e]; rfl)) (fun z => by omega)
  have hgeg : ge ≠ g := fun e => hng.1 (by rw [← e]; rfl)
  have hgeq : ge ≠ q := fun e => hnq.1 (by rw [← e]; rfl)
  have hmem : ∀ k, MkS g (.slice (some ⟨ge, 0, none⟩) n cap) vr (vs.set i r) k → MkS g (.slice (some ⟨ge, 0, none⟩) n cap) vr vs k ∨ w.heap.size ≤ k := by
    rintro k (rfl | h1 | h1 | ⟨j, hj, h1⟩)
    · exact .inl (.inl rfl)
    · exact .inl (.inr (.inl h1))
    · exact .inl (.inr (.inr (.inl h1)))
    · rw [List.length_set] at hj
      by_cases hij : i = j
      · subst hij
        rw [getD_set_self' hvi] at h1
        exact (hk k h1).imp (fun z => .inr (.inr (.inr ⟨i, hvi, z⟩))) id
      · rw [getD_set_ne' hij] at h1
        exact .inl (.inr (.inr (.inr ⟨j, hj, h1⟩)))
  refine ⟨⟨(h.box.keep hg (ne_of_row fun k hk' e => (hnr k e).2.1 (Option.some.inj hk').symm)).keep hg2 (.inr (fun e => hgeg (Option.some.inj e).symm)), ?_, Nat.lt_of_lt_of_le h.hql (Nat.le_trans hg.size hg2.size), ho2, by simp [h.len], fun j hj => ?_, (h.rules.keep hg (ne_of_row fun k hk' e => (hnr k e).2.2.2.1 hk')).keep hg2 (ne_of_row fun k hk' e => h.ne_er k e hk'), ?_⟩, ?_⟩
  · rw [← h.hq]
    exact World.cell?_of_block (w := w) (by rw [hg2.block q (Nat.lt_of_lt_of_le h.hql hg.size) (fun e => hgeq (Option.some.inj e).symm), hg.block q h.hql (fun e => (hnr q e.symm).1 rfl)])
  · rw [List.length_set] at hj
    by_cases hij : i = j
    · subst hij
      rw [getD_set_self' hvi, getD_set_self' hi]
      exact hr.keep hg2 (ne_of_row fun k hk' e => hrg k hk' (Option.some.inj e).symm)
    · rw [getD_set_ne' hij, getD_set_ne' hij]
      exact ((h.rows j hj).keep hg (ne_of_row fun k hk' e => (h.ne_row hj hk').2.2.2.2 i hi hij e)).keep hg2 (ne_of_row fun k hk' e => (h.ne_row hj hk').2.2.1 e)
  · have e : mkL q g (.slice (some ⟨ge, 0, none⟩) n cap) vr (vs.set i r) = (mkL q g (.slice (some ⟨ge, 0, none⟩) n cap) vr vs).set (i + 4) r.ownBlock := by simp [mkL, List.map_set]
    rw [e]
    refine h.sep.set h.all fun k hk' => ?_
    exact (hk k hk').imp (fun z => by rw [mkL_row _ _ _ _ _ i hvi, z]) id
  · exact (gw_grown hg (fun k e => .inr (.inr (.inr ⟨i, hvi, e⟩))) hmem).trans (gw_grown hg2 (fun k e => .inr (.inl (by rw [← e]; rfl))) (fun k hk' => .inl hk'))
/-- a state's rule is set -/
theorem Mk.setRule {gr n cap : Nat} (h : Mk w g q ve vs (.slice (some ⟨gr, 0, none⟩) n cap) ll rl F) (i : Nat) (x : Int) :
    Mk (w.setCell ⟨gr, i, none⟩ (.int .i64 x)) g q ve vs (.slice (some ⟨gr, 0, none⟩) n cap) ll (rl.set i x) F ∧ Gw (MkS g ve (.slice (some ⟨gr, 0, none⟩) n cap) vs) w (MkS g ve (.slice (some ⟨gr, 0, none⟩) n cap) vs) (w.setCell ⟨gr, i, none⟩ (.int .i64 x)) := by
  obtain ⟨ho2, hg2⟩ := h.rules.store i (.int .i64 x)
  have hng := h.ne_g
  have hnq := h.ne_q
  have hgg : gr ≠ g := fun e => hng.2.1 (by rw [← e]; rfl)
  have hgq : gr ≠ q := fun e => hnq.2.1 (by rw [← e]; rfl)
  refine ⟨⟨h.box.keep hg2 (.inr (fun e => hgg (Option.some.inj e).symm)), ?_, Nat.lt_of_lt_of_le h.hql hg2.size, h.outer.keep hg2 (ne_of_row fun k hk' e => h.ne_er k hk' e), h.len, fun j hj => (h.rows j hj).keep hg2 (ne_of_row fun k hk' e => (h.ne_row hj hk').2.2.2.1 e), ?_, h.sep⟩, gw_grown hg2 (fun k e => .inr (.inr (.inl (by rw [← e]; rfl)))) (fun k hk' => .inl hk')⟩
  · rw [← h.hq]
    exact World.cell?_of_block (w := w) (hg2.block q h.hql (fun e => hgq (Option.some.inj e).symm))
  · have e : (ints rl).set i (.int .i64 x) = ints (rl.set i x) := by simp [ints, List.map_set]
    rw [e] at ho2
    exact ho2
/-- the first state is set -/
theorem Mk.setF (h : Mk w g q ve vs vr ll rl F) (x : Int) : Mk (w.setCell ⟨g, 1, none⟩ (.int .i64 x)) g q ve vs vr ll rl x ∧ Gw (MkS g ve vr vs) w (MkS g ve vr vs) (w.setCell ⟨g, 1, none⟩ (.int .i64 x)) := by
  obtain ⟨ho2, hg2⟩ := h.box.store 1 (.int .i64 x)
  have hng := h.ne_g
  refine ⟨⟨ho2, ?_, Nat.lt_of_lt_of_le h.hql hg2.size, h.outer.keep hg2 (.inr (fun e => hng.1 e)), h.len, fun j hj => (h.rows j hj).keep hg2 (ne_of_row fun k hk' e => (h.ne_row hj hk').2.1 (Option.some.inj e).symm), h.rules.keep hg2 (.inr (fun e => hng.2.1 e)), h.sep⟩, gw_grown hg2 (fun k e => .inl (Option.some.inj e).symm) (fun k hk' => .inl hk')⟩
  rw [← h.hq]
  exact World.cell?_of_block (w := w) (hg2.block q h.hql (fun e => hng.2.2 (Option.some.inj e)))
end
end Go.Cm

/- The walks of the maker's small functions: a state, a free edge. Conditions: none. -/
namespace Go.Cm
open Go.RowKit Go.Proofs

/-- a maker whose blocks are S -/
def MkW (w : World) (S : Nat → Prop) (g q : Nat) (ll : List (List Ed)) (rl : List Int) (F : Int) : Prop := ∃ ve vs vr, Mk w g q ve vs vr ll rl F ∧ S = MkS g ve vr vs
theorem MkW.up {w w' : World} {S : Nat → Prop} {g q : Nat} {ll : List (List Ed)} {rl : List Int} {F : Int} (h : MkW w S g q ll rl F) (hb : Below w.heap.size w w') : MkW w' S g q ll rl F := by
  obtain ⟨ve, vs, vr, h1, h2⟩ := h
  exact ⟨ve, vs, vr, h1.up hb, h2⟩
theorem MkW.lt {w : World} {S : Nat → Prop} {g q : Nat} {ll : List (List Ed)} {rl : List Int} {F : Int} (h : MkW w S g q ll rl F) {k : Nat} (hk : S k) : k < w.heap.size := by
  obtain ⟨ve, vs, vr, h1, rfl⟩ := h
  exact h1.mlt hk

set_option maxRecDepth 100000 in
theorem stateP {w : World} {S : Nat → Prop} {g q : Nat} {ll : List (List Ed)} {rl : List Int} {F : Int} (h : MkW w S g q ll rl F) (hl : ll.length ≤ 1000000) (hr : rl.length ≤ 1000000) :
    Calls Try.prog 53 #[.pointer (some ⟨q, 0, none⟩)] w fun e w' => e = .returned (.int .i64 (ll.length : Nat)) ∧ ∃ S', MkW w' S' g q (ll ++ [[]]) (rl ++ [-1]) F ∧ Gw S w S' w' := by
  obtain ⟨ve, vs, vr, hm, rfl⟩ := h
  have HM := Lib.hid hm
  have hcq := hm.hq
  have hql := hm.hql
  have hc0 := hm.c0
  have hg := hm.lt
  have hf0 := hm.f 0
  have hne1 : some g ≠ ve.ownBlock := fun e => hm.ne_g.1 e.symm
  have hne2 : some q ≠ ve.ownBlock := fun e => hm.ne_q.1 e.symm
  obtain ⟨n, hn⟩ : ∃ n, n = ll.length := ⟨_, rfl⟩
  rw [← hn]
  have HN := Lib.hid hn
  have HVL := Lib.hid (hm.len.trans hn.symm)
  have hlW : Below w.heap.size w (w.alloc (.cells #[.slice none 0 0] 85)).drew := (by repeat (first | exact Below.refl _ _ | assumption | refine b_drewN ?_ _ | refine Below.drew ?_ | refine b_ext' ?_ _ | refine b_alloc' ?_ _))
  have HX : Hid (Sl (w.alloc (.cells #[.slice none 0 0] 85)).drew (.slice (some ⟨w.heap.size, 0, none⟩) 1 1) [.slice none 0 0]) := Lib.hid (by
        have h1 := (sl_lit w #[.slice none 0 0] 85 (by simp)).up (below_drewN _ 1)
        rw [← World.drew_is_drewN] at h1
        simpa using h1)
  have HT1 := Lib.hid (hm.outer.up hlW)
  have HMW := Lib.hid (hm.up hlW)
  have HLW := Lib.hid hlW
  have HT2 : Hid (∀ u ∈ [Value.slice none 0 0], u.oneCell' = true) := Lib.hid (by intro u hu; simp at hu; subst hu; rfl)
  have HT3 : Hid (vs.length + [Value.slice none 0 0].length ≤ 4294967296) := Lib.hid (by rw [HVL.out]; simp; omega)
  have hnB : n ≤ 1000000 := by omega
  clear hm hlW hn
  go_enter Try.func53, Try.ntmps53
  go_wp2
  refine wp_region_tail (fun w' => ∃ x, w' = chg w ve.ownBlock x) [0,1,2,3,4,5] [6,7,8,9,10] [11] (by kernel_rfl) (by kernel_rfl) (ex_chg (grown_drew _ _)) ?_
  simp only [pick, List.map_cons, List.map_nil, List.getD_cons_zero, List.getD_cons_succ]
  repeat (go_big_quiet_step (fail))
  refine wpQuiet_nil ?_
  (unfold wpAct; go_wp2; refine ⟨ex_chg (grown_below (by repeat (first | exact Below.refl _ _ | assumption | refine b_drewN ?_ _ | refine Below.drew ?_ | refine b_ext' ?_ _ | refine b_alloc' ?_ _)) _), ?_⟩)
  unfold wpAct
  go_wp2_with (at_builtin; refine wpList_app rfl (.tmp 7) (.tmp 8) 22 rfl 0 85 (.slice none 0 0) 24 Try.underlying22 (by kernel_rfl) rfl (by decide) ve vs rfl HT1.out (.slice (some ⟨w.heap.size, 0, none⟩) 1 1) [.slice none 0 0] rfl HX.out HT2.out HT3.out (Nat.zero_le _) ?_; intro v' w5 hown1 hg1 hk1; have HO1 := Lib.hid hown1; have HG1 := Lib.hid hg1; have HK1 := Lib.hid hk1; clear hown1 hg1 hk1)
  refine ⟨ex_chg (grown_trans (grown_below (by repeat (first | exact Below.refl _ _ | assumption | refine b_drewN ?_ _ | refine Below.drew ?_ | refine b_ext' ?_ _ | refine b_alloc' ?_ _)) _) HG1.out), ?_⟩
  (unfold wpAct; go_wp2; refine ⟨ex_chg (grown_trans (grown_below (by repeat (first | exact Below.refl _ _ | assumption | refine b_drewN ?_ _ | refine Below.drew ?_ | refine b_ext' ?_ _ | refine b_alloc' ?_ _)) _) HG1.out), ?_⟩)
  (unfold wpAct; go_wp2; refine ⟨ex_chg (grown_trans (grown_below (by repeat (first | exact Below.refl _ _ | assumption | refine b_drewN ?_ _ | refine Below.drew ?_ | refine b_ext' ?_ _ | refine b_alloc' ?_ _)) _) HG1.out), ?_⟩)
  (unfold wpAct; go_wp2; refine ⟨ex_chg (grown_trans (grown_below (by repeat (first | exact Below.refl _ _ | assumption | refine b_drewN ?_ _ | refine Below.drew ?_ | refine b_ext' ?_ _ | refine b_alloc' ?_ _)) _) HG1.out), ?_⟩)
  have HPU := Lib.hid (HMW.out.pushE HO1.out HG1.out HK1.out)
  have hb5 := HMW.out.box.keep HG1.out (.inr hne1)
  have hc05 : w5.cell? ⟨g, 0, none⟩ = some ve := hb5.cell (by simp)
  have hf05 : w5.frozen? ⟨g, 0, none⟩ = false := hb5.free 0
  have hg5 : g < w5.heap.size := hb5.blk.2
  have HGW : Hid (Gw (MkS g ve vr vs) w (MkS g ve vr vs) (w.alloc (.cells #[.slice none 0 0] 85)).drew) := Lib.hid (gw_below _ HLW.out)
  obtain ⟨o5, c5, g5, hv5, -⟩ := HO1.out.cases
  subst hv5
  clear hb5 hcq hql hc0 hg hf0 hne1 hne2 HM HX HT1 HMW HLW HT2 HT3 HO1 HG1 HK1
  have hlv : (vs ++ [Value.slice none 0 0]).length = n + 1 := by rw [List.length_append, HVL.out]; rfl
  rw [hlv] at HPU ⊢
  clear hlv
  unfold wpAct
  unfold wpAct
  go_wp2
  refine ⟨trivial, ?_⟩
  unfold wpAct
  have hm2 := HPU.out.1
  have HG2 := Lib.hid (HGW.out.trans HPU.out.2)
  clear HPU HGW hc05 hf05 hg5
  generalize w5.setCell ⟨g, 0, none⟩ (.slice o5 (n + 1) c5) = w6 at *
  have hcq := hm2.hq
  have hql := hm2.hql
  have hc2 := hm2.c2
  have hg := hm2.lt
  have hf2 := hm2.f 2
  have hne1 : some g ≠ vr.ownBlock := fun e => hm2.ne_g.2.1 e.symm
  have hne2 : some q ≠ vr.ownBlock := fun e => hm2.ne_q.2.1 e.symm
  have hlW : Below w6.heap.size w6 (w6.alloc (.cells #[.int .i64 (-1)] 3)).drew := (by repeat (first | exact Below.refl _ _ | assumption | refine b_drewN ?_ _ | refine Below.drew ?_ | refine b_ext' ?_ _ | refine b_alloc' ?_ _))
  have HX : Hid (Sl (w6.alloc (.cells #[.int .i64 (-1)] 3)).drew (.slice (some ⟨w6.heap.size, 0, none⟩) 1 1) (ints [-1])) := Lib.hid (by
        have h1 := (sl_lit w6 #[.int .i64 (-1)] 3 (by simp)).up (below_drewN _ 1)
        rw [← World.drew_is_drewN] at h1
        simpa [ints] using h1)
  have HT1 := Lib.hid (hm2.rules.up hlW)
  have HMW := Lib.hid (hm2.up hlW)
  have HLW := Lib.hid hlW
  have HT2 : Hid (∀ u ∈ ints [-1], u.oneCell' = true) := Lib.hid (by intro u hu; simp [ints] at hu; subst hu; rfl)
  have HT3 : Hid ((ints rl).length + (ints [-1]).length ≤ 4294967296) := Lib.hid (by simp; omega)
  clear hm2 hlW
  go_wp2
  refine wp_region_tail (fun w' => ∃ x, w' = chg w6 vr.ownBlock x) [0,1,2,3,4,5] [6,7,8,9,10] [11] (by kernel_rfl) (by kernel_rfl) (ex_chg (grown_drew _ _)) ?_
  simp only [pick, List.map_cons, List.map_nil, List.getD_cons_zero, List.getD_cons_succ]
  repeat (go_big_quiet_step (fail))
  refine wpQuiet_nil ?_
  (unfold wpAct; go_wp2; refine ⟨ex_chg (grown_below (by repeat (first | exact Below.refl _ _ | assumption | refine b_drewN ?_ _ | refine Below.drew ?_ | refine b_ext' ?_ _ | refine b_alloc' ?_ _)) _), ?_⟩)
  unfold wpAct
  go_wp2_with (at_builtin; refine wpList_app rfl (.tmp 18) (.tmp 19) 23 rfl 0 3 (.int .i64 0) 8 Try.underlying23 (by kernel_rfl) rfl (by decide) vr (ints rl) rfl HT1.out (.slice (some ⟨w6.heap.size, 0, none⟩) 1 1) (ints [-1]) rfl HX.out HT2.out HT3.out (Nat.zero_le _) ?_; intro v' w7 hown1 hg1 hk1; have HO1 := Lib.hid hown1; have HG1 := Lib.hid hg1; have HK1 := Lib.hid hk1; clear hown1 hg1 hk1)
  refine ⟨ex_chg (grown_trans (grown_below (by repeat (first | exact Below.refl _ _ | assumption | refine b_drewN ?_ _ | refine Below.drew ?_ | refine b_ext' ?_ _ | refine b_alloc' ?_ _)) _) HG1.out), ?_⟩
  (unfold wpAct; go_wp2; refine ⟨ex_chg (grown_trans (grown_below (by repeat (first | exact Below.refl _ _ | assumption | refine b_drewN ?_ _ | refine Below.drew ?_ | refine b_ext' ?_ _ | refine b_alloc' ?_ _)) _) HG1.out), ?_⟩)
  (unfold wpAct; go_wp2; refine ⟨ex_chg (grown_trans (grown_below (by repeat (first | exact Below.refl _ _ | assumption | refine b_drewN ?_ _ | refine Below.drew ?_ | refine b_ext' ?_ _ | refine b_alloc' ?_ _)) _) HG1.out), ?_⟩)
  (unfold wpAct; go_wp2; refine ⟨ex_chg (grown_trans (grown_below (by repeat (first | exact Below.refl _ _ | assumption | refine b_drewN ?_ _ | refine Below.drew ?_ | refine b_ext' ?_ _ | refine b_alloc' ?_ _)) _) HG1.out), ?_⟩)
  have HO2 : Hid (Own w7 0 3 v' (ints (rl ++ [-1]))) := Lib.hid (by have := HO1.out; simpa [ints] using this)
  have HPU := Lib.hid (HMW.out.pushR HO2.out HG1.out HK1.out)
  have hb5 := HMW.out.box.keep HG1.out (.inr hne1)
  have hc05 : w7.cell? ⟨g, 2, none⟩ = some vr := hb5.cell (by simp)
  have hf05 : w7.frozen? ⟨g, 2, none⟩ = false := hb5.free 2
  have hg5 : g < w7.heap.size := hb5.blk.2
  have HGW : Hid (Gw (MkS g (.slice o5 (n + 1) c5) vr (vs ++ [.slice none 0 0])) w6 (MkS g (.slice o5 (n + 1) c5) vr (vs ++ [.slice none 0 0])) (w6.alloc (.cells #[.int .i64 (-1)] 3)).drew) := Lib.hid (gw_below _ HLW.out)
  obtain ⟨o7, c7, g7, hv7, -⟩ := HO2.out.cases
  subst hv7
  clear hb5 hcq hql hc2 hg hf2 hne1 hne2 HX HT1 HMW HLW HT2 HT3 HO1 HG1 HK1 HO2
  generalize (ints (rl ++ [-1])).length = l7 at *
  unfold wpAct
  unfold wpAct
  go_wp2
  refine ⟨trivial, ?_⟩
  unfold wpAct
  have hm3 := HPU.out.1
  have HG3 := Lib.hid (HG2.out.trans (HGW.out.trans HPU.out.2))
  clear HPU HGW hc05 hf05 hg5 HG2
  generalize w7.setCell ⟨g, 2, none⟩ (.slice o7 l7 c7) = w8 at *
  have hcq := hm3.hq
  have hql := hm3.hql
  have hc0 := hm3.c0
  have hg := hm3.lt
  have HM3 := Lib.hid hm3
  clear hm3
  go_wp2
  go_ret
  exact ⟨rfl, _, ⟨_, _, _, HM3.out, rfl⟩, HG3.out⟩

/-- a further edge of a state -/
def addE (ll : List (List Ed)) (i : Nat) (e : Ed) : List (List Ed) := ll.set i (ll.getD i [] ++ [e])
theorem addE_length (ll : List (List Ed)) (i : Nat) (e : Ed) : (addE ll i e).length = ll.length := by simp [addE]
def frE (to : Int) : Ed := ⟨to, true, 0, 0, 0, 0⟩
set_option maxRecDepth 100000 in
theorem freeP {w : World} {S : Nat → Prop} {g q : Nat} {ll : List (List Ed)} {rl : List Int} {F : Int} (h : MkW w S g q ll rl F) (i : Nat) (to : Int) (hi : i < ll.length) (hr : (ll.getD i []).length ≤ 1000000) (hl : ll.length ≤ 1000000) :
    Calls Try.prog 54 #[.int .i64 i, .int .i64 to, .pointer (some ⟨q, 0, none⟩)] w fun e w' => e = .returned (.tuple #[]) ∧ ∃ S', MkW w' S' g q (addE ll i (frE to)) rl F ∧ Gw S w S' w' := by
  obtain ⟨ve, vs, vr, hm, rfl⟩ := h
  have hvl := hm.len
  obtain ⟨oa, cap, ge, rfl, hdo, -, hco, hfo, -⟩ := hm.outer.cases
  have hoa := hdo.hat (by omega)
  subst hoa
  have hix := fun (W : World) => index_any (P := Try.prog) 22 85 Try.underlying22 (by kernel_rfl) hdo W .i64 i (by omega) (by omega)
  simp only [Int.toNat_natCast, Nat.zero_add] at hix
  have hcr := hco i (by omega)
  have hgel := hdo.hblk (by omega)
  have HM := Lib.hid hm
  have hcq := hm.hq
  have hql := hm.hql
  have hc0 := hm.c0
  have hg := hm.lt
  obtain ⟨r, hrv⟩ : ∃ r, r = vs.getD i undef := ⟨_, rfl⟩
  have hnr := fun k (hk' : (vs.getD i undef).ownBlock = some k) => hm.ne_row hi hk'
  have hrow := hm.rows i hi
  rw [← hrv] at hnr hcr hrow
  have hne1 : some g ≠ r.ownBlock := fun e => (hnr g e.symm).2.1 rfl
  have hne2 : some q ≠ r.ownBlock := fun e => (hnr q e.symm).1 rfl
  have hne3 : some ge ≠ r.ownBlock := fun e => (hnr ge e.symm).2.2.1 rfl
  have hlW : Below w.heap.size w (w.alloc (.cells #[.int .i64 to, .bool true, .int .u64 0, .int .u64 0, .int .u64 0, .int .u64 0] 92)).drew := (by repeat (first | exact Below.refl _ _ | assumption | refine b_drewN ?_ _ | refine Below.drew ?_ | refine b_ext' ?_ _ | refine b_alloc' ?_ _))
  have HX : Hid (SlK 6 (w.alloc (.cells #[.int .i64 to, .bool true, .int .u64 0, .int .u64 0, .int .u64 0, .int .u64 0] 92)).drew (.slice (some ⟨w.heap.size, 0, none⟩) 1 1) ([frE to].map edC)) := Lib.hid (by
        have h1 := (slK_lit 6 w #[.int .i64 to, .bool true, .int .u64 0, .int .u64 0, .int .u64 0, .int .u64 0] 92 ([frE to].map edC) (by simp [edC, frE]) (edC_len _) (by simp)).up (below_drewN _ 1)
        rw [← World.drew_is_drewN] at h1
        simpa using h1)
  have HT1 := Lib.hid (hrow.up hlW)
  have HMW := Lib.hid (hm.up hlW)
  have HLW := Lib.hid hlW
  have HT2 : Hid (∀ u ∈ ([frE to].map edC).flatten, u.oneCell' = true) := Lib.hid (by intro u hu; simp [edC, frE] at hu; rcases hu with rfl | rfl | rfl <;> rfl)
  have HT3 : Hid (((ll.getD i []).map edC).length + ([frE to].map edC).length ≤ 1000000000) := Lib.hid (by simp only [List.length_map, List.length_singleton]; omega)
  have HRV := Lib.hid hrv
  have HI := Lib.hid hi
  have hvl2 : vs.length ≤ 1000000 := by omega
  clear hm hlW hrv hnr hrow hdo hco hfo hi hr hl hvl
  go_enter Try.func54, Try.ntmps54
  go_wp2
  refine wp_region_tail (fun w' => ∃ x, w' = chg w r.ownBlock x) [0,1,2,3,4,5,6,7,8,9,10,11,12,13,14,15] [16,17,18] [19] (by kernel_rfl) (by kernel_rfl) (ex_chg (grown_drew _ _)) ?_
  simp only [pick, List.map_cons, List.map_nil, List.getD_cons_zero, List.getD_cons_succ]
  repeat (go_big_quiet_step (fail))
  refine wpQuiet_nil ?_
  (unfold wpAct; go_wp2; refine ⟨ex_chg (grown_below (by repeat (first | exact Below.refl _ _ | assumption | refine b_drewN ?_ _ | refine Below.drew ?_ | refine b_ext' ?_ _ | refine b_alloc' ?_ _)) _), ?_⟩)
  unfold wpAct
  go_wp2_with (at_builtin; refine wpList_appK 6 rfl (.tmp 18) (.tmp 21) 85 rfl 0 92 (.agg #[.int .i64 0, .bool false, .int .u64 0, .int .u64 0, .int .u64 0, .int .u64 0]) 48 Try.underlying85 (by kernel_rfl) rfl (by decide) (by decide) r ((ll.getD i []).map edC) rfl HT1.out (.slice (some ⟨w.heap.size, 0, none⟩) 1 1) ([frE to].map edC) rfl HX.out (edC_len _) HT2.out HT3.out (Nat.zero_le _) ?_; intro v' w5 hown1 hg1 hk1; have HO1 := Lib.hid hown1; have HG1 := Lib.hid hg1; have HK1 := Lib.hid hk1; clear hown1 hg1 hk1)
  refine ⟨ex_chg (grown_trans (grown_below (by repeat (first | exact Below.refl _ _ | assumption | refine b_drewN ?_ _ | refine Below.drew ?_ | refine b_ext' ?_ _ | refine b_alloc' ?_ _)) _) HG1.out), ?_⟩
  (unfold wpAct; go_wp2; refine ⟨ex_chg (grown_trans (grown_below (by repeat (first | exact Below.refl _ _ | assumption | refine b_drewN ?_ _ | refine Below.drew ?_ | refine b_ext' ?_ _ | refine b_alloc' ?_ _)) _) HG1.out), ?_⟩)
  have HO2 : Hid (OwnK 6 w5 0 92 v' ((ll.getD i [] ++ [frE to]).map edC)) := Lib.hid (by have := HO1.out; rwa [← List.map_append] at this)
  have HG2 := HG1
  have HK2 := HK1
  rw [HRV.out] at HG2 HK2
  have HPU := Lib.hid (HMW.out.setRow HI.out HO2.out HG2.out HK2.out)
  have HGW : Hid (Gw (MkS g (.slice (some ⟨ge, 0, none⟩) vs.length cap) vr vs) w (MkS g (.slice (some ⟨ge, 0, none⟩) vs.length cap) vr vs) (w.alloc (.cells #[.int .i64 to, .bool true, .int .u64 0, .int .u64 0, .int .u64 0, .int .u64 0] 92)).drew) := Lib.hid (gw_below _ HLW.out)
  have hb5 := HMW.out.outer.keep HG1.out (.inr hne3)
  have hvi : i < vs.length := by have := HM.out.len; have := HI.out; omega
  have hc05 : w5.cell? ⟨ge, i, none⟩ = some (vs.getD i undef) := hb5.cell hvi
  have hf05 : w5.frozen? ⟨ge, i, none⟩ = false := hb5.free i
  have hg5 : ge < w5.heap.size := hb5.blk.2
  obtain ⟨o5, c5, b5, f5, hv5, -⟩ := HO1.out.sl
  subst hv5
  clear hb5 hcq hql hc0 hg hne1 hne2 hne3 hcr HX HT1 HMW HLW HT2 HT3 HO1 HG1 HK1 HO2 HG2 HK2
  generalize (List.map edC (ll.getD i []) ++ List.map edC [frE to]).length = l5 at *
  unfold wpAct
  unfold wpAct
  go_wp2
  refine ⟨trivial, ?_⟩
  unfold wpAct
  go_wp2
  go_end0
  exact ⟨rfl, _, ⟨_, _, _, HPU.out.1, rfl⟩, HGW.out.trans HPU.out.2⟩
end Go.Cm

/- What the maker lays of trees, in plain Lean: states, edges, pieces; how many. Conditions: none. -/
namespace Go.Cm

structure St where
  e : List (List Ed)
  r : List Int
structure Pc where
  f : Nat
  l : Nat
def frEd (to : Int) : Ed := ⟨to, true, 0, 0, 0, 0⟩
def addEd (ll : List (List Ed)) (i : Nat) (e : Ed) : List (List Ed) := ll.set i (ll.getD i [] ++ [e])
def newS (s : St) : St := ⟨s.e ++ [[]], s.r ++ [-1]⟩
def freeS (i to : Nat) (s : St) : St := ⟨addEd s.e i (frEd to), s.r⟩
def two (s : St) : St := newS (newS s)
def aroundP (s : St) : Pc := ⟨s.e.length, s.e.length + 1⟩
def setEd (x : Nd) (to : Nat) : Ed := ⟨to, decide (x.kd = 2), x.a, x.b, x.c, x.d⟩
def leafS (x : Nd) (s : St) : St := ⟨(two s).e.set s.e.length [setEd x (s.e.length + 1)], (two s).r⟩
def iff (b : Bool) (f : St → St) (s : St) : St := if b then f s else s
def loopS (out again : Bool) (q : Pc) (s : St) : St :=
  let p := aroundP s
  iff again (freeS q.l q.f) (iff out (freeS p.f p.l) (freeS q.l p.l (freeS p.f q.f (two s))))
def zP : Pc := ⟨0, 0⟩
def chainS (ps : List Pc) : Nat → St → St
  | 0, s => s
  | i + 1, s => iff (decide (0 < i)) (freeS (ps.getD (i - 1) zP).l (ps.getD i zP).f) (chainS ps i s)
def chainP (ps : List Pc) : Pc := ⟨(ps.getD 0 zP).f, (ps.getD (ps.length - 1) zP).l⟩
def altS (p : Pc) (ps : List Pc) : Nat → St → St
  | 0, s => s
  | i + 1, s => freeS (ps.getD i zP).l p.l (freeS p.f (ps.getD i zP).f (altS p ps i s))
/-- a round of a repeat -/
def repStep (x : Nd) (t : Nat) (p : Pc) (part : St → Pc × St) (i : Nat) (y : Nat × St) : Nat × St :=
  let qs := part y.2
  (qs.1.l, iff (decide (x.hi < 0 ∧ i + 1 = t)) (freeS qs.1.l qs.1.f) (iff (decide (x.lo ≤ i + 1)) (freeS qs.1.l p.l) (freeS y.1 qs.1.f qs.2)))
def repN (x : Nd) (t : Nat) (p : Pc) (part : St → Pc × St) (s : St) : Nat → Nat × St
  | 0 => (p.f, s)
  | i + 1 => repStep x t p part i (repN x t p part s i)
def repS (x : Nd) (part : St → Pc × St) (s : St) : Pc × St :=
  let p := aroundP s
  (p, (repN x (timesN x).toNat p part (iff (decide (x.lo = 0)) (freeS p.f p.l) (two s)) (timesN x).toNat).2)
def headP (y : List Pc × St) : Pc × St := (y.1.getD 0 zP, y.2)
/-- a node, of which the kids are laid by K -/
def nodeS (x : Nd) (K : St → List Pc × St) (s : St) : Pc × St :=
  if x.kd = 1 ∨ x.kd = 2 then (aroundP s, leafS x s)
  else if x.kd = 8 then repS x (fun s => headP (K s)) s
  else if x.kd = 5 ∨ x.kd = 6 ∨ x.kd = 7 then (aroundP (K s).2, loopS (decide (x.kd ≠ 6)) (decide (x.kd ≠ 7)) (headP (K s)).1 (K s).2)
  else if x.kd = 3 then (chainP (K s).1, chainS (K s).1 (K s).1.length (K s).2)
  else (aroundP (K s).2, altS (aroundP (K s).2) (K s).1 (K s).1.length (two (K s).2))
def layF : Fo → St → List Pc × St
  | .nil, s => ([], s)
  | .cons x k r, s =>
    let y := nodeS x (fun s => layF k s) s
    let z := layF r y.2
    (y.1 :: z.1, z.2)

/-- how many states a forest has -/
def unodeN (x : Nd) (u : Nat) : Nat := if x.kd = 1 ∨ x.kd = 2 then 2 else if x.kd = 4 ∨ x.kd = 5 ∨ x.kd = 6 ∨ x.kd = 7 then u + 2 else if x.kd = 8 then 2 + (timesN x).toNat * u else u
def usz : Fo → Nat
  | .nil => 0
  | .cons x k r => unodeN x (usz k) + usz r
theorem usz_size : ∀ f, allF okN f → (sizeF f = usz f ∨ (1000000 ≤ sizeF f ∧ 1000000 ≤ (usz f : Int)))
  | .nil, _ => .inl rfl
  | .cons x k r, h => by
    have hk := usz_size k h.2.1
    have hr := usz_size r h.2.2
    have h0 := (sizeF_le r h.2.2).1
    have key : sizeN x (sizeF k) = unodeN x (usz k) ∨ (1000000 ≤ sizeN x (sizeF k) ∧ 1000000 ≤ (unodeN x (usz k) : Int)) := by
      have hok := okN_kd' h.1
      unfold sizeN unodeN
      by_cases h12 : x.kd = 1 ∨ x.kd = 2
      · rw [if_pos h12, if_pos h12]; left; rfl
      rw [if_neg h12, if_neg h12]
      by_cases h47 : x.kd = 4 ∨ x.kd = 5 ∨ x.kd = 6 ∨ x.kd = 7
      · rw [if_pos h47, if_pos h47]; push_cast; omega
      rw [if_neg h47, if_neg h47]
      by_cases h8 : x.kd = 8
      · rw [if_pos h8, if_pos h8]
        have ht := timesN_le h.1 h8
        obtain ⟨t, ht'⟩ : ∃ t : Nat, timesN x = t := ⟨(timesN x).toNat, by omega⟩
        rw [ht'] at ht ⊢
        simp only [Int.toNat_natCast]
        push_cast
        rcases hk with hk | ⟨hk1, hk2⟩
        · rw [hk]
          have : (0 : Int) ≤ (t : Int) * (usz k : Int) := Int.mul_nonneg (by omega) (by omega)
          omega
        · rcases Nat.eq_zero_or_pos t with h | h
          · subst h; left; simp; omega
          · have e1 : (1 : Int) * sizeF k ≤ t * sizeF k := Int.mul_le_mul_of_nonneg_right (by omega) (by omega)
            have e2 : (1 : Int) * (usz k : Int) ≤ t * (usz k : Int) := Int.mul_le_mul_of_nonneg_right (by omega) (by omega)
            omega
      · rw [if_neg h8, if_neg h8]; omega
    simp only [sizeF, usz]
    push_cast
    omega
where
  okN_kd' {x : Nd} (h : okN x) : x.kd = 1 ∨ x.kd = 2 ∨ x.kd = 3 ∨ x.kd = 4 ∨ x.kd = 5 ∨ x.kd = 6 ∨ x.kd = 7 ∨ x.kd = 8 := by unfold okN at h; omega
theorem usz_eq {f : Fo} (h : allF okN f) (hs : sizeF f ≤ 10000) : sizeF f = usz f := by
  rcases usz_size f h with h1 | ⟨h1, h2⟩
  · exact h1
  · omega

def tot (ll : List (List Ed)) : Nat := (ll.map List.length).sum
theorem tot_set (ll : List (List Ed)) : ∀ (i : Nat) (r : List Ed), tot (ll.set i r) + (ll.getD i []).length ≤ tot ll + r.length := by
  induction ll with
  | nil => intro i r; simp [tot, List.getD]
  | cons x l ih =>
    intro i r
    cases i with
    | zero => simp [tot, List.getD]; omega
    | succ i =>
      have h := ih i r
      simp only [tot, List.set_cons_succ, List.map_cons, List.sum_cons, List.getD_cons_succ] at h ⊢
      omega
theorem tot_add (ll : List (List Ed)) (i : Nat) (e : Ed) : tot (addEd ll i e) ≤ tot ll + 1 := by
  have h := tot_set ll i (ll.getD i [] ++ [e])
  rw [List.length_append, List.length_singleton] at h
  unfold addEd; omega
theorem tot_snoc (ll : List (List Ed)) : tot (ll ++ [[]]) = tot ll := by simp [tot]
theorem row_le_tot (ll : List (List Ed)) (i : Nat) : (ll.getD i []).length ≤ tot ll := by
  have h := tot_set ll i []
  simp only [List.length_nil] at h; omega
theorem addEd_len (ll : List (List Ed)) (i : Nat) (e : Ed) : (addEd ll i e).length = ll.length := by simp [addEd]
@[simp] theorem freeS_len (i to : Nat) (s : St) : (freeS i to s).e.length = s.e.length := addEd_len _ _ _
@[simp] theorem freeS_r (i to : Nat) (s : St) : (freeS i to s).r = s.r := rfl
theorem freeS_tot (i to : Nat) (s : St) : tot (freeS i to s).e ≤ tot s.e + 1 := tot_add _ _ _
@[simp] theorem two_len (s : St) : (two s).e.length = s.e.length + 2 := by simp [two, newS]
@[simp] theorem two_r (s : St) : (two s).r.length = s.r.length + 2 := by simp [two, newS]
@[simp] theorem two_tot (s : St) : tot (two s).e = tot s.e := by simp [two, newS, tot]
@[simp] theorem leaf_len (x : Nd) (s : St) : (leafS x s).e.length = s.e.length + 2 := by simp [leafS]
@[simp] theorem leaf_r (x : Nd) (s : St) : (leafS x s).r.length = s.r.length + 2 := by simp [leafS]
theorem leaf_tot (x : Nd) (s : St) : tot (leafS x s).e ≤ tot s.e + 1 := by
  have h := tot_set (two s).e s.e.length [setEd x (s.e.length + 1)]
  rw [two_tot] at h
  simp only [leafS]
  simp only [List.length_singleton] at h
  omega
theorem iff_len (b : Bool) (f : St → St) (s : St) (h : (f s).e.length = s.e.length) : (iff b f s).e.length = s.e.length := by unfold iff; split <;> simp [h]
theorem iff_r (b : Bool) (f : St → St) (s : St) (h : (f s).r = s.r) : (iff b f s).r = s.r := by unfold iff; split <;> simp [h]
theorem iff_tot (b : Bool) (f : St → St) (s : St) (h : tot (f s).e ≤ tot s.e + 1) : tot (iff b f s).e ≤ tot s.e + 1 := by unfold iff; split <;> omega
@[simp] theorem iffree_len (b : Bool) (i to : Nat) (s : St) : (iff b (freeS i to) s).e.length = s.e.length := iff_len _ _ _ (freeS_len _ _ _)
@[simp] theorem iffree_r (b : Bool) (i to : Nat) (s : St) : (iff b (freeS i to) s).r = s.r := iff_r _ _ _ rfl
theorem iffree_tot (b : Bool) (i to : Nat) (s : St) : tot (iff b (freeS i to) s).e ≤ tot s.e + 1 := iff_tot _ _ _ (freeS_tot _ _ _)
@[simp] theorem chain_len (ps : List Pc) (s : St) : ∀ i, (chainS ps i s).e.length = s.e.length
  | 0 => rfl
  | i + 1 => by simp [chainS, chain_len ps s i]
@[simp] theorem chain_r (ps : List Pc) (s : St) : ∀ i, (chainS ps i s).r = s.r
  | 0 => rfl
  | i + 1 => by simp [chainS, chain_r ps s i]
theorem chain_tot (ps : List Pc) (s : St) : ∀ i, tot (chainS ps i s).e ≤ tot s.e + (i - 1)
  | 0 => by simp [chainS]
  | 1 => by simp [chainS, iff]
  | i + 2 => by
    have h1 := chain_tot ps s (i + 1)
    have h2 := iffree_tot (decide (0 < i + 1)) (ps.getD (i + 1 - 1) zP).l (ps.getD (i + 1) zP).f (chainS ps (i + 1) s)
    rw [chainS]; omega
@[simp] theorem alt_len (p : Pc) (ps : List Pc) (s : St) : ∀ i, (altS p ps i s).e.length = s.e.length
  | 0 => rfl
  | i + 1 => by simp [altS, alt_len p ps s i]
@[simp] theorem alt_r (p : Pc) (ps : List Pc) (s : St) : ∀ i, (altS p ps i s).r = s.r
  | 0 => rfl
  | i + 1 => by simp [altS, alt_r p ps s i]
theorem alt_tot (p : Pc) (ps : List Pc) (s : St) : ∀ i, tot (altS p ps i s).e ≤ tot s.e + 2 * i
  | 0 => by simp [altS]
  | i + 1 => by
    have h1 := alt_tot p ps s i
    have h2 := freeS_tot p.f (ps.getD i zP).f (altS p ps i s)
    have h3 := freeS_tot (ps.getD i zP).l p.l (freeS p.f (ps.getD i zP).f (altS p ps i s))
    rw [altS]; omega
@[simp] theorem loop_len (o a : Bool) (q : Pc) (s : St) : (loopS o a q s).e.length = s.e.length + 2 := by simp [loopS]
@[simp] theorem loop_r (o a : Bool) (q : Pc) (s : St) : (loopS o a q s).r.length = s.r.length + 2 := by simp [loopS]
theorem loop_tot (o a : Bool) (q : Pc) (s : St) : tot (loopS o a q s).e ≤ tot s.e + 4 := by
  unfold loopS
  dsimp only
  have h1 := freeS_tot (aroundP s).f q.f (two s)
  have h2 := freeS_tot q.l (aroundP s).l (freeS (aroundP s).f q.f (two s))
  have h3 := iffree_tot o (aroundP s).f (aroundP s).l (freeS q.l (aroundP s).l (freeS (aroundP s).f q.f (two s)))
  have h4 := iffree_tot a q.l q.f (iff o (freeS (aroundP s).f (aroundP s).l) (freeS q.l (aroundP s).l (freeS (aroundP s).f q.f (two s))))
  rw [two_tot] at h1
  omega

/-- what laying leaves: c pieces, u states -/
structure LayOk (s : St) (y : List Pc × St) (u c : Nat) : Prop where
  len : y.2.e.length = s.e.length + u
  rlen : y.2.r.length = s.r.length + u
  plen : y.1.length = c
  rng : ∀ i, i < c → (y.1.getD i zP).f < y.2.e.length ∧ (y.1.getD i zP).l < y.2.e.length
  tot : tot y.2.e + 3 * c ≤ tot s.e + 2 * u
  two : 2 * c ≤ u
structure RepOk (s : St) (u : Nat) (i : Nat) (y : Nat × St) : Prop where
  len : y.2.e.length = s.e.length + 2 + i * u
  rlen : y.2.r.length = s.r.length + 2 + i * u
  at_ : y.1 < y.2.e.length
  tot : tot y.2.e ≤ tot s.e + 1 + i * (2 * u)
theorem rep_ok (x : Nd) (t : Nat) (part : St → Pc × St) (u : Nat) (hp : ∀ s, LayOk s ([(part s).1], (part s).2) u 1) (s : St) : ∀ i, RepOk s u i (repN x t (aroundP s) part (iff (decide (x.lo = 0)) (freeS (aroundP s).f (aroundP s).l) (two s)) i)
  | 0 => by
    refine ⟨by simp [repN], by simp [repN], by simp [repN, aroundP], ?_⟩
    have := iffree_tot (decide (x.lo = 0)) (aroundP s).f (aroundP s).l (two s)
    rw [two_tot] at this
    simp only [repN]; omega
  | i + 1 => by
    have h := rep_ok x t part u hp s i
    simp only [repN, repStep]
    generalize repN x t (aroundP s) part (iff (decide (x.lo = 0)) (freeS (aroundP s).f (aroundP s).l) (two s)) i = y at *
    have hq := hp y.2
    have h1 := hq.len
    have h2 := hq.rlen
    have h3 := hq.rng 0 (by omega)
    have h4 := hq.tot
    simp only [List.getD_cons_zero] at h1 h2 h3 h4
    have e : (i + 1) * u = i * u + u := by rw [Nat.add_mul, Nat.one_mul]
    have e2 : (i + 1) * (2 * u) = i * (2 * u) + 2 * u := by rw [Nat.add_mul, Nat.one_mul]
    refine ⟨?_, ?_, ?_, ?_⟩
    · simp only [iffree_len, freeS_len]; rw [h1, h.len, e]; omega
    · simp only [iffree_r, freeS_r]; rw [h2, h.rlen, e]; omega
    · simp only [iffree_len, freeS_len]; exact h3.2
    · have a1 := freeS_tot y.1 (part y.2).1.f (part y.2).2
      have a2 := iffree_tot (decide (x.lo ≤ (i : Int) + 1)) (part y.2).1.l (aroundP s).l (freeS y.1 (part y.2).1.f (part y.2).2)
      have a3 := iffree_tot (decide (x.hi < 0 ∧ i + 1 = t)) (part y.2).1.l (part y.2).1.f (iff (decide (x.lo ≤ (i : Int) + 1)) (freeS (part y.2).1.l (aroundP s).l) (freeS y.1 (part y.2).1.f (part y.2).2))
      have a4 := h.tot
      rw [e2]
      simp only
      omega
theorem node_ok (x : Nd) (K : St → List Pc × St) (u c : Nat) (hx : okN x) (hc : x.n = c) (hK : ∀ s, LayOk s (K s) u c) (s : St) : LayOk s ([(nodeS x K s).1], (nodeS x K s).2) (unodeN x u) 1 := by
  have hone : ∀ (p : Pc) (m : Nat), p.f < m → p.l < m → ∀ i, i < 1 → (([p] : List Pc).getD i zP).f < m ∧ (([p] : List Pc).getD i zP).l < m := fun p m h1 h2 i hi => by
    obtain rfl : i = 0 := by omega
    exact ⟨h1, h2⟩
  have hk := hK s
  have k1 := hk.len
  have k2 := hk.rlen
  have k3 := hk.plen
  have k4 := hk.rng
  have k5 := hk.tot
  have k6 := hk.two
  unfold okN at hx
  unfold nodeS unodeN
  by_cases h12 : x.kd = 1 ∨ x.kd = 2
  · rw [if_pos h12, if_pos h12]
    have := leaf_tot x s
    exact ⟨by simp, by simp, rfl, hone _ _ (by simp [aroundP]) (by simp [aroundP]), by simp only; omega, by omega⟩
  rw [if_neg h12, if_neg h12]
  by_cases h8 : x.kd = 8
  · rw [if_pos h8, if_neg (by omega), if_pos h8]
    have hc1 : c = 1 := by omega
    subst hc1
    have hp : ∀ s, LayOk s ([(headP (K s)).1], (headP (K s)).2) u 1 := fun s => by
      have h := hK s
      exact ⟨h.len, h.rlen, rfl, hone _ _ (h.rng 0 (by omega)).1 (h.rng 0 (by omega)).2, h.tot, h.two⟩
    have hr := rep_ok x (timesN x).toNat (fun s => headP (K s)) u hp s (timesN x).toNat
    unfold repS
    dsimp only
    have r1 := hr.len
    have r2 := hr.rlen
    have r4 := hr.tot
    have e : (timesN x).toNat * (2 * u) = 2 * ((timesN x).toNat * u) := by rw [Nat.mul_left_comm]
    rw [e] at r4
    generalize repN x (timesN x).toNat (aroundP s) (fun s => headP (K s)) _ (timesN x).toNat = y at *
    exact ⟨by dsimp only; omega, by dsimp only; omega, rfl, hone _ _ (by dsimp only [aroundP]; omega) (by dsimp only [aroundP]; omega), by dsimp only; omega, by omega⟩
  rw [if_neg h8]
  by_cases h567 : x.kd = 5 ∨ x.kd = 6 ∨ x.kd = 7
  · rw [if_pos h567, if_pos (by omega)]
    have hc1 : c = 1 := by omega
    subst hc1
    have := loop_tot (decide (x.kd ≠ 6)) (decide (x.kd ≠ 7)) (headP (K s)).1 (K s).2
    exact ⟨by simp only [loop_len]; omega, by simp only [loop_r]; omega, rfl, hone _ _ (by simp only [loop_len, aroundP]; omega) (by simp only [loop_len, aroundP]; omega), by simp only; omega, by omega⟩
  rw [if_neg h567]
  by_cases h3 : x.kd = 3
  · rw [if_pos h3, if_neg (by omega), if_neg h8]
    have := chain_tot (K s).1 (K s).2 (K s).1.length
    rw [k3] at this
    have hc2 : 2 ≤ c := by omega
    exact ⟨by simp only [chain_len]; exact k1, by simp only [chain_r]; exact k2, rfl, hone _ _ (by simp only [chain_len, chainP]; exact (k4 0 (by omega)).1) (by simp only [chain_len, chainP, k3]; exact (k4 (c - 1) (by omega)).2), by simp only [k3]; omega, by omega⟩
  · rw [if_neg h3, if_pos (by omega)]
    have := alt_tot (aroundP (K s).2) (K s).1 (two (K s).2) (K s).1.length
    rw [k3, two_tot] at this
    exact ⟨by simp only [alt_len, two_len]; omega, by simp only [alt_r, two_r]; omega, rfl, hone _ _ (by simp only [alt_len, two_len, aroundP]; omega) (by simp only [alt_len, two_len, aroundP]; omega), by simp only [k3]; omega, by omega⟩
theorem lay_ok : ∀ (f : Fo), wf f → allF okN f → ∀ s, LayOk s (layF f s) (usz f) (cnt f)
  | .nil, _, _, s => ⟨rfl, rfl, rfl, fun i hi => absurd hi (Nat.not_lt_zero i), Nat.le_refl _, Nat.le_refl _⟩
  | .cons x k r, hw, ha, s => by
    have h1 := node_ok x (fun s => layF k s) (usz k) (cnt k) ha.1 hw.1 (lay_ok k hw.2.1 ha.2.1) s
    have h2 := lay_ok r hw.2.2 ha.2.2 (nodeS x (fun s => layF k s) s).2
    simp only [layF, usz, cnt]
    generalize nodeS x (fun s => layF k s) s = y at *
    have a1 := h1.len
    have a2 := h1.rlen
    have a3 := h1.rng 0 (by omega)
    have a4 := h1.tot
    have a5 := h1.two
    have b1 := h2.len
    have b2 := h2.rlen
    have b3 := h2.plen
    have b4 := h2.tot
    have b5 := h2.two
    simp only [List.getD_cons_zero] at a1 a2 a3 a4
    refine ⟨by dsimp only; omega, by dsimp only; omega, by simp [b3], fun i hi => ?_, by dsimp only; omega, by omega⟩
    cases i with
    | zero => simp only [List.getD_cons_zero]; omega
    | succ i => simp only [List.getD_cons_succ]; exact h2.rng i (by omega)
end Go.Cm

/- The walks of the maker's pieces: around, chain, loop. Conditions: none. -/
namespace Go.Cm
open Go.RowKit Go.Proofs

abbrev MkT (w : World) (S : Nat → Prop) (g q : Nat) (s : St) (F : Int) : Prop := MkW w S g q s.e s.r F
section
variable {w w' : World} {S : Nat → Prop} {g q : Nat} {s : St} {F : Int}
theorem MkW.f3 {ll : List (List Ed)} {rl : List Int} (h : MkW w S g q ll rl F) : w.cell? ⟨g, 3, none⟩ = some (.func (.func 53) #[] #[.pointer (some ⟨q, 0, none⟩)]) := by
  obtain ⟨ve, vs, vr, h1, rfl⟩ := h; exact h1.c3
theorem MkW.f4 {ll : List (List Ed)} {rl : List Int} (h : MkW w S g q ll rl F) : w.cell? ⟨g, 4, none⟩ = some (.func (.func 54) #[] #[.pointer (some ⟨q, 0, none⟩)]) := by
  obtain ⟨ve, vs, vr, h1, rfl⟩ := h; exact h1.c4
theorem MkW.glt {ll : List (List Ed)} {rl : List Int} (h : MkW w S g q ll rl F) : g < w.heap.size := by
  obtain ⟨ve, vs, vr, h1, rfl⟩ := h; exact h1.lt
theorem MkW.no {ll : List (List Ed)} {rl : List Int} (h : MkW w S g q ll rl F) {p : Nat} (hp : w.heap.size ≤ p) : ¬ S p := fun e => by
  have := h.lt e; omega
end
theorem MkW.gq {w : World} {S : Nat → Prop} {g q : Nat} {ll : List (List Ed)} {rl : List Int} {F : Int} (h : MkW w S g q ll rl F) : q < w.heap.size ∧ ¬ S q := by
  obtain ⟨ve, vs, vr, h1, rfl⟩ := h; exact ⟨h1.hql, h1.mq⟩
theorem MkW.keep {w w' : World} {S : Nat → Prop} {g q : Nat} {ll : List (List Ed)} {rl : List Int} {F : Int} (h : MkW w S g q ll rl F) {p : Nat} (hg : w.grownBy w' (some p)) (hp : ¬ S p) (hq : p ≠ q) : MkW w' S g q ll rl F := by
  obtain ⟨ve, vs, vr, h1, rfl⟩ := h
  refine ⟨ve, vs, vr, h1.keep hg (fun j k hj e => ?_), rfl⟩
  obtain rfl := Option.some.inj e
  rcases Nat.eq_zero_or_pos j with h0 | h0
  · subst h0; exact hq (Option.some.inj (Option.some.inj hj)).symm
  · refine hp ?_
    rcases j with _ | _ | _ | _ | j
    · omega
    · exact .inl (Option.some.inj (Option.some.inj hj)).symm
    · exact .inr (.inl (by simpa [mkL] using hj))
    · exact .inr (.inr (.inl (by simpa [mkL] using hj)))
    · by_cases hjl : j < vs.length
      · rw [mkL_row _ _ _ _ _ j hjl] at hj
        exact .inr (.inr (.inr ⟨j, hjl, Option.some.inj hj⟩))
      · simp [mkL, List.getElem?_eq_none (show vs.length ≤ j by omega)] at hj
/-- writes to what is new do not count -/
theorem Gw.new {S S1 : Nat → Prop} {w w1 w2 : World} (h : Gw S w S1 w1) {p : Nat} (hg : w1.grownBy w2 (some p)) (hp : w.heap.size ≤ p) : Gw S w S1 w2 :=
  ⟨⟨hg.os.trans h.fx.os, hg.tape.trans h.fx.tape, hg.output.trans h.fx.output, Nat.le_trans h.fx.size hg.size, fun k hk h1 => by
    rw [hg.block k (Nat.lt_of_lt_of_le hk h.fx.size) (fun e => by have := Option.some.inj e; omega), h.fx.block k hk h1]⟩, h.sub⟩
theorem Own.of_blk {w w' : World} {B E : Nat} {v : Value} {xs : List Value} (h : Own w B E v xs) (hb : ∀ k, v.ownBlock = some k → w'.heap[k]? = w.heap[k]?) : Own w' B E v xs := by
  refine ⟨⟨h.1.1, h.1.2.imp id ?_⟩, h.2⟩
  rintro ⟨g, cap, cur, rfl, h2, h3, h4⟩
  exact ⟨g, cap, cur, rfl, h2, by rw [hb g rfl]; exact h3, h4⟩
theorem Gw.own {S S1 : Nat → Prop} {w w1 : World} (h : Gw S w S1 w1) {B E : Nat} {v : Value} {xs : List Value} (ho : Own w B E v xs) (hv : ∀ k, v.ownBlock = some k → ¬ S k) : Own w1 B E v xs :=
  ho.of_blk fun k hk => h.fx.block k (ho.lt k hk).2 (hv k hk)

/-- a variable that holds a piece -/
structure PcB (w : World) (p : Nat) (f l : Int) : Prop where
  own : Own w p 82 (.slice (some ⟨p, 0, none⟩) 2 2) [.int .i64 f, .int .i64 l]
section
variable {w w' : World} {p : Nat} {f l : Int}
theorem PcB.c0 (h : PcB w p f l) : w.cell? ⟨p, 0, none⟩ = some (.int .i64 f) := h.own.cell (by simp)
theorem PcB.c1 (h : PcB w p f l) : w.cell? ⟨p, 1, none⟩ = some (.int .i64 l) := h.own.cell (by simp)
theorem PcB.free (h : PcB w p f l) (c : Nat) : w.frozen? ⟨p, c, none⟩ = false := h.own.free c
theorem PcB.lt (h : PcB w p f l) : p < w.heap.size := h.own.blk.2
theorem PcB.up (h : PcB w p f l) (hb : Below w.heap.size w w') : PcB w' p f l := ⟨h.own.up hb⟩
theorem PcB.gw {S S1 : Nat → Prop} (h : PcB w p f l) (hg : Gw S w S1 w') (hn : ¬ S p) : PcB w' p f l := ⟨hg.own h.own (fun k hk => by injection hk with hk; subst hk; exact hn)⟩
theorem PcB.keep (h : PcB w p f l) {row : Option Nat} (hg : w.grownBy w' row) (hne : row ≠ some p) : PcB w' p f l := ⟨h.own.keep hg (.inr (fun e => hne e.symm))⟩
theorem PcB.set (h : PcB w p f l) (a b : Int) : PcB ((w.setCell ⟨p, 0, none⟩ (.int .i64 a)).setCell ⟨p, 1, none⟩ (.int .i64 b)) p a b ∧ w.grownBy ((w.setCell ⟨p, 0, none⟩ (.int .i64 a)).setCell ⟨p, 1, none⟩ (.int .i64 b)) (some p) := by
  obtain ⟨h1, h2⟩ := h.own.store 0 (.int .i64 a)
  obtain ⟨h3, h4⟩ := h1.store 1 (.int .i64 b)
  exact ⟨⟨h3⟩, grown_trans h2 h4⟩
theorem pcB_new (w : World) (f l : Int) : PcB (w.alloc (.cells #[.int .i64 f, .int .i64 l] 82)) w.heap.size f l :=
  ⟨by have h := own_lit w w.heap.size #[.int .i64 f, .int .i64 l] 82 (by simp) (Nat.le_refl _); simpa using h⟩
theorem PcB.load (h : PcB w p f l) : (loadVar 82 ⟨p, 0, none⟩).run Try.prog w = .ok (.agg #[.int .i64 f, .int .i64 l]) w :=
  run_loadVar_cells w p 0 2 82 #[.int .i64 f, .int .i64 l] _ (fun c hc => by
    rcases (show c = 0 ∨ c = 1 by omega) with rfl | rfl
    · exact h.c0
    · exact h.c1) rfl Try.underlying82 rfl (by kernel_rfl)
end
theorem results_cell {P : Program} {fn : Func} {tmps : Array Value} {w : World} {a t : Nat} {ad : Addr} {v : Value} (hf : fn.results = #[.cell a t]) (ha : tmps.getD a undef = .pointer (some ad)) (hl : (loadVar t ad).run P w = .ok v w) :
    (results fn tmps).run P w = .ok v w := by
  have ha' : tmps[a]?.getD undef = .pointer (some ad) := by simpa using ha
  simp [results, hf, asAddr, ha', hl]
theorem ret_cell {P : Program} {fn : Func} {tmps : Array Value} {w : World} {ds : List Deferred} {s t : Nat} {ad : Addr} {x : Value} {R : Ending → World → Prop} (hf : fn.results = #[.cell s t]) (ha : tmps.getD s undef = .pointer (some ad)) (hd : ds = [])
    (hl : (loadVar t ad).run P w = .ok x w) (h : R (.returned x) w) : bodyPost P fn R .ret ⟨tmps, ds⟩ w :=
  bodyPost_ret (v := x) (results_cell hf ha hl) hd h
def pcA (p : Pc) : Array Value := #[.int .i64 (p.f : Nat), .int .i64 (p.l : Nat)]

set_option maxRecDepth 100000 in
theorem aroundM {w : World} {S : Nat → Prop} {g q : Nat} {s : St} {F : Int} (h : MkT w S g q s F) (hl : s.e.length ≤ 10000) (hr : s.r.length ≤ 10000) (n m : Nat) (hn : n = s.e.length) (hm : m = s.e.length + 1) :
    Calls Try.prog 56 #[.pointer (some ⟨g, 0, none⟩)] w fun e w' => e = .returned (.agg #[.int .i64 n, .int .i64 m]) ∧ ∃ S', MkT w' S' g q (two s) F ∧ Gw S w S' w' := by
  have HM := Lib.hid h
  have hg := h.glt
  have hc3 := h.f3
  have hno := h.no (Nat.le_refl _)
  have HM0 := Lib.hid (h.up (below_alloc w (.cells #[.int .i64 0, .int .i64 0] 82)))
  have HN := Lib.hid hn
  have HMM := Lib.hid hm
  have hnb : n ≤ 10000 := by omega
  clear h hn hm
  go_enter Try.func56, Try.ntmps56
  have HP0 := Lib.hid (pcB_new w 0 0)
  go_wp2_with (with_reducible (go_at_call 53); first | (refine (stateP HM0.out (by omega) (by omega)).mono ?_; rintro en w1 ⟨rfl, S1, hm1, hg1⟩; have HM1 := Lib.hid hm1; have HG1 := Lib.hid hg1; have hc31 := hm1.f3; have hgl1 := hm1.glt; clear hm1 hg1) | (refine (stateP HM1.out (by rw [List.length_append]; simp; omega) (by rw [List.length_append]; simp; omega)).mono ?_; rintro en w2 ⟨rfl, S2, hm2, hg2⟩; have HM2 := Lib.hid hm2; have HG2 := Lib.hid (HG1.out.trans hg2); (have HP2 := Lib.hid (HP0.out.gw (HG1.out.trans hg2) hno)); (have hc0 := HP2.out.c0); (have hc1 := HP2.out.c1); (have hf0 := HP2.out.free 0); (have hf1 := HP2.out.free 1); (have hpl := HP2.out.lt); clear hm2 hg2))
  have HST := Lib.hid (HP2.out.set (s.e.length : Nat) ((s.e.length : Nat) + 1))
  have hgq := HM.out.gq
  refine ret_cell rfl rfl rfl HST.out.1.load ?_
  refine ⟨by rw [HN.out, HMM.out]; rfl, S2, ?_, ((gw_below S (below_alloc w _)).trans HG2.out).new HST.out.2 (Nat.le_refl _)⟩
  exact HM2.out.keep HST.out.2 (HG2.out.out (by simp) hno) (by omega)

/-- a local variable that holds a piece and is none of the maker's blocks -/
structure LB (w : World) (S : Nat → Prop) (p : Nat) (f l : Int) : Prop where
  box : PcB w p f l
  no : ¬ S p
theorem LB.gw {S S1 : Nat → Prop} {w w' : World} {p : Nat} {f l : Int} (h : LB w S p f l) (hg : Gw S w S1 w') : LB w' S1 p f l := ⟨h.box.gw hg h.no, hg.out h.box.lt h.no⟩
theorem LB.up {S : Nat → Prop} {w w' : World} {p : Nat} {f l : Int} (h : LB w S p f l) (hb : Below w.heap.size w w') : LB w' S p f l := ⟨h.box.up hb, h.no⟩
theorem freeT {w : World} {S : Nat → Prop} {g q : Nat} {s : St} {F : Int} (h : MkT w S g q s F) (i to : Nat) (hi : i < s.e.length) (ht : tot s.e ≤ 900000) (hl : s.e.length ≤ 10000) :
    Calls Try.prog 54 #[.int .i64 i, .int .i64 to, .pointer (some ⟨q, 0, none⟩)] w fun e w' => e = .returned (.tuple #[]) ∧ ∃ S', MkT w' S' g q (freeS i to s) F ∧ Gw S w S' w' :=
  freeP h i to hi (Nat.le_trans (row_le_tot s.e i) (by omega)) (by omega)
theorem drew_b (w : World) : Below w.heap.size w w.drew := b_drew1 (Below.refl _ _)

set_option maxRecDepth 100000 in
set_option maxHeartbeats 4000000 in
theorem loopM {w : World} {S : Nat → Prop} {g q : Nat} {s : St} {F : Int} (h : MkT w S g q s F) (hl : s.e.length ≤ 9000) (hr : s.r.length ≤ 9000) (ht : tot s.e ≤ 800000) (o a : Bool) (f l : Nat) (_hf : f < s.e.length) (hll : l < s.e.length) (n m : Nat) (hn : n = s.e.length) (hm : m = s.e.length + 1) :
    Calls Try.prog 59 #[.pointer (some ⟨g, 0, none⟩), .bool o, .bool a, .agg #[.int .i64 f, .int .i64 l]] w fun e w' => e = .returned (.agg #[.int .i64 n, .int .i64 m]) ∧ ∃ S', MkT w' S' g q (loopS o a ⟨f, l⟩ s) F ∧ Gw S w S' w' := by
  have HM := Lib.hid h
  have hg := h.glt
  have hgq := h.gq
  have hno := h.no (Nat.le_refl _)
  have hno1 := h.no (Nat.le_succ _)
  have HQP0 := Lib.hid (pcB_new w f l)
  have HMA := Lib.hid ((h.up (below_alloc w (.cells #[.int .i64 f, .int .i64 l] 82))).up (below_alloc _ (.cells #[.int .i64 0, .int .i64 0] 82)))
  have HQP := Lib.hid (HQP0.out.up (below_alloc _ (.cells #[.int .i64 0, .int .i64 0] 82)))
  have HRP : Hid (PcB ((w.alloc (.cells #[.int .i64 f, .int .i64 l] 82)).alloc (.cells #[.int .i64 0, .int .i64 0] 82)) (w.heap.size + 1) 0 0) := Lib.hid (by
    have h := pcB_new (w.alloc (.cells #[.int .i64 f, .int .i64 l] 82)) 0 0
    simpa using h)
  have HAR := Lib.hid (aroundM HMA.out (by omega) (by omega) n m hn hm)
  have HLS : Hid (loopS o a ⟨f, l⟩ s = iff a (freeS l f) (iff o (freeS n m) (freeS l m (freeS n f (two s))))) := Lib.hid (by unfold loopS; simp only [aroundP]; rw [← hm, ← hn])
  have T2 := two_tot s
  have L2 := two_len s
  have hGA : Gw S w S ((w.alloc (.cells #[.int .i64 f, .int .i64 l] 82)).alloc (.cells #[.int .i64 0, .int .i64 0] 82)) := gw_below S ((below_alloc w _).trans ((below_alloc _ _).mono (by simp)))
  have HGA := Lib.hid hGA
  have hsA : ((w.alloc (.cells #[.int .i64 f, .int .i64 l] 82)).alloc (.cells #[.int .i64 0, .int .i64 0] 82)).heap.size = w.heap.size + 2 := by simp
  clear h HQP0 hGA
  obtain ⟨s0, hs0⟩ : ∃ s0, s0 = two s := ⟨_, rfl⟩
  rw [← hs0] at T2 L2 HAR HLS
  have HL0 : Hid (s0.e.length = s.e.length + 2 ∧ tot s0.e = tot s.e) := Lib.hid ⟨L2, T2⟩
  have hnb : n ≤ 9000 := by omega
  have hmb : m ≤ 9001 := by omega
  have HB : Hid (n < s0.e.length ∧ l < s0.e.length ∧ s0.e.length ≤ 9002 ∧ tot s0.e ≤ 800000) := Lib.hid ⟨by omega, by omega, by omega, by omega⟩
  clear hs0 T2 L2 hn hm _hf hll hl hr ht
  go_enter Try.func59, Try.ntmps59
  go_wp2_with ((with_reducible go_at_call 56); refine HAR.out.mono ?_; rintro en w1 ⟨rfl, S1, hm1, hg1⟩; have HM1 := Lib.hid hm1; have HG1 := Lib.hid hg1; clear hm1 hg1)
  have HM2 := Lib.hid (HM1.out.up (below_alloc w1 (.cells #[.int .i64 n, .int .i64 m] 82)))
  have P92 : Hid (LB (w1.alloc (.cells #[.int .i64 n, .int .i64 m] 82)) S1 w1.heap.size n m) := Lib.hid ⟨pcB_new w1 n m, HM1.out.no (Nat.le_refl _)⟩
  have P72 : Hid (LB (w1.alloc (.cells #[.int .i64 n, .int .i64 m] 82)) S1 w.heap.size f l) := Lib.hid ((LB.mk HQP.out hno).gw HG1.out |>.up (below_alloc w1 _))
  have P82 : Hid (LB (w1.alloc (.cells #[.int .i64 n, .int .i64 m] 82)) S1 (w.heap.size + 1) 0 0) := Lib.hid ((LB.mk HRP.out hno1).gw HG1.out |>.up (below_alloc w1 _))
  have HG2 : Hid (Gw S w S1 (w1.alloc (.cells #[.int .i64 n, .int .i64 m] 82))) := Lib.hid ((HGA.out.trans HG1.out).up (below_alloc w1 _))
  have hp9 : w.heap.size + 2 ≤ w1.heap.size := by have := HG1.out.size; omega
  generalize w1.heap.size = p9 at *
  generalize w1.alloc (.cells #[.int .i64 n, .int .i64 m] 82) = w2 at *
  clear HM1 HG1 HGA HQP HRP HMA HAR hsA hno hno1
  obtain ⟨hb1, hb2, hb3, hb4⟩ := HB.out
  have hc4 := HM2.out.f4
  have hgl := HM2.out.glt
  have P7a := P72.out.box.c0
  have P7b := P72.out.box.c1
  have P7l := P72.out.box.lt
  have P8a := P82.out.box.c0
  have P8b := P82.out.box.c1
  have P8l := P82.out.box.lt
  have P9a := P92.out.box.c0
  have P9b := P92.out.box.c1
  have P9l := P92.out.box.lt
  go_wp2
  refine wp_region_tailg [0,1,2,3,4,5,6,7] [] [8] (by kernel_rfl) (by kernel_rfl) ?_
  simp only [pick, List.map_cons, List.map_nil, List.getD_cons_zero, List.getD_cons_succ]
  repeat (go_big_quiet_step (fail))
  refine wpQuiet_nil ?_
  unfold wpAct
  unfold wpAct
  go_wp2_with ((with_reducible go_at_call 54); refine (freeT (HM2.out.up (drew_b _)) n f hb1 (by omega) (by omega)).mono ?_; rintro en w3 ⟨rfl, S3, hm, hg⟩; have HM3 := Lib.hid hm; have HG3 := Lib.hid ((HG2.out.up (drew_b _)).trans hg); have P73 := Lib.hid ((P72.out.up (drew_b _)).gw hg); have P83 := Lib.hid ((P82.out.up (drew_b _)).gw hg); have P93 := Lib.hid ((P92.out.up (drew_b _)).gw hg); clear hm hg)
  refine ⟨trivial, ?_⟩
  unfold wpAct
  clear hc4 hgl P7a P7b P7l P8a P8b P8l P9a P9b P9l HM2 HG2 P72 P82 P92
  have t3 := freeS_tot n f s0
  have l3 := freeS_len n f s0
  obtain ⟨s3, hs3⟩ : ∃ s3, s3 = freeS n f s0 := ⟨_, rfl⟩
  rw [← hs3] at t3 l3 HM3 HLS
  clear hs3
  have hc4 := HM3.out.f4
  have hgl := HM3.out.glt
  have P7a := P73.out.box.c0
  have P7b := P73.out.box.c1
  have P7l := P73.out.box.lt
  have P8a := P83.out.box.c0
  have P8b := P83.out.box.c1
  have P8l := P83.out.box.lt
  have P9a := P93.out.box.c0
  have P9b := P93.out.box.c1
  have P9l := P93.out.box.lt
  go_wp2
  refine wp_region_tailg [0,1,2,3,4,5,6,7] [] [8] (by kernel_rfl) (by kernel_rfl) ?_
  simp only [pick, List.map_cons, List.map_nil, List.getD_cons_zero, List.getD_cons_succ]
  repeat (go_big_quiet_step (fail))
  refine wpQuiet_nil ?_
  unfold wpAct
  unfold wpAct
  go_wp2_with ((with_reducible go_at_call 54); refine (freeT (HM3.out.up (drew_b _)) l m (by omega) (by omega) (by omega)).mono ?_; rintro en w4 ⟨rfl, S4, hm, hg⟩; have HM4 := Lib.hid hm; have HG4 := Lib.hid ((HG3.out.up (drew_b _)).trans hg); have P74 := Lib.hid ((P73.out.up (drew_b _)).gw hg); have P84 := Lib.hid ((P83.out.up (drew_b _)).gw hg); have P94 := Lib.hid ((P93.out.up (drew_b _)).gw hg); clear hm hg)
  refine ⟨trivial, ?_⟩
  unfold wpAct
  clear hc4 hgl P7a P7b P7l P8a P8b P8l P9a P9b P9l HM3 HG3 P73 P83 P93
  have t4 := freeS_tot l m s3
  have l4 := freeS_len l m s3
  obtain ⟨s4, hs4⟩ : ∃ s4, s4 = freeS l m s3 := ⟨_, rfl⟩
  rw [← hs4] at t4 l4 HM4 HLS
  clear hs4
  cases o with
  | true =>
    simp only [iff, if_true] at HLS
    have hc4 := HM4.out.f4
    have hgl := HM4.out.glt
    have P7a := P74.out.box.c0
    have P7b := P74.out.box.c1
    have P7l := P74.out.box.lt
    have P8a := P84.out.box.c0
    have P8b := P84.out.box.c1
    have P8l := P84.out.box.lt
    have P9a := P94.out.box.c0
    have P9b := P94.out.box.c1
    have P9l := P94.out.box.lt
    go_wp2
    refine wp_region_tailg [0,1,2,3,4,5,6,7] [] [8] (by kernel_rfl) (by kernel_rfl) ?_
    simp only [pick, List.map_cons, List.map_nil, List.getD_cons_zero, List.getD_cons_succ]
    repeat (go_big_quiet_step (fail))
    refine wpQuiet_nil ?_
    unfold wpAct
    unfold wpAct
    go_wp2_with ((with_reducible go_at_call 54); refine (freeT (HM4.out.up (drew_b _)) n m (by omega) (by omega) (by omega)).mono ?_; rintro en w5 ⟨rfl, S5, hm, hg⟩; have HM5 := Lib.hid hm; have HG5 := Lib.hid ((HG4.out.up (drew_b _)).trans hg); have P75 := Lib.hid ((P74.out.up (drew_b _)).gw hg); have P85 := Lib.hid ((P84.out.up (drew_b _)).gw hg); have P95 := Lib.hid ((P94.out.up (drew_b _)).gw hg); clear hm hg)
    refine ⟨trivial, ?_⟩
    unfold wpAct
    clear hc4 hgl P7a P7b P7l P8a P8b P8l P9a P9b P9l HM4 HG4 P74 P84 P94
    have t5 := freeS_tot n m s4
    have l5 := freeS_len n m s4
    obtain ⟨s5, hs5⟩ : ∃ s5, s5 = freeS n m s4 := ⟨_, rfl⟩
    rw [← hs5] at t5 l5 HM5 HLS
    clear hs5
    cases a with
    | true =>
      simp only [if_true] at HLS
      have hc4 := HM5.out.f4
      have hgl := HM5.out.glt
      have P7a := P75.out.box.c0
      have P7b := P75.out.box.c1
      have P7l := P75.out.box.lt
      have P8a := P85.out.box.c0
      have P8b := P85.out.box.c1
      have P8l := P85.out.box.lt
      have P9a := P95.out.box.c0
      have P9b := P95.out.box.c1
      have P9l := P95.out.box.lt
      go_wp2
      refine wp_region_tailg [0,1,2,3,4,5,6,7] [] [8] (by kernel_rfl) (by kernel_rfl) ?_
      simp only [pick, List.map_cons, List.map_nil, List.getD_cons_zero, List.getD_cons_succ]
      repeat (go_big_quiet_step (fail))
      refine wpQuiet_nil ?_
      unfold wpAct
      unfold wpAct
      go_wp2_with ((with_reducible go_at_call 54); refine (freeT (HM5.out.up (drew_b _)) l f (by omega) (by omega) (by omega)).mono ?_; rintro en w6 ⟨rfl, S6, hm, hg⟩; have HM6 := Lib.hid hm; have HG6 := Lib.hid ((HG5.out.up (drew_b _)).trans hg); have P76 := Lib.hid ((P75.out.up (drew_b _)).gw hg); have P86 := Lib.hid ((P85.out.up (drew_b _)).gw hg); have P96 := Lib.hid ((P95.out.up (drew_b _)).gw hg); clear hm hg)
      refine ⟨trivial, ?_⟩
      unfold wpAct
      clear hc4 hgl P7a P7b P7l P8a P8b P8l P9a P9b P9l HM5 HG5 P75 P85 P95
      have P8a := P86.out.box.c0
      have P8b := P86.out.box.c1
      have P8l := P86.out.box.lt
      have P8f := P86.out.box.free 0
      have P8g := P86.out.box.free 1
      have P9a := P96.out.box.c0
      have P9b := P96.out.box.c1
      have P9l := P96.out.box.lt
      have HST := Lib.hid (P86.out.box.set n m)
      go_wp2
      refine ret_cell rfl rfl rfl HST.out.1.load ?_
      exact ⟨rfl, S6, by rw [HLS.out]; exact HM6.out.keep HST.out.2 P86.out.no (by omega), HG6.out.new HST.out.2 (by omega)⟩
    | false =>
      simp only [Bool.false_eq_true, if_false] at HLS
      have P8a := P85.out.box.c0
      have P8b := P85.out.box.c1
      have P8l := P85.out.box.lt
      have P8f := P85.out.box.free 0
      have P8g := P85.out.box.free 1
      have P9a := P95.out.box.c0
      have P9b := P95.out.box.c1
      have P9l := P95.out.box.lt
      have HST := Lib.hid (P85.out.box.set n m)
      go_wp2
      refine ret_cell rfl rfl rfl HST.out.1.load ?_
      exact ⟨rfl, S5, by rw [HLS.out]; exact HM5.out.keep HST.out.2 P85.out.no (by omega), HG5.out.new HST.out.2 (by omega)⟩
  | false =>
    simp only [iff, Bool.false_eq_true, if_false] at HLS
    cases a with
    | true =>
      simp only [if_true] at HLS
      have hc4 := HM4.out.f4
      have hgl := HM4.out.glt
      have P7a := P74.out.box.c0
      have P7b := P74.out.box.c1
      have P7l := P74.out.box.lt
      have P8a := P84.out.box.c0
      have P8b := P84.out.box.c1
      have P8l := P84.out.box.lt
      have P9a := P94.out.box.c0
      have P9b := P94.out.box.c1
      have P9l := P94.out.box.lt
      go_wp2
      refine wp_region_tailg [0,1,2,3,4,5,6,7] [] [8] (by kernel_rfl) (by kernel_rfl) ?_
      simp only [pick, List.map_cons, List.map_nil, List.getD_cons_zero, List.getD_cons_succ]
      repeat (go_big_quiet_step (fail))
      refine wpQuiet_nil ?_
      unfold wpAct
      unfold wpAct
      go_wp2_with ((with_reducible go_at_call 54); refine (freeT (HM4.out.up (drew_b _)) l f (by omega) (by omega) (by omega)).mono ?_; rintro en w5 ⟨rfl, S5, hm, hg⟩; have HM5 := Lib.hid hm; have HG5 := Lib.hid ((HG4.out.up (drew_b _)).trans hg); have P75 := Lib.hid ((P74.out.up (drew_b _)).gw hg); have P85 := Lib.hid ((P84.out.up (drew_b _)).gw hg); have P95 := Lib.hid ((P94.out.up (drew_b _)).gw hg); clear hm hg)
      refine ⟨trivial, ?_⟩
      unfold wpAct
      clear hc4 hgl P7a P7b P7l P8a P8b P8l P9a P9b P9l HM4 HG4 P74 P84 P94
      have P8a := P85.out.box.c0
      have P8b := P85.out.box.c1
      have P8l := P85.out.box.lt
      have P8f := P85.out.box.free 0
      have P8g := P85.out.box.free 1
      have P9a := P95.out.box.c0
      have P9b := P95.out.box.c1
      have P9l := P95.out.box.lt
      have HST := Lib.hid (P85.out.box.set n m)
      go_wp2
      refine ret_cell rfl rfl rfl HST.out.1.load ?_
      exact ⟨rfl, S5, by rw [HLS.out]; exact HM5.out.keep HST.out.2 P85.out.no (by omega), HG5.out.new HST.out.2 (by omega)⟩
    | false =>
      simp only [Bool.false_eq_true, if_false] at HLS
      have P8a := P84.out.box.c0
      have P8b := P84.out.box.c1
      have P8l := P84.out.box.lt
      have P8f := P84.out.box.free 0
      have P8g := P84.out.box.free 1
      have P9a := P94.out.box.c0
      have P9b := P94.out.box.c1
      have P9l := P94.out.box.lt
      have HST := Lib.hid (P84.out.box.set n m)
      go_wp2
      refine ret_cell rfl rfl rfl HST.out.1.load ?_
      exact ⟨rfl, S4, by rw [HLS.out]; exact HM4.out.keep HST.out.2 P84.out.no (by omega), HG4.out.new HST.out.2 (by omega)⟩
end Go.Cm

/- The walk of the maker's chain. Conditions: none. -/
namespace Go.Cm
open Go.RowKit Go.Proofs

def pcC (p : Pc) : List Value := [.int .i64 (p.f : Nat), .int .i64 (p.l : Nat)]
theorem pcC_len (l : List Pc) : ∀ x ∈ l.map pcC, x.length = 2 := by
  intro x hx
  obtain ⟨e, -, rfl⟩ := List.mem_map.1 hx
  rfl
/-- a slice of pieces in block b -/
structure PsAt (w : World) (v : Value) (b off cap : Nat) (ps : List Pc) : Prop where
  v : v = .slice (some ⟨b, off, none⟩) ps.length cap
  hd : Hd w (some ⟨b, off, none⟩) ps.length cap b off
  pos : 0 < ps.length
  c0 : ∀ i, i < ps.length → w.cell? ⟨b, off + i * 2, none⟩ = some (.int .i64 ((ps.getD i zP).f : Nat))
  c1 : ∀ i, i < ps.length → w.cell? ⟨b, off + i * 2 + 1, none⟩ = some (.int .i64 ((ps.getD i zP).l : Nat))
theorem psAt_own {w : World} {B E : Nat} {v : Value} {ps : List Pc} (h : OwnK 2 w B E v (ps.map pcC)) (hp : 0 < ps.length) : ∃ b off cap, PsAt w v b off cap ps ∧ v.ownBlock = some b := by
  obtain ⟨oa, cap, b, off, hv, hd, hc⟩ := h.sl
  rw [List.length_map] at hv hd hc
  obtain rfl := hd.hat hp
  refine ⟨b, off, cap, ⟨hv, hd, hp, fun i hi => ?_, fun i hi => ?_⟩, by rw [hv]; rfl⟩
  · have := hc i hi 0 (by decide)
    rw [Nat.add_zero] at this
    rw [this]; simp [List.getD, hi, pcC]
  · rw [hc i hi 1 (by decide)]; simp [List.getD, hi, pcC]
theorem PsAt.gw {S S1 : Nat → Prop} {w w' : World} {v : Value} {b off cap : Nat} {ps : List Pc} (h : PsAt w v b off cap ps) (hg : Gw S w S1 w') (hn : ¬ S b) : PsAt w' v b off cap ps := by
  have hb := h.hd.hblk h.pos
  exact ⟨h.v, ⟨h.hd.hat, h.hd.hcap, h.hd.hmax, h.hd.hsml, fun h0 => Nat.lt_of_lt_of_le (h.hd.hblk h0) hg.size⟩, h.pos, fun i hi => (hg.cell hb hn).trans (h.c0 i hi), fun i hi => (hg.cell hb hn).trans (h.c1 i hi)⟩
theorem PsAt.up {w w' : World} {v : Value} {b off cap : Nat} {ps : List Pc} (h : PsAt w v b off cap ps) (hb : Below w.heap.size w w') : PsAt w' v b off cap ps := h.gw (gw_below (fun _ => False) hb) id
theorem index_piece {w : World} {v : Value} {b off cap : Nat} {ps : List Pc} (h : PsAt w v b off cap ps) :
    ∀ (W : World) (i : Nat), i < ps.length → (Instr.indexAt 107 (.slice (some ⟨b, off, none⟩) ps.length cap) (.int .i64 i)).run Try.prog W = .ok (.pointer (some ⟨b, off + i * 2, none⟩)) W := fun W i hi => by
  have := index_anyK (P := Try.prog) 2 107 82 Try.underlying107 (by kernel_rfl) h.hd W .i64 i (by omega) (by omega)
  simpa using this

set_option maxRecDepth 100000 in
set_option maxHeartbeats 4000000 in
theorem chainM {w : World} {S : Nat → Prop} {g q : Nat} {s : St} {F : Int} {v : Value} {b off cap : Nat} {ps : List Pc} (h : MkT w S g q s F) (hl : s.e.length ≤ 9000) (ht : tot s.e + ps.length ≤ 800000) (hps : PsAt w v b off cap ps) (hbn : ¬ S b) (hrg : ∀ i, i < ps.length → (ps.getD i zP).f < s.e.length ∧ (ps.getD i zP).l < s.e.length) (n m : Nat) (hn : n = (chainP ps).f) (hm : m = (chainP ps).l) :
    Calls Try.prog 60 #[.pointer (some ⟨g, 0, none⟩), v] w fun e w' => e = .returned (.agg #[.int .i64 n, .int .i64 m]) ∧ ∃ S', MkT w' S' g q (chainS ps ps.length s) F ∧ Gw S w S' w' := by
  have hgq := h.gq
  have hno := h.no (Nat.le_refl _)
  have hblt := hps.hd.hblk hps.pos
  have hpos := hps.pos
  obtain rfl := hps.v
  have hix := index_piece hps
  have hmx := hps.hd.len
  have HM := Lib.hid h
  have HPS := Lib.hid hps
  have HRG := Lib.hid hrg
  have HN := Lib.hid hn
  have HMM := Lib.hid hm
  have HL := Lib.hid hl
  have HTT := Lib.hid ht
  have HCL := Lib.hid (chain_len ps s)
  have HCT := Lib.hid (chain_tot ps s)
  clear h hps hrg hn hm hl ht
  go_enter Try.func60, Try.ntmps60
  go_wp2
  go_loopg [9] (ps.length) (fun gk iv wr => ∃ (j : Nat) (Sr : Nat → Prop), iv = .int .i64 j ∧ j ≤ ps.length ∧ MkT wr Sr g q (chainS ps j s) F ∧ Gw S w Sr wr ∧ PsAt wr (.slice (some ⟨b, off, none⟩) ps.length cap) b off cap ps ∧ ¬ Sr b ∧ LB wr Sr w.heap.size 0 0 ∧ gk = ps.length - j)
  case atStart => exact ⟨0, S, rfl, Nat.zero_le _, HM.out.up (below_alloc _ _), gw_below S (below_alloc _ _), HPS.out.up (below_alloc _ _), hbn, ⟨pcB_new w 0 0, hno⟩, rfl⟩
  case round =>
    obtain ⟨j, Sr, rfl, hj, hm, hgw, hpsr, hnb, hlb, rfl⟩ := hrel
    have HM1 := Lib.hid hm
    have HG1 := Lib.hid hgw
    have HP1 := Lib.hid hpsr
    have HB1 := Lib.hid hlb
    have HNB := Lib.hid hnb
    clear hm hgw hpsr hlb hnb HM HPS
    by_cases hlt : j < ps.length
    · obtain ⟨pj, hpj⟩ : ∃ p, p = ps.getD j zP := ⟨_, rfl⟩
      have HCE : Hid (∀ c', c' < 2 → wr.cell? ⟨b, off + j * 2 + c', none⟩ = some ((#[.int .i64 (pj.f : Nat), .int .i64 (pj.l : Nat)] : Array Value).getD c' undef)) := Lib.hid (fun c' h => by
        rw [hpj]
        rcases (show c' = 0 ∨ c' = 1 by omega) with rfl | rfl
        · exact HP1.out.c0 j hlt
        · exact HP1.out.c1 j hlt)
      have hrg := HRG.out j hlt
      rw [← hpj] at hrg
      have hcl := HCL.out j
      have hct := HCT.out j
      have hl := HL.out
      have htt := HTT.out
      have HPJ := Lib.hid hpj
      clear hpj
      cases j with
      | zero =>
        have hix0 := fun W => hix W 0 hpos
        clear hix
        go_wp2_with (refine wpList_load_cells rfl 82 _ rfl b (off + 0 * 2) 2 rfl _ _ HCE.out rfl Try.underlying82 rfl (by kernel_rfl) ?_)
        go_roundg (ps.length - 1)
        case measure => omega
        case rel =>
          exact ⟨1, Sr, rfl, by omega, HM1.out.up (below_alloc _ _), HG1.out.up (below_alloc _ _), HP1.out.up (below_alloc _ _), HNB.out, HB1.out.up (below_alloc _ _), rfl⟩
      | succ j =>
        have hixj : ∀ W, (Instr.indexAt 107 (.slice (some ⟨b, off, none⟩) ps.length cap) (.int .i64 ((j : Int) + 1))).run Try.prog W = .ok (.pointer (some ⟨b, off + (j + 1) * 2, none⟩)) W := fun W => by have := hix W (j + 1) hlt; simpa using this
        have hixi := fun W => hix W j (by omega)
        obtain ⟨pi, hpi⟩ : ∃ p, p = ps.getD j zP := ⟨_, rfl⟩
        have hrgi := HRG.out j (by omega)
        rw [← hpi] at hrgi
        have hci := HP1.out.c1 j (by omega)
        rw [← hpi] at hci
        have hbr := HP1.out.hd.hblk HP1.out.pos
        have HPI := Lib.hid hpi
        have HCS : Hid (chainS ps (j + 2) s = freeS pi.l pj.f (chainS ps (j + 1) s)) := Lib.hid (by rw [HPI.out, HPJ.out]; simp [chainS, iff])
        have hsr := HG1.out.size
        clear hix hpi
        go_wp2_with (refine wpList_load_cells rfl 82 _ rfl b (off + (j + 1) * 2) 2 rfl _ _ HCE.out rfl Try.underlying82 rfl (by kernel_rfl) ?_)
        have HL6 : Hid (LB (wr.alloc (.cells #[.int .i64 (pj.f : Nat), .int .i64 (pj.l : Nat)] 82)) Sr wr.heap.size pj.f pj.l) := Lib.hid ⟨pcB_new wr _ _, HM1.out.no (Nat.le_refl _)⟩
        have HM2 := Lib.hid (HM1.out.up (below_alloc wr (.cells #[.int .i64 (pj.f : Nat), .int .i64 (pj.l : Nat)] 82)))
        have HG2 := Lib.hid (HG1.out.up (below_alloc wr (.cells #[.int .i64 (pj.f : Nat), .int .i64 (pj.l : Nat)] 82)))
        have HP2 := Lib.hid (HP1.out.up (below_alloc wr (.cells #[.int .i64 (pj.f : Nat), .int .i64 (pj.l : Nat)] 82)))
        have HB2 := Lib.hid (HB1.out.up (below_alloc wr (.cells #[.int .i64 (pj.f : Nat), .int .i64 (pj.l : Nat)] 82)))
        have hci2 := HP2.out.c1 j (by omega)
        rw [← HPI.out] at hci2
        have hb2 := HP2.out.hd.hblk hpos
        clear hci hbr HM1 HG1 HP1 HB1 HCE
        generalize wr.heap.size = p6 at *
        generalize wr.alloc (.cells #[.int .i64 (pj.f : Nat), .int .i64 (pj.l : Nat)] 82) = w2 at *
        have hc4 := HM2.out.f4
        have hgl := HM2.out.glt
        have h60 := HL6.out.box.c0
        have h6l := HL6.out.box.lt
        refine wp_region_tailg [0,1,2,3,4,5,6,7,8,9,10,11] [] [12] (by kernel_rfl) (by kernel_rfl) ?_
        simp only [pick, List.map_cons, List.map_nil, List.getD_cons_zero, List.getD_cons_succ]
        repeat (go_big_quiet_step (fail))
        refine wpQuiet_nil ?_
        unfold wpAct
        unfold wpAct
        go_wp2_with ((with_reducible go_at_call 54); refine (freeT (HM2.out.up (drew_b _)) pi.l pj.f (by omega) (by omega) (by omega)).mono ?_; rintro en w3 ⟨rfl, S3, hm, hg⟩; have HM3 := Lib.hid hm; have HG3 := Lib.hid ((HG2.out.up (drew_b _)).trans hg); have HP3 := Lib.hid ((HP2.out.up (drew_b _)).gw hg HNB.out); (have HNB3 := Lib.hid (hg.out (Nat.lt_of_lt_of_le hb2 (drew_b _).size) HNB.out)); have HB3 := Lib.hid ((HB2.out.up (drew_b _)).gw hg); clear hm hg)
        refine ⟨trivial, ?_⟩
        unfold wpAct
        go_wp2
        go_roundg (ps.length - (j + 2))
        case measure => omega
        case rel =>
          exact ⟨j + 2, S3, by go_num, by omega, by rw [HCS.out]; exact HM3.out, HG3.out, HP3.out, HNB3.out, HB3.out, rfl⟩
    · have hje : j = ps.length := by omega
      subst hje
      have hc00 := HP1.out.c0 0 hpos
      have hc1n := HP1.out.c1 (ps.length - 1) (by omega)
      have hnv : ((ps.getD 0 zP).f : Int) = n := by rw [HN.out]; rfl
      have hmv : ((ps.getD (ps.length - 1) zP).l : Int) = m := by rw [HMM.out]; rfl
      rw [hnv, Nat.zero_mul, Nat.add_zero] at hc00
      rw [hmv] at hc1n
      have hbr := HP1.out.hd.hblk hpos
      have hix0 : ∀ W, (Instr.indexAt 107 (.slice (some ⟨b, off, none⟩) ps.length cap) (.int .i64 0)).run Try.prog W = .ok (.pointer (some ⟨b, off, none⟩)) W := fun W => by have := hix W 0 hpos; simpa using this
      have hixn : ∀ W, (Instr.indexAt 107 (.slice (some ⟨b, off, none⟩) ps.length cap) (.int .i64 ((ps.length : Int) - 1))).run Try.prog W = .ok (.pointer (some ⟨b, off + (ps.length - 1) * 2, none⟩)) W := fun W => by
        have := hix W (ps.length - 1) (by omega)
        rwa [show ((ps.length - 1 : Nat) : Int) = (ps.length : Int) - 1 by omega] at this
      have P4a := HB1.out.box.c0
      have P4b := HB1.out.box.c1
      have P4l := HB1.out.box.lt
      have P4f := HB1.out.box.free 0
      have P4g := HB1.out.box.free 1
      have HST := Lib.hid ((HB1.out.box.up (drew_b _)).set n m)
      clear hix hnv hmv
      go_wp2
      refine wp_region_tailg [0,1,2,3,4,5,6,7,8,9,10,11] [] [12] (by kernel_rfl) (by kernel_rfl) ?_
      simp only [pick, List.map_cons, List.map_nil, List.getD_cons_zero, List.getD_cons_succ]
      repeat (go_big_quiet_step (fail))
      refine wpQuiet_nil ?_
      unfold wpAct
      unfold wpAct
      go_wp2
      refine ⟨trivial, ?_⟩
      unfold wpAct
      go_wp2
      refine ret_cell rfl rfl rfl HST.out.1.load ?_
      exact ⟨rfl, Sr, (HM1.out.up (drew_b _)).keep HST.out.2 HB1.out.no (by omega), (HG1.out.up (drew_b _)).new HST.out.2 (Nat.le_refl _)⟩
end Go.Cm
