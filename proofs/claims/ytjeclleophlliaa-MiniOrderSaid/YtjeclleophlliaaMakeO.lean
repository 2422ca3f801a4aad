/- The least automaton does not depend on the states' numbers. Conditions: none. -/
import Derived.Test.YtjeclleophlliaaMakeJ
namespace Go.Cm

/-- the same automaton, with other numbers for its states, but for the first one -/
structure Turned (d e : Dfa) (p q : Nat → Nat) : Prop where
  cls : e.cls = d.cls
  len : e.next.length = d.next.length
  rlen : e.rules.length = d.next.length
  lt : ∀ i, i < d.next.length → p i < d.next.length
  qlt : ∀ i, i < d.next.length → q i < d.next.length
  qp : ∀ i, i < d.next.length → q (p i) = i
  pq : ∀ i, i < d.next.length → p (q i) = i
  zero : p 0 = 0
  row : ∀ i, i < d.next.length → e.next.getD (p i) [] = nl ((rowN d i).map p)
  rule : ∀ i, i < d.next.length → e.rules.getD (p i) 0 = d.rules.getD i 0

section
variable {d e : Dfa} {p q : Nat → Nat}
theorem Turned.valid (h : Turned d e p q) (hv : Valid d) : Valid e := by
  obtain ⟨h1, h2, h3, k, hk, hr⟩ := id hv
  refine ⟨by rw [h.len]; exact h1, by rw [h.len]; exact h2, by rw [h.len, h.rlen], k, by rw [h.cls]; exact hk, fun i hi => ?_⟩
  rw [h.len] at hi ⊢
  have hq := h.qlt i hi
  have hp := h.pq i hi
  obtain ⟨a, b, c, dd⟩ := hr _ hq
  have e1 := h.row _ hq
  have e2 := h.rule _ hq
  rw [hp] at e1 e2
  refine ⟨by rw [e2]; exact a, by rw [e2]; exact b, by rw [e1]; simpa [rowN] using c, fun j hj => ?_⟩
  rw [e1] at hj ⊢
  have hj' : j < (rowN d (q i)).length := by simpa using hj
  rw [nl_getD]
  have e3 : ((rowN d (q i)).map p).getD j 0 = p ((rowN d (q i)).getD j 0) := by simp [List.getD, hj']
  rw [e3]
  have := h.lt _ (rowN_mem hv hq (getD_mem _ j 0 hj'))
  omega
theorem Turned.rowN (h : Turned d e p q) {i : Nat} (hi : i < d.next.length) : rowN e (p i) = (Cm.rowN d i).map p := by
  unfold Cm.rowN
  rw [h.row i hi]
  simp [nl, Cm.rowN, Function.comp_def]
theorem Turned.rule' (h : Turned d e p q) {i : Nat} (hi : i < d.next.length) : ruleN e (p i) = ruleN d i := h.rule i hi
theorem Turned.kN (h : Turned d e p q) (hv : Valid d) : kN e = kN d := by
  have h1 := valid_k (h.valid hv)
  rw [h.cls, valid_k hv] at h1
  injection h1 with h1; exact h1.symm
theorem Turned.inj (h : Turned d e p q) {a b : Nat} (ha : a < d.next.length) (hb : b < d.next.length) (hab : p a = p b) : a = b := by
  rw [← h.qp a ha, ← h.qp b hb, hab]
theorem Turned.step (h : Turned d e p q) (hv : Valid d) {i c : Nat} (hi : i < d.next.length) (hc : c < Cm.kN d) : stepN e (p i) c = p (stepN d i c) := by
  unfold stepN
  rw [h.rowN hi]
  have : c < (Cm.rowN d i).length := by rw [rowN_len hv hi]; exact hc
  simp [List.getD, this]
theorem Turned.run (h : Turned d e p q) (hv : Valid d) (cs : List Nat) : ∀ i, i < d.next.length → (∀ c ∈ cs, c < Cm.kN d) → runC d i cs < d.next.length ∧ runC e (p i) cs = p (runC d i cs) := by
  induction cs with
  | nil => intro i hi _; exact ⟨hi, rfl⟩
  | cons c cs ih =>
    intro i hi hc
    have h1 := hc c (by simp)
    obtain ⟨h2, h3⟩ := ih _ (step_lt hv hi h1) (fun x hx => hc x (by simp [hx]))
    refine ⟨h2, ?_⟩
    show runC e (stepN e (p i) c) cs = _
    rw [h.step hv hi h1]; exact h3
theorem Turned.eqv (h : Turned d e p q) (hv : Valid d) {i j : Nat} (hi : i < d.next.length) (hj : j < d.next.length) : Eqv e (p i) (p j) ↔ Eqv d i j := by
  constructor
  · intro he cs hcs
    have h1 := he cs (fun c hc => by rw [h.kN hv]; exact hcs c hc)
    obtain ⟨a1, a2⟩ := h.run hv cs i hi hcs
    obtain ⟨b1, b2⟩ := h.run hv cs j hj hcs
    rwa [a2, b2, h.rule' a1, h.rule' b1] at h1
  · intro he cs hcs
    have hcs' : ∀ c ∈ cs, c < Cm.kN d := fun c hc => by rw [← h.kN hv]; exact hcs c hc
    obtain ⟨a1, a2⟩ := h.run hv cs i hi hcs'
    obtain ⟨b1, b2⟩ := h.run hv cs j hj hcs'
    rw [a2, b2, h.rule' a1, h.rule' b1]; exact he cs hcs'
theorem Turned.upTo (h : Turned d e p q) (hv : Valid d) {l : List Nat} (hl : ∀ x ∈ l, x < d.next.length) : upTo (Cm.rowN e) (l.map p) = (upTo (Cm.rowN d) l).map p := by
  unfold Cm.upTo
  have e1 : (l.map p).flatMap (Cm.rowN e) = (l.flatMap (Cm.rowN d)).map p := by
    rw [List.flatMap_map, List.map_flatMap]
    have : ∀ m : List Nat, (∀ x ∈ m, x < d.next.length) → (m.flatMap fun a => Cm.rowN e (p a)) = m.flatMap fun a => (Cm.rowN d a).map p := by
      intro m
      induction m with
      | nil => intro _; rfl
      | cons a m ih => intro hm; rw [List.flatMap_cons, List.flatMap_cons, ih fun x hx => hm x (by simp [hx]), h.rowN (hm a (by simp))]
    exact this l hl
  have h0 := hv.1
  have e2 : (0 :: (l.map p).flatMap (Cm.rowN e)) = (0 :: l.flatMap (Cm.rowN d)).map p := by rw [e1, List.map_cons, h.zero]
  rw [e2]
  have hb : ∀ x ∈ (0 :: l.flatMap (Cm.rowN d)), x < d.next.length := by
    intro x hx
    rcases List.mem_cons.1 hx with rfl | hx
    · omega
    · obtain ⟨s, hs, hx⟩ := List.mem_flatMap.1 hx
      exact rowN_mem hv (hl s hs) hx
  exact uniq_map_inj _ p fun x hx y hy hxy => h.inj (hb x hx) (hb y hy) hxy
theorem Turned.reach (h : Turned d e p q) (hv : Valid d) : reach e = (Cm.reach d).map p := by
  obtain ⟨hm, hb, -⟩ := reach_met hv
  refine (reach_met (h.valid hv)).1.unique ⟨fun j hj => ?_, ?_⟩
  · rw [List.length_map] at hj
    rw [← List.map_take, h.upTo hv fun x hx => hb x (List.mem_of_mem_take hx), List.length_map]
    exact hm.more j hj
  · rw [h.upTo hv hb, hm.all]
theorem pickBy_comp {α γ β : Type} [DecidableEq β] (f : γ → β) (g : α → γ) (l : List α) : pickBy f (l.map g) = (pickBy (fun x => f (g x)) l).map g := by
  induction l using list_snoc_ind with
  | h0 => rfl
  | h l a ih =>
    rw [List.map_append, List.map_cons, List.map_nil, pickBy_snoc, pickBy_snoc, ih, List.map_map]
    by_cases hm : f (g a) ∈ (pickBy (fun x => f (g x)) l).map (fun x => f (g x))
    · rw [if_pos hm, if_pos (by simpa using hm)]
    · rw [if_neg hm, if_neg (by simpa using hm), List.map_append]; rfl
theorem Turned.heads (h : Turned d e p q) (hv : Valid d) : heads e = (Cm.heads d).map p ∧ ∀ s ∈ Cm.reach d, num e (p s) = num d s := by
  have hb := (reach_met hv).2.1
  have hc := pickBy_congr (f := fun x => repN e (p x)) (g := repN d) (l := Cm.reach d) fun a ha b hb' => by
    show repN e (p a) = repN e (p b) ↔ _
    rw [repN_eq, repN_eq]; exact h.eqv hv (hb a ha) (hb b hb')
  unfold Cm.heads num
  rw [h.reach hv, pickBy_comp, hc.1]
  refine ⟨rfl, fun s hs => ?_⟩
  rw [← hc.2 s hs]
  unfold place
  rw [pickBy_comp, List.map_map]; rfl
theorem Turned.rows (h : Turned d e p q) (hv : Valid d) : rowsD e = rowsD d := by
  obtain ⟨h1, h2⟩ := h.heads hv
  unfold rowsD
  rw [h1, List.map_map]
  apply List.map_congr_left
  intro f hf
  have hr := heads_mem hf
  simp only [Function.comp_apply]
  rw [h.rowN (reach_lt hv hr), List.map_map]
  congr 1
  apply List.map_congr_left
  intro t ht
  exact h2 t (reach_step hv hr ht)
theorem Turned.make (h : Turned d e p q) (hv : Valid d) : makeD e = makeD d := by
  have h1 := (h.heads hv).1
  unfold makeD
  rw [h.rows hv, h.cls, h1, List.map_map]
  congr 1
  apply List.map_congr_left
  intro f hf
  exact h.rule' (reach_lt hv (heads_mem hf))
end
end Go.Cm
