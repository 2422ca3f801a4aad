/- The least automaton that is made: made again it is itself; each state is reached, no two are alike. Conditions: none. -/
import Derived.Test.YtjeclleophlliaaMakeL
namespace Go.Cm

section
variable {α β γ : Type} [DecidableEq α] [DecidableEq β] [DecidableEq γ]
theorem foldl_addNew_mem {l ks : List α} (h : ∀ x ∈ l, x ∈ ks) : l.foldl addNew ks = ks := by
  induction l generalizing ks with
  | nil => rfl
  | cons a l ih =>
    have e : addNew ks a = ks := by unfold addNew; rw [if_pos (h a (by simp))]
    rw [List.foldl_cons, e]; exact ih fun x hx => h x (by simp [hx])
theorem uniq_map_uniq (f : α → β) (l : List α) : uniq ((uniq l).map f) = uniq (l.map f) := by
  induction l using list_snoc_ind with
  | h0 => rfl
  | h l a ih =>
    rw [List.map_append, uniq_append (l.map f), ← ih, uniq_snoc]
    unfold addNew
    by_cases h : a ∈ uniq l
    · rw [if_pos h]
      symm
      refine foldl_addNew_mem ?_
      intro x hx
      simp only [List.map_cons, List.map_nil, List.mem_singleton] at hx
      subst hx
      rw [mem_uniq]; exact List.mem_map_of_mem h
    · rw [if_neg h, List.map_append, uniq_append]; rfl
omit [DecidableEq α] in
theorem uniq_pick (f : α → β) (g : α → List γ) (A : List γ) (l : List α) (h : ∀ a ∈ l, ∀ b ∈ l, f a = f b → g a = g b) : uniq (A ++ (pickBy f l).flatMap g) = uniq (A ++ l.flatMap g) := by
  induction l using list_snoc_ind with
  | h0 => rfl
  | h l s ih =>
    have ih := ih fun a ha b hb => h a (by simp [ha]) b (by simp [hb])
    rw [pickBy_snoc]
    by_cases hm : f s ∈ (pickBy f l).map f
    · rw [if_pos hm, ih, List.flatMap_append, ← List.append_assoc, uniq_append (A ++ l.flatMap g)]
      obtain ⟨x, hx, he⟩ := List.mem_map.1 hm
      have hg := h x (by simp [mem_pickBy hx]) s (by simp) he
      rw [foldl_addNew_mem]
      intro y hy
      rw [mem_uniq]
      refine List.mem_append_right _ (List.mem_flatMap.2 ⟨x, mem_pickBy hx, ?_⟩)
      rw [hg]; simpa using hy
    · rw [if_neg hm, List.flatMap_append, List.flatMap_append, ← List.append_assoc, ← List.append_assoc, uniq_append (A ++ _), uniq_append (A ++ _), ih]
theorem uniq_of_nodup {l : List α} (h : l.Nodup) : uniq l = l := by
  induction l using list_snoc_ind with
  | h0 => rfl
  | h l a ih =>
    rw [List.nodup_append] at h
    rw [uniq_snoc, ih h.1]
    unfold addNew
    rw [if_neg]
    intro ha; exact h.2.2 a ha a (by simp) rfl
theorem pickBy_inj {f : α → β} {l : List α} (h : ∀ a ∈ l, ∀ b ∈ l, f a = f b → a = b) : pickBy f l = uniq l ∧ ∀ s ∈ l, place f l s = idx (uniq l) s := by
  have hc := pickBy_congr (f := f) (g := fun x : α => x) (l := l) fun a ha b hb => ⟨h a ha b hb, fun e => by rw [e]⟩
  have e : pickBy (fun x : α => x) l = uniq l := by
    have := pickBy_map (fun x : α => x) l
    simpa using this
  refine ⟨hc.1.trans e, fun s hs => ?_⟩
  rw [hc.2 s hs]
  unfold place
  rw [e]; simp
omit [DecidableEq α] in
/-- the first of its kind, and what was picked ahead of it -/
theorem pick_first (f : α → β) (z : α) (l : List α) : ∀ j, j < (pickBy f l).length → ∃ i, i < l.length ∧ (pickBy f l).take j = pickBy f (l.take i) ∧ (pickBy f l).take (j + 1) = pickBy f (l.take (i + 1)) := by
  induction l using list_snoc_ind with
  | h0 => intro j hj; simp [pickBy] at hj
  | h l s ih =>
    intro j hj
    rw [pickBy_snoc] at hj ⊢
    by_cases hm : f s ∈ (pickBy f l).map f
    · rw [if_pos hm] at hj ⊢
      obtain ⟨i, h1, h2, h3⟩ := ih j hj
      refine ⟨i, by simp; omega, ?_, ?_⟩
      · rw [List.take_append_of_le_length (by omega)]; exact h2
      · rw [List.take_append_of_le_length (by omega)]; exact h3
    · rw [if_neg hm] at hj ⊢
      rw [List.length_append, List.length_singleton] at hj
      rcases Nat.lt_succ_iff_lt_or_eq.1 hj with h | rfl
      · obtain ⟨i, h1, h2, h3⟩ := ih j h
        refine ⟨i, by simp; omega, ?_, ?_⟩
        · rw [List.take_append_of_le_length (by omega), List.take_append_of_le_length (by omega)]; exact h2
        · rw [List.take_append_of_le_length (by omega), List.take_append_of_le_length (by omega)]; exact h3
      · refine ⟨l.length, by simp, by simp, ?_⟩
        rw [List.take_of_length_le (by simp), List.take_of_length_le (by simp), pickBy_snoc, if_neg hm]
end

theorem flatMap_one {α β : Type} (f : α → β) (l : List α) : l.flatMap (fun a => [f a]) = l.map f := by induction l <;> simp_all
theorem uniq_left {d : Dfa} (hv : Valid d) {i : Nat} (hi : i < (heads d).length) (A : List Nat) : uniq (A ++ rowN (makeD d) i) = uniq (A ++ (rowN d ((heads d).getD i 0)).map (num d)) := by
  have h0 := reach_lt hv (head_mem hi)
  have e1 : rowN (makeD d) i = (leftD d).flatMap fun k => [num d (stepN d ((heads d).getD i 0) k.toNat)] := by
    rw [flatMap_one]
    unfold rowN
    rw [make_row hi, List.map_map]
    apply List.map_congr_left
    intro k hk
    have := cls_range hv (mem_pickBy (f := colI (rowsD d)) hk)
    have h2 := rowsD_cell hv hi (c := k.toNat) (by omega)
    simp only [Function.comp_apply, h2, Int.toNat_natCast]
  have e2 : (rowN d ((heads d).getD i 0)).map (num d) = (List.range (kN d)).map fun c => num d (stepN d ((heads d).getD i 0) c) := by
    apply List.ext_getElem
    · rw [List.length_map, List.length_map, List.length_range, rowN_len hv h0]
    · intro c h1 h2
      have hc : c < (rowN d ((heads d).getD i 0)).length := by rw [List.length_map] at h1; exact h1
      rw [List.getElem_map, List.getElem_map, List.getElem_range]
      unfold stepN
      rw [List.getD_eq_getElem?_getD (l := rowN d _), List.getElem?_eq_getElem hc, Option.getD_some]
  have e3 : leftD d = pickBy (colI (rowsD d)) (nl (List.range (kN d))) := by
    rw [← cls_uniq hv]
    unfold leftD leftI
    have : ∀ l : List Int, pickBy (colI (rowsD d)) (uniq l) = pickBy (colI (rowsD d)) l := by
      intro l
      induction l using list_snoc_ind with
      | h0 => rfl
      | h l a ih =>
        rw [uniq_snoc, pickBy_snoc, ← ih]
        unfold addNew
        by_cases ha : a ∈ uniq l
        · rw [if_pos ha, if_pos (mem_pick_map ha)]
        · rw [if_neg ha, pickBy_snoc]
    exact (this _).symm
  rw [e1, e2, e3, uniq_pick]
  · congr 2
    rw [flatMap_one]
    simp [nl]
  · intro a ha b hb hab
    have ra : 0 ≤ a ∧ a < kN d := by
      obtain ⟨x, hx, rfl⟩ := List.mem_map.1 ha
      have := List.mem_range.1 hx; omega
    have rb : 0 ≤ b ∧ b < kN d := by
      obtain ⟨x, hx, rfl⟩ := List.mem_map.1 hb
      have := List.mem_range.1 hx; omega
    have h := col_eq_of hab (j := i) (by rw [rowsD_length]; exact hi)
    rw [rowsD_cell hv hi (by omega), rowsD_cell hv hi (by omega)] at h
    have h1 : num d (stepN d ((heads d).getD i 0) a.toNat) = num d (stepN d ((heads d).getD i 0) b.toNat) := by omega
    simp only [h1]
theorem make_upTo {d : Dfa} (hv : Valid d) : ∀ j, j ≤ (heads d).length → upTo (rowN (makeD d)) (List.range j) = uniq (0 :: ((heads d).take j).flatMap fun s => (rowN d s).map (num d)) := by
  intro j
  induction j with
  | zero => intro _; rfl
  | succ j ih =>
    intro hj
    have ih := ih (by omega)
    unfold upTo at ih ⊢
    have e : (heads d).take (j + 1) = (heads d).take j ++ [(heads d).getD j 0] := take_succ_getD _ _ _ (by omega)
    rw [e, List.range_succ, List.flatMap_append, List.flatMap_append, ← List.cons_append, ← List.cons_append, uniq_append, ih, ← uniq_append]
    have := uniq_left hv (i := j) (by omega) (0 :: ((heads d).take j).flatMap fun s => (rowN d s).map (num d))
    simpa using this
theorem row_num_congr {d : Dfa} (hv : Valid d) {a b : Nat} (ha : a < d.next.length) (hb : b < d.next.length) (h : Eqv d a b) : (rowN d a).map (num d) = (rowN d b).map (num d) := by
  apply List.ext_getElem
  · simp [rowN_len hv ha, rowN_len hv hb]
  · intro c h1 h2
    have hca : c < (rowN d a).length := by simpa using h1
    have hcb : c < (rowN d b).length := by simpa using h2
    have := num_congr (h.step (c := c) (by rw [← rowN_len hv ha]; exact hca))
    simpa [stepN, List.getD, hca, hcb] using this
theorem make_upTo' {d : Dfa} (hv : Valid d) {i j : Nat} (hj : j ≤ (heads d).length) (he : (heads d).take j = pickBy (repN d) ((reach d).take i)) : upTo (rowN (makeD d)) (List.range j) = uniq ((upTo (rowN d) ((reach d).take i)).map (num d)) := by
  rw [make_upTo hv j hj, he]
  have h1 := uniq_pick (repN d) (fun s => (rowN d s).map (num d)) [0] ((reach d).take i) (fun a ha b hb hab => row_num_congr hv (reach_lt hv (List.mem_of_mem_take ha)) (reach_lt hv (List.mem_of_mem_take hb)) (repN_eq.1 hab))
  simp only [List.singleton_append] at h1
  rw [h1]
  unfold upTo
  rw [uniq_map_uniq, List.map_cons, num_zero hv, List.map_flatMap]
theorem make_met {d : Dfa} (hv : Valid d) : Met (rowN (makeD d)) (List.range (heads d).length) := by
  have hm := (reach_met hv).1
  constructor
  · intro j hj
    rw [List.length_range] at hj
    rw [List.take_range, Nat.min_eq_left (by omega)]
    obtain ⟨i, h1, h2, h3⟩ := pick_first (repN d) 0 (reach d) j hj
    rw [make_upTo' hv (by omega) h2]
    have h4 := hm.take h1
    have h5 : uniq (((reach d).take (i + 1)).map (num d)) = List.range (j + 1) := by
      have e : ((reach d).take (i + 1)).map (num d) = ((reach d).take (i + 1)).map (place (repN d) ((reach d).take (i + 1))) := by
        apply List.map_congr_left
        intro s hs
        have := place_append (f := repN d) (m := (reach d).drop (i + 1)) hs
        rw [List.take_append_drop] at this
        exact this
      rw [e, uniq_place, ← h3, List.length_take, Nat.min_eq_left (show j + 1 ≤ (pickBy (repN d) (reach d)).length from hj)]
    have h6 : upTo (rowN d) ((reach d).take i) = (reach d).take (i + 1) ++ (upTo (rowN d) ((reach d).take i)).drop (i + 1) := by
      rw [h4, List.take_append_drop]
    rw [h6, List.map_append]
    obtain ⟨k, hk⟩ := uniq_prefix (((reach d).take (i + 1)).map (num d)) (((upTo (rowN d) ((reach d).take i)).drop (i + 1)).map (num d))
    rw [hk, h5, List.length_append, List.length_range]; omega
  · rw [make_upTo' hv (i := (reach d).length) (Nat.le_refl _) (by rw [List.take_length, List.take_length]; rfl), List.take_length, hm.all]
    exact uniq_place (repN d) (reach d)
theorem make_reach {d : Dfa} (hv : Valid d) : reach (makeD d) = List.range (heads d).length := (reach_met (make_valid hv)).1.unique (make_met hv)
theorem make_runC {d : Dfa} (hv : Valid d) (cs : List Nat) : ∀ s, s ∈ reach d → (∀ c ∈ cs, c < kN d) → runC d s cs ∈ reach d ∧ runC (makeD d) (num d s) (cs.map fun c : Nat => colP d (c : Int)) = num d (runC d s cs) := by
  induction cs with
  | nil => intro s hs _; exact ⟨hs, rfl⟩
  | cons c cs ih =>
    intro s hs hc
    have h1 := hc c (by simp)
    obtain ⟨h2, h3⟩ := ih _ (reach_stepN hv hs h1) (fun x hx => hc x (by simp [hx]))
    refine ⟨h2, ?_⟩
    show runC (makeD d) (stepN (makeD d) (num d s) (colP d c)) (cs.map fun c : Nat => colP d (c : Int)) = _
    rw [make_stepP hv hs h1]; exact h3
theorem make_apart {d : Dfa} (hv : Valid d) {i j : Nat} (hi : i < (heads d).length) (hj : j < (heads d).length) (h : Eqv (makeD d) i j) : i = j := by
  have key : Eqv d ((heads d).getD i 0) ((heads d).getD j 0) := by
    intro cs hcs
    obtain ⟨h1, h2⟩ := make_runC hv cs _ (head_mem hi) hcs
    obtain ⟨h3, h4⟩ := make_runC hv cs _ (head_mem hj) hcs
    have h5 := h (cs.map fun c : Nat => colP d (c : Int)) (fun x hx => by
      obtain ⟨c, hc, rfl⟩ := List.mem_map.1 hx
      rw [make_kN hv]
      exact colP_lt (cls_all hv (hcs c hc)))
    rw [num_head hi] at h2
    rw [num_head hj] at h4
    rw [h2, h4, make_rule (num_lt h1), make_rule (num_lt h3), (head_num h1).rules, (head_num h3).rules] at h5
    exact h5
  have := num_congr key
  rwa [num_head hi, num_head hj] at this
theorem make_rep {d : Dfa} (hv : Valid d) {i : Nat} (hi : i < (heads d).length) : repN (makeD d) i = i := by
  obtain ⟨h1, h2⟩ := repN_spec (makeD d) i
  have := (mem_firsts.1 h1).1
  exact (make_apart hv hi (by omega) h2).symm
theorem range_idx {n i : Nat} (hi : i < n) : idx (List.range n) i = i := by
  have h := List.nodup_range (n := n) |>.idxOf_getElem i (by simpa using hi)
  simpa [idx] using h
theorem make_heads {d : Dfa} (hv : Valid d) : heads (makeD d) = List.range (heads d).length ∧ ∀ i, i < (heads d).length → num (makeD d) i = i := by
  have h := pickBy_inj (f := repN (makeD d)) (l := List.range (heads d).length) (fun a ha b hb hab => by
    rw [make_rep hv (List.mem_range.1 ha), make_rep hv (List.mem_range.1 hb)] at hab; exact hab)
  rw [uniq_of_nodup List.nodup_range] at h
  unfold heads num
  rw [make_reach hv]
  exact ⟨h.1, fun i hi => (h.2 i (List.mem_range.2 hi)).trans (range_idx hi)⟩
theorem range_map_getD {α : Type} (l : List α) (z : α) (n : Nat) (h : l.length = n) : (List.range n).map (fun i => l.getD i z) = l := by
  apply List.ext_getElem
  · simp [h]
  · intro i h1 h2; simp [h2]
theorem make_rows {d : Dfa} (hv : Valid d) : rowsD (makeD d) = (makeD d).next := by
  obtain ⟨h1, h2⟩ := make_heads hv
  unfold rowsD
  rw [h1]
  refine Eq.trans ?_ (range_map_getD (makeD d).next [] (heads d).length (make_len d))
  apply List.map_congr_left
  intro i hi
  have hi := List.mem_range.1 hi
  have hrow := make_row hi
  have h3 : ∀ x ∈ (makeD d).next.getD i [], 0 ≤ x ∧ x < (heads d).length := by
    intro x hx
    rw [hrow] at hx
    obtain ⟨k, hk, rfl⟩ := List.mem_map.1 hx
    have hr := cls_range hv (mem_pickBy (f := colI (rowsD d)) hk)
    rw [rowsD_cell hv hi (by omega)]
    have := head_step hv hi (c := k.toNat) (by omega)
    omega
  unfold rowN nl
  rw [List.map_map, List.map_map]
  conv => rhs; rw [← List.map_id ((makeD d).next.getD i [])]
  apply List.map_congr_left
  intro x hx
  have := h3 x hx
  have h4 := h2 x.toNat (by omega)
  simp only [Function.comp_apply, h4, id]
  omega
theorem make_cols {d : Dfa} (hv : Valid d) {a b : Nat} (ha : a < (leftD d).length) (hb : b < (leftD d).length) (h : colI (makeD d).next (a : Nat) = colI (makeD d).next (b : Nat)) : a = b := by
  have e : ∀ c : Nat, c < (leftD d).length → colI (makeD d).next (c : Nat) = colI (rowsD d) ((leftD d).getD c 0) := by
    intro c hc
    show colI (nextI (rowsD d) (leftD d)) (c : Nat) = _
    unfold colI nextI
    rw [List.map_map]
    apply List.map_congr_left
    intro r hr
    simp [List.getD, hc]
  rw [e a ha, e b hb] at h
  have hn := pickBy_nodup (colI (rowsD d)) d.cls
  have h1 : a < ((leftD d).map (colI (rowsD d))).length := by simpa using ha
  have h2 : b < ((leftD d).map (colI (rowsD d))).length := by simpa using hb
  have h3 : ((leftD d).map (colI (rowsD d)))[a] = ((leftD d).map (colI (rowsD d)))[b] := by
    simpa [List.getD, ha, hb] using h
  have h4 := hn.idxOf_getElem a h1
  have h5 := hn.idxOf_getElem b h2
  change List.idxOf ((leftD d).map (colI (rowsD d)))[a] _ = a at h4
  change List.idxOf ((leftD d).map (colI (rowsD d)))[b] _ = b at h5
  rw [h3, h5] at h4
  exact h4.symm
theorem make_make {d : Dfa} (hv : Valid d) : makeD (makeD d) = makeD d := by
  obtain ⟨h1, h2⟩ := make_heads hv
  have hm := make_valid hv
  have hk := make_kN hv
  have hu : uniq (makeD d).cls = nl (List.range (leftD d).length) := by rw [cls_uniq hm, hk]
  have hp := pickBy_inj (f := colI (makeD d).next) (l := (makeD d).cls) (fun a ha b hb hab => by
    have ra := cls_range hm ha
    have rb := cls_range hm hb
    rw [hk] at ra rb
    have := make_cols hv (a := a.toNat) (b := b.toNat) (by omega) (by omega) (by rwa [Int.toNat_of_nonneg ra.1, Int.toNat_of_nonneg rb.1])
    omega)
  rw [hu] at hp
  have hl : leftI (makeD d).next (makeD d).cls = nl (List.range (leftD d).length) := hp.1
  have hc : clsI (makeD d).next (makeD d).cls = (makeD d).cls := by
    unfold clsI nl
    rw [List.map_map]
    conv => rhs; rw [← List.map_id (makeD d).cls]
    apply List.map_congr_left
    intro x hx
    have rx := cls_range hm hx
    rw [hk] at rx
    show ((place (colI (makeD d).next) (makeD d).cls x : Nat) : Int) = x
    rw [hp.2 x hx]
    have e : idx (nl (List.range (leftD d).length)) x = x.toNat := by
      have h := idxOf_map_inj (List.range (leftD d).length) (fun n : Nat => (n : Int)) x.toNat (fun y _ hy => by omega)
      rw [range_idx (by omega)] at h
      rw [Int.toNat_of_nonneg rx.1] at h
      exact h
    rw [e]; omega
  have hn : nextI (makeD d).next (nl (List.range (leftD d).length)) = (makeD d).next := by
    unfold nextI
    conv => rhs; rw [← List.map_id (makeD d).next]
    apply List.map_congr_left
    intro r hr
    obtain ⟨i, hi, rfl⟩ := List.mem_iff_getElem.1 hr
    have hi' : i < (heads d).length := by rw [← make_len]; exact hi
    have hrow := make_row hi'
    rw [List.getD_eq_getElem?_getD, List.getElem?_eq_getElem hi, Option.getD_some] at hrow
    have hlen : ((makeD d).next[i]).length = (leftD d).length := by rw [hrow, List.length_map]
    have := range_map_getD ((makeD d).next[i]) 0 (leftD d).length hlen
    simp only [id]
    conv => rhs; rw [← this]
    simp [nl]
  have hr : (List.range (heads d).length).map (ruleN (makeD d)) = (makeD d).rules := range_map_getD (makeD d).rules 0 _ (by simp [makeD])
  show Dfa.mk _ _ _ = _
  rw [make_rows hv, hl, hc, hn, h1, hr]
theorem make_firsts {d : Dfa} (hv : Valid d) : firsts (makeD d) (heads d).length = List.range (heads d).length := by
  unfold firsts
  rw [List.filter_eq_self]
  intro a ha
  have ha := List.mem_range.1 ha
  have : ∀ j, j < a → ¬ Eqv (makeD d) a j := fun j hj he => by have := make_apart hv ha (by omega) he; omega
  simpa using this
theorem make_members {d : Dfa} (hv : Valid d) {i : Nat} (hi : i < (heads d).length) : members (makeD d) i (heads d).length = [i] := by
  have : ∀ n, n ≤ (heads d).length → members (makeD d) i n = if i < n then [i] else [] := by
    intro n
    induction n with
    | zero => intro _; simp [members]
    | succ n ih =>
      intro hn
      have ih := ih (by omega)
      by_cases he : Eqv (makeD d) i n
      · have hin := make_apart hv hi (by omega) he
        subst hin
        rw [members_succ_yes he, ih]; simp
      · have hne : i ≠ n := fun e => he (e ▸ Eqv.refl _ _)
        rw [members_succ_no he, ih]
        by_cases hlt : i < n
        · rw [if_pos hlt, if_pos (by omega)]
        · rw [if_neg hlt, if_neg (by omega)]
  rw [this _ (Nat.le_refl _), if_pos hi]
theorem make_alike {d : Dfa} (hv : Valid d) : alikeI (makeD d) = (List.range (heads d).length).map fun i => nl [i] := by
  rw [alikeI_yes (make_valid hv), make_len]
  unfold alikeUpto
  rw [make_firsts hv, List.map_map]
  apply List.map_congr_left
  intro i hi
  simp only [Function.comp_apply, make_members hv (List.mem_range.1 hi)]
end Go.Cm
