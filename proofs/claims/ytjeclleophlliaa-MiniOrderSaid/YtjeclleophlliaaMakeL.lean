/- The least automaton that is made: it is one, and its states do as those that they stand for. Conditions: none. -/
import Derived.Test.YtjeclleophlliaaMakeM
namespace Go.Cm

section
variable {α β : Type} [DecidableEq β] {f : α → β} {l : List α} {s z : α}
theorem pickBy_nodup (f : α → β) (l : List α) : ((pickBy f l).map f).Nodup := by rw [pickBy_map]; exact uniq_nodup _
theorem place_congr {a b : α} (h : f a = f b) : place f l a = place f l b := by unfold place; rw [h]
theorem mem_pick_map (h : s ∈ l) : f s ∈ (pickBy f l).map f := by rw [pickBy_map, mem_uniq]; exact List.mem_map_of_mem h
theorem pick_place (h : s ∈ l) : f ((pickBy f l).getD (place f l s) z) = f s := by
  have h1 := place_lt (f := f) h
  have h2 := getElem_idx (mem_pick_map (f := f) h)
  rw [List.getElem_map] at h2
  unfold place at h1 ⊢
  rw [List.getD_eq_getElem?_getD, List.getElem?_eq_getElem h1]
  exact h2
theorem place_inj {a b : α} (ha : a ∈ l) (hb : b ∈ l) (h : place f l a = place f l b) : f a = f b := by
  have h1 := pick_place (f := f) (z := a) ha
  have h2 := pick_place (f := f) (z := a) hb
  rw [h] at h1
  exact h1.symm.trans h2
theorem place_pick {i : Nat} (hi : i < (pickBy f l).length) : place f l ((pickBy f l).getD i z) = i := by
  unfold place idx
  rw [List.getD_eq_getElem?_getD, List.getElem?_eq_getElem hi, Option.getD_some]
  have h1 : i < ((pickBy f l).map f).length := by simpa using hi
  have h2 := (pickBy_nodup f l).idxOf_getElem i h1
  rwa [List.getElem_map] at h2
theorem pickBy_cons_zero (a : α) (l : List α) : ∃ m, pickBy f (a :: l) = a :: m := by
  obtain ⟨k, hk⟩ := pickBy_append f [a] l
  exact ⟨k, by simpa [pickBy] using hk⟩
theorem place_cons_zero (a : α) (l : List α) : place f (a :: l) a = 0 := by
  obtain ⟨m, hm⟩ := pickBy_cons_zero (f := f) a l
  unfold place idx; rw [hm]; simp
theorem uniq_place (f : α → β) (l : List α) : uniq (l.map (place f l)) = List.range (pickBy f l).length := by
  induction l using list_snoc_ind with
  | h0 => rfl
  | h l a ih =>
    have e : (l ++ [a]).map (place f (l ++ [a])) = l.map (place f l) ++ [place f (l ++ [a]) a] := by
      rw [List.map_append]
      congr 1
      exact List.map_congr_left fun s hs => place_append hs
    rw [e, uniq_snoc, ih]
    unfold addNew
    by_cases h : f a ∈ (pickBy f l).map f
    · have h1 : pickBy f (l ++ [a]) = pickBy f l := by rw [pickBy_snoc, if_pos h]
      have h2 := place_lt (f := f) (l := l ++ [a]) (s := a) (by simp)
      rw [h1] at h2
      rw [if_pos (List.mem_range.2 h2), h1]
    · have h1 : pickBy f (l ++ [a]) = pickBy f l ++ [a] := by rw [pickBy_snoc, if_neg h]
      have h2 : place f (l ++ [a]) a = (pickBy f l).length := by
        unfold place; rw [h1, List.map_append, List.map_cons, List.map_nil, idxOf_append_new h, List.length_map]
      rw [if_neg (by rw [List.mem_range, h2]; exact Nat.lt_irrefl _), h2, h1, List.length_append, List.length_singleton, List.range_succ]
theorem classesFrom_place (f : α → β) : ∀ (m l : List α), classesFrom (pickBy f l).length (nl (m.map (place f (l ++ m)))) = some (pickBy f (l ++ m)).length
  | [], l => by simp [nl, classesFrom]
  | a :: m, l => by
    have e : place f (l ++ a :: m) a = place f (l ++ [a]) a := by
      rw [show l ++ a :: m = l ++ [a] ++ m by simp]; exact place_append (by simp)
    have ih := classesFrom_place f m (l ++ [a])
    rw [show l ++ [a] ++ m = l ++ a :: m by simp] at ih
    simp only [nl, List.map_cons, classesFrom, e] at ih ⊢
    by_cases h : f a ∈ (pickBy f l).map f
    · have h1 : pickBy f (l ++ [a]) = pickBy f l := by rw [pickBy_snoc, if_pos h]
      have h2 := place_lt (f := f) (l := l ++ [a]) (s := a) (by simp)
      rw [h1] at h2 ih
      rw [if_neg (by omega), if_neg (by omega)]
      exact ih
    · have h1 : pickBy f (l ++ [a]) = pickBy f l ++ [a] := by rw [pickBy_snoc, if_neg h]
      have h2 : place f (l ++ [a]) a = (pickBy f l).length := by
        unfold place; rw [h1, List.map_append, List.map_cons, List.map_nil, idxOf_append_new h, List.length_map]
      rw [h1, List.length_append, List.length_singleton] at ih
      rw [if_neg (by omega), if_pos (by omega)]
      exact ih
end
theorem classes_uniq (l : List Int) : ∀ n k, classesFrom n l = some k → l.foldl addNew (nl (List.range n)) = nl (List.range k) := by
  induction l with
  | nil => intro n k h; simp [classesFrom] at h; subst h; rfl
  | cons a l ih =>
    intro n k h
    simp only [classesFrom] at h
    split at h
    · cases h
    · rename_i hn
      have ha : a = ((a.toNat : Nat) : Int) := by omega
      split at h
      · rename_i he
        subst he
        have := ih _ _ h
        rw [List.foldl_cons]
        have e : addNew (nl (List.range n)) (n : Int) = nl (List.range (n + 1)) := by
          unfold addNew
          rw [if_neg (fun hm => by rw [mem_nl, List.mem_range] at hm; omega), List.range_succ, nl_append]; rfl
        rw [e]; exact this
      · rename_i he
        have := ih _ _ h
        rw [List.foldl_cons]
        have e : addNew (nl (List.range n)) a = nl (List.range n) := by
          unfold addNew
          rw [if_pos (by rw [ha, mem_nl, List.mem_range]; omega)]
        rw [e]; exact this

theorem valid_k {d : Dfa} (hv : Valid d) : classesFrom 0 d.cls = some (kN d) := by
  obtain ⟨h1, h2, h3, k, hk, hr⟩ := hv
  have := (hr 0 (by omega)).2.2.1
  unfold kN
  rw [this]; exact hk
theorem cls_range {d : Dfa} (hv : Valid d) {x : Int} (hx : x ∈ d.cls) : 0 ≤ x ∧ x < kN d := classesFrom_lt _ _ _ (valid_k hv) x hx
theorem cls_uniq {d : Dfa} (hv : Valid d) : uniq d.cls = nl (List.range (kN d)) := classes_uniq _ _ _ (valid_k hv)
theorem cls_all {d : Dfa} (hv : Valid d) {c : Nat} (hc : c < kN d) : (c : Int) ∈ d.cls := by
  rw [← mem_uniq, cls_uniq hv, mem_nl, List.mem_range]; exact hc
theorem heads_pos {d : Dfa} (hv : Valid d) : 0 < (heads d).length := Nat.lt_of_le_of_lt (Nat.zero_le _) (num_lt (zero_reach hv))
theorem head_mem {d : Dfa} {i : Nat} (hi : i < (heads d).length) : (heads d).getD i 0 ∈ reach d := heads_mem (getD_mem _ _ _ hi)
theorem reach_lt {d : Dfa} (hv : Valid d) {s : Nat} (h : s ∈ reach d) : s < d.next.length := (reach_met hv).2.1 s h
theorem stepN_mem {d : Dfa} (hv : Valid d) {i c : Nat} (hi : i < d.next.length) (hc : c < kN d) : stepN d i c ∈ rowN d i := by
  unfold stepN
  exact getD_mem _ _ _ (by rw [rowN_len hv hi]; exact hc)
theorem reach_stepN {d : Dfa} (hv : Valid d) {s c : Nat} (hs : s ∈ reach d) (hc : c < kN d) : stepN d s c ∈ reach d := reach_step hv hs (stepN_mem hv (reach_lt hv hs) hc)
theorem num_congr {d : Dfa} {a b : Nat} (h : Eqv d a b) : num d a = num d b := place_congr (repN_eq.2 h)
theorem num_inj {d : Dfa} {a b : Nat} (ha : a ∈ reach d) (hb : b ∈ reach d) (h : num d a = num d b) : Eqv d a b := repN_eq.1 (place_inj ha hb h)
theorem head_num {d : Dfa} {s : Nat} (h : s ∈ reach d) : Eqv d ((heads d).getD (num d s) 0) s := repN_eq.1 (pick_place h)
theorem num_head {d : Dfa} {i : Nat} (hi : i < (heads d).length) : num d ((heads d).getD i 0) = i := place_pick hi

theorem rowsD_length (d : Dfa) : (rowsD d).length = (heads d).length := by simp [rowsD]
theorem rowsD_getD (d : Dfa) {i : Nat} (hi : i < (heads d).length) : (rowsD d).getD i [] = nl ((rowN d ((heads d).getD i 0)).map (num d)) := by
  simp [rowsD, List.getD, hi]
theorem rowsD_cell {d : Dfa} (hv : Valid d) {i c : Nat} (hi : i < (heads d).length) (hc : c < kN d) : ((rowsD d).getD i []).getD c 0 = (num d (stepN d ((heads d).getD i 0) c) : Nat) := by
  rw [rowsD_getD d hi, nl_getD]
  have h := rowN_len hv (reach_lt hv (head_mem hi))
  unfold stepN
  have h2 : c < (rowN d ((heads d).getD i 0)).length := by rw [h]; exact hc
  simp only [List.getD_eq_getElem?_getD, List.getElem?_map] at h2 ⊢
  rw [List.getElem?_eq_getElem h2]; rfl
noncomputable def leftD (d : Dfa) : List Int := leftI (rowsD d) d.cls
theorem left_mem {d : Dfa} {c : Nat} (hc : c < (leftD d).length) : (leftD d).getD c 0 ∈ d.cls := mem_pickBy (f := colI (rowsD d)) (getD_mem _ _ _ hc)
theorem left_range {d : Dfa} (hv : Valid d) {c : Nat} (hc : c < (leftD d).length) : 0 ≤ (leftD d).getD c 0 ∧ (leftD d).getD c 0 < kN d := cls_range hv (left_mem hc)
theorem make_rule {d : Dfa} {i : Nat} (hi : i < (heads d).length) : ruleN (makeD d) i = ruleN d ((heads d).getD i 0) := by
  simp [ruleN, makeD, List.getD, hi]
theorem make_len (d : Dfa) : (makeD d).next.length = (heads d).length := by simp [makeD, nextI, rowsD_length]
theorem make_row {d : Dfa} {i : Nat} (hi : i < (heads d).length) : (makeD d).next.getD i [] = (leftD d).map fun k => ((rowsD d).getD i []).getD k.toNat 0 := by
  have : i < (rowsD d).length := by rw [rowsD_length]; exact hi
  simp [makeD, nextI, leftD, List.getD, this]
theorem make_kN {d : Dfa} (hv : Valid d) : kN (makeD d) = (leftD d).length := by
  unfold kN; rw [make_row (heads_pos hv), List.length_map]
theorem make_cell {d : Dfa} (hv : Valid d) {i c : Nat} (hi : i < (heads d).length) (hc : c < (leftD d).length) : ((makeD d).next.getD i []).getD c 0 = (num d (stepN d ((heads d).getD i 0) ((leftD d).getD c 0).toNat) : Nat) := by
  have h := left_range hv hc
  rw [← rowsD_cell hv hi (by omega), make_row hi, List.getD_eq_getElem?_getD, List.getElem?_map, List.getElem?_eq_getElem hc, List.getD_eq_getElem?_getD (l := leftD d), List.getElem?_eq_getElem hc]; rfl
theorem head_step {d : Dfa} (hv : Valid d) {i c : Nat} (hi : i < (heads d).length) (hc : c < kN d) : num d (stepN d ((heads d).getD i 0) c) < (heads d).length := num_lt (reach_stepN hv (head_mem hi) hc)
theorem make_valid {d : Dfa} (hv : Valid d) : Valid (makeD d) := by
  have hp := heads_pos hv
  have hle := heads_len hv
  have h2 := hv.2.1
  refine ⟨by rw [make_len]; omega, by rw [make_len]; omega, by rw [make_len]; simp [makeD], (leftD d).length, ?_, fun i hi => ?_⟩
  · have := classesFrom_place (colI (rowsD d)) d.cls []
    simpa [makeD, clsI, leftD, leftI, pickBy] using this
  · rw [make_len] at hi ⊢
    have hr := make_rule hi
    unfold ruleN at hr
    obtain ⟨-, -, h3, k, hk, hrr⟩ := id hv
    obtain ⟨h4, h5, -, -⟩ := hrr _ (reach_lt hv (head_mem hi))
    refine ⟨by rw [hr]; exact h4, by rw [hr]; exact h5, by rw [make_row hi, List.length_map], fun j hj => ?_⟩
    rw [make_row hi, List.length_map] at hj
    rw [make_cell hv hi hj]
    have := left_range hv hj
    have := head_step hv hi (c := ((leftD d).getD j 0).toNat) (by omega)
    omega

/-- of a state that is reached, a step goes on as in the one that is made -/
theorem make_stepN {d : Dfa} (hv : Valid d) {s c : Nat} (hs : s ∈ reach d) (hc : c < (leftD d).length) : stepN (makeD d) (num d s) c = num d (stepN d s ((leftD d).getD c 0).toNat) := by
  have h := num_lt hs
  have hl := left_range hv hc
  have hm := make_row h
  have e : stepN (makeD d) (num d s) c = (((makeD d).next.getD (num d s) []).getD c 0).toNat := by
    have hc' : c < ((makeD d).next.getD (num d s) []).length := by rw [hm, List.length_map]; exact hc
    unfold stepN rowN
    simp only [List.getD_eq_getElem?_getD, List.getElem?_map] at hc' ⊢
    rw [List.getElem?_eq_getElem hc']; rfl
  rw [e, make_cell hv h hc]
  have h2 := (head_num hs).step (c := ((leftD d).getD c 0).toNat) (by omega)
  rw [num_congr h2]; rfl
noncomputable def colP (d : Dfa) (x : Int) : Nat := place (colI (rowsD d)) d.cls x
theorem colP_lt {d : Dfa} {x : Int} (hx : x ∈ d.cls) : colP d x < (leftD d).length := place_lt hx
theorem col_eq_of {rows : List (List Int)} {a b : Int} (h : colI rows a = colI rows b) {j : Nat} (hj : j < rows.length) : (rows.getD j []).getD a.toNat 0 = (rows.getD j []).getD b.toNat 0 := by
  have := congrArg (fun l => l[j]?) h
  simp only [colI, List.getElem?_map, List.getElem?_eq_getElem hj, Option.map_some, Option.some.injEq] at this
  simpa [List.getD, hj] using this
theorem make_stepP {d : Dfa} (hv : Valid d) {s c : Nat} (hs : s ∈ reach d) (hc : c < kN d) : stepN (makeD d) (num d s) (colP d c) = num d (stepN d s c) := by
  have hx := cls_all hv hc
  rw [make_stepN hv hs (colP_lt hx)]
  have h := num_lt hs
  have hcol := col_eq_of (pick_place (f := colI (rowsD d)) (z := 0) hx) (j := num d s) (by rw [rowsD_length]; exact h)
  change ((rowsD d).getD (num d s) []).getD ((leftD d).getD (colP d c) 0).toNat 0 = _ at hcol
  have hl := left_range hv (colP_lt hx)
  rw [rowsD_cell hv h (by omega), Int.toNat_natCast, rowsD_cell hv h hc] at hcol
  have h1 := num_congr ((head_num hs).step (c := ((leftD d).getD (colP d c) 0).toNat) (by omega))
  have h2 := num_congr ((head_num hs).step hc)
  omega
theorem make_runFrom {d : Dfa} (hv : Valid d) (hl : d.cls.length = 256) (t : List UInt8) : ∀ s, s ∈ reach d → ∃ u, u ∈ reach d ∧ runFrom d (s : Nat) t = (u : Nat) ∧ runFrom (makeD d) (num d s : Nat) t = (num d u : Nat) := by
  induction t with
  | nil => intro s hs; exact ⟨s, hs, rfl, rfl⟩
  | cons b t ih =>
    intro s hs
    have hb : b.toNat < 256 := b.toNat_lt
    have hm : d.cls.getD b.toNat 0 ∈ d.cls := getD_mem _ _ _ (by omega)
    have hr := cls_range hv hm
    obtain ⟨c, hc⟩ : ∃ c : Nat, d.cls.getD b.toNat 0 = c := ⟨(d.cls.getD b.toNat 0).toNat, by omega⟩
    have hck : c < kN d := by omega
    obtain ⟨u, h1, h2, h3⟩ := ih _ (reach_stepN hv hs hck)
    refine ⟨u, h1, ?_, ?_⟩
    · rw [← h2]
      unfold runFrom
      rw [hc, Int.toNat_natCast, Int.toNat_natCast]
      have hcl : c < (d.next.getD s []).length := by rw [row_len hv (reach_lt hv hs)]; exact hck
      have hnn := step_lt hv (reach_lt hv hs) hck
      have e : (d.next.getD s []).getD c 0 = (stepN d s c : Nat) := by
        obtain ⟨_, _, _, k, hk, hrr⟩ := id hv
        have := (hrr s (reach_lt hv hs)).2.2.2 c hcl
        have e2 : stepN d s c = ((d.next.getD s []).getD c 0).toNat := by
          unfold stepN rowN
          simp only [List.getD_eq_getElem?_getD, List.getElem?_map] at hcl ⊢
          rw [List.getElem?_eq_getElem hcl]; rfl
        omega
      rw [e]
      cases t <;> rfl
    · rw [← h3]
      have hcm : (makeD d).cls.getD b.toNat 0 = (colP d c : Nat) := by
        have : b.toNat < d.cls.length := by omega
        rw [show (makeD d).cls = clsI (rowsD d) d.cls from rfl, clsI, nl_getD]
        simp only [List.getD_eq_getElem?_getD, List.getElem?_map, List.getElem?_eq_getElem this] at hc ⊢
        simp only [Option.getD_some] at hc
        rw [hc]; rfl
      have hcx := cls_all hv hck
      have hlt := colP_lt hcx
      have e : ((makeD d).next.getD (num d s) []).getD (colP d c) 0 = (num d (stepN d s c) : Nat) := by
        rw [← make_stepP hv hs hck, make_stepN hv hs hlt, make_cell hv (num_lt hs) hlt]
        have hlr := left_range hv hlt
        rw [num_congr ((head_num hs).step (c := ((leftD d).getD (colP d c) 0).toNat) (by omega))]
      rw [show runFrom (makeD d) (num d s : Nat) (b :: t) = runFrom (makeD d) (((makeD d).next.getD (num d s : Int).toNat []).getD ((makeD d).cls.getD b.toNat 0).toNat 0) t from rfl, hcm, Int.toNat_natCast, Int.toNat_natCast, e]
theorem num_zero {d : Dfa} (hv : Valid d) : num d 0 = 0 := by
  have h := (reach_met hv).1
  have hr : 0 < (reach d).length := List.length_pos_of_mem (zero_reach hv)
  have h1 := h.take hr
  have h2 : upTo (rowN d) [] = [0] := by simp [upTo, uniq, addNew]
  rw [List.take_zero, h2] at h1
  have h3 : ∃ l, reach d = 0 :: l := by
    cases hq : reach d with
    | nil => rw [hq] at hr; cases hr
    | cons a l => rw [hq] at h1; simp at h1; subst h1; exact ⟨l, rfl⟩
  obtain ⟨l, hl⟩ := h3
  unfold num; rw [hl]; exact place_cons_zero _ _
theorem make_after {d : Dfa} (hv : Valid d) (hl : d.cls.length = 256) (t : List UInt8) : afterI (makeD d) t = afterI d t := by
  obtain ⟨u, h1, h2, h3⟩ := make_runFrom hv hl t 0 (zero_reach hv)
  have h4 := make_rule (num_lt h1)
  have h5 := (head_num h1).rules
  rw [num_zero hv] at h3
  unfold afterI
  rw [if_pos hv, if_pos (make_valid hv)]
  change runFrom d 0 t = _ at h2
  change runFrom (makeD d) 0 t = _ at h3
  rw [h2, h3, Int.toNat_natCast, Int.toNat_natCast]
  exact h4.trans h5
end Go.Cm
