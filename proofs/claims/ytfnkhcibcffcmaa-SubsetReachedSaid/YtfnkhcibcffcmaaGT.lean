/- Texts of this claim, joined: walks of small functions and plain facts about them. Conditions: as each says. -/
import Derived.Test.YtfnkhcibcffcmaaGA
import Derived.Maps.Own
import Derived.Maps.OwnOps
import Derived.Maps.OwnSet
import Derived.Maps.Views
/- The least automaton, in plain Lean: states that are reached, states that are alike, the automaton made of them. Conditions: none. -/
namespace Go.Cm

/-- ints of naturals -/
def nl (l : List Nat) : List Int := l.map fun n : Nat => (n : Int)
@[simp] theorem nl_length (l : List Nat) : (nl l).length = l.length := by simp [nl]
theorem nl_getD (l : List Nat) (k : Nat) : (nl l).getD k 0 = ((l.getD k 0 : Nat) : Int) := by
  simp only [nl, List.getD_eq_getElem?_getD, List.getElem?_map]
  cases l[k]? <;> simp
theorem nl_append (a b : List Nat) : nl (a ++ b) = nl a ++ nl b := by simp [nl]
theorem mem_nl {l : List Nat} {n : Nat} : (n : Int) ∈ nl l ↔ n ∈ l := by
  simp only [nl, List.mem_map]
  exact ⟨fun ⟨a, h, e⟩ => by have : a = n := by omega
                             exact this ▸ h, fun h => ⟨n, h, rfl⟩⟩
theorem nl_inj {a b : List Nat} (h : nl a = nl b) : a = b := by
  have := congrArg (List.map Int.toNat) h
  simpa [nl, Function.comp_def] using this

/-- the row of a state, as naturals -/
def rowN (d : Dfa) (i : Nat) : List Nat := (d.next.getD i []).map Int.toNat
def pushNew (out : List Nat) (to : Nat) : List Nat := if to ∈ out then out else out ++ [to]
def scanRow (out row : List Nat) : List Nat := row.foldl pushNew out
def reachFrom (d : Dfa) : Nat → Nat → List Nat → List Nat
  | 0, _, out => out
  | f + 1, i, out => if i < out.length then reachFrom d f (i + 1) (scanRow out (rowN d (out.getD i 0))) else out
/-- the states that are reached, in the order in which they are met -/
def reach (d : Dfa) : List Nat := reachFrom d (d.next.length + 1) 0 [0]

theorem scanRow_take_succ (out row : List Nat) (k : Nat) (h : k < row.length) : scanRow out (row.take (k + 1)) = pushNew (scanRow out (row.take k)) (row.getD k 0) := by
  unfold scanRow
  rw [take_succ_getD row k 0 h, List.foldl_append]; rfl
theorem pushNew_nodup {out : List Nat} {to : Nat} (h : out.Nodup) : (pushNew out to).Nodup := by
  unfold pushNew; split
  · exact h
  · rename_i hn; rw [List.nodup_append]; exact ⟨h, by simp, fun a ha b hb e => by simp at hb; subst hb; subst e; exact hn ha⟩
theorem pushNew_mem {out : List Nat} {to x : Nat} : x ∈ pushNew out to ↔ x ∈ out ∨ x = to := by
  unfold pushNew; split
  · rename_i h; exact ⟨.inl, fun q => q.elim id (fun e => e ▸ h)⟩
  · simp
theorem pushNew_len {out : List Nat} {to : Nat} : out.length ≤ (pushNew out to).length := by unfold pushNew; split <;> simp
theorem pushNew_getD {out : List Nat} {to i : Nat} (h : i < out.length) : (pushNew out to).getD i 0 = out.getD i 0 := by
  unfold pushNew; split
  · rfl
  · simp [List.getD, List.getElem?_append_left h]
theorem scanRow_spec (row : List Nat) : ∀ out, (out.Nodup → (scanRow out row).Nodup) ∧ (∀ x, x ∈ scanRow out row ↔ x ∈ out ∨ x ∈ row) ∧ out.length ≤ (scanRow out row).length ∧ ∀ i, i < out.length → (scanRow out row).getD i 0 = out.getD i 0 := by
  induction row with
  | nil => intro out; simp [scanRow]
  | cons a row ih =>
    intro out
    obtain ⟨h1, h2, h3, h4⟩ := ih (pushNew out a)
    refine ⟨fun h => h1 (pushNew_nodup h), fun x => ?_, Nat.le_trans pushNew_len h3, fun i hi => ?_⟩
    · show x ∈ scanRow (pushNew out a) row ↔ _
      rw [h2, pushNew_mem, List.mem_cons]
      constructor
      · rintro ((h | h) | h)
        · exact .inl h
        · exact .inr (.inl h)
        · exact .inr (.inr h)
      · rintro (h | h | h)
        · exact .inl (.inl h)
        · exact .inl (.inr h)
        · exact .inr h
    · show (scanRow (pushNew out a) row).getD i 0 = _
      rw [h4 i (Nat.lt_of_lt_of_le hi pushNew_len), pushNew_getD hi]
theorem nodup_bound {l : List Nat} {n : Nat} (h : l.Nodup) (hb : ∀ x ∈ l, x < n) : l.length ≤ n := by
  induction n generalizing l with
  | zero => cases l with
    | nil => simp
    | cons a l => exact absurd (hb a (by simp)) (by omega)
  | succ n ih =>
    have h1 : (l.filter (· ≠ n)).length ≤ n := ih (h.filter _) (fun x hx => by
      have := hb x (List.mem_filter.1 hx).1
      have h2 : x ≠ n := by simpa using (List.mem_filter.1 hx).2
      omega)
    have h2 : l.length ≤ (l.filter (· ≠ n)).length + 1 := by
      have hsplit : ∀ (l : List Nat), l.Nodup → l.length ≤ (l.filter (· ≠ n)).length + 1 := by
        intro l
        induction l with
        | nil => intro _; simp
        | cons a l ih =>
          intro hd
          rw [List.nodup_cons] at hd
          by_cases ha : a = n
          · have : l.filter (· ≠ n) = l := by
              rw [List.filter_eq_self]; intro b hb
              have : b ≠ n := fun e => hd.1 (by rw [ha, ← e]; exact hb)
              simpa using this
            rw [List.filter_cons, if_neg (by simp [ha]), this]; simp
          · have := ih hd.2
            simp only [List.filter_cons, ha, ne_eq, not_false_eq_true, decide_true, if_true, List.length_cons] at this ⊢
            omega
      exact hsplit l h
    omega
/-- more fuel changes nothing once the list is run through -/
theorem reachFrom_done (d : Dfa) (i : Nat) (out : List Nat) (h : out.length ≤ i) : ∀ f, reachFrom d f i out = out
  | 0 => rfl
  | f + 1 => by simp [reachFrom, Nat.not_lt.2 h]
end Go.Cm

/- One of each that a reading tells apart, in plain Lean. Conditions: none. -/
namespace Go.Cm

section
variable {α β : Type} [DecidableEq β]
/-- one of each that a reading cannot tell apart: the first that is met -/
def pickBy (f : α → β) (l : List α) : List α := l.foldl (fun ks s => if f s ∈ ks.map f then ks else ks ++ [s]) []
theorem pickBy_snoc (f : α → β) (l : List α) (s : α) : pickBy f (l ++ [s]) = if f s ∈ (pickBy f l).map f then pickBy f l else pickBy f l ++ [s] := by
  unfold pickBy; rw [List.foldl_append]; rfl
theorem list_snoc_ind {α : Type} {P : List α → Prop} (h0 : P []) (h : ∀ l a, P l → P (l ++ [a])) (l : List α) : P l := by
  have : ∀ n (l : List α), l.length = n → P l := by
    intro n
    induction n with
    | zero => intro l hl; obtain rfl := List.length_eq_zero_iff.1 hl; exact h0
    | succ n ih =>
      intro l hl
      have hne : l ≠ [] := by intro e; subst e; cases hl
      have := List.dropLast_concat_getLast hne
      rw [← this]
      exact h _ _ (ih _ (by simp [hl]))
  exact this _ l rfl
theorem pickBy_map (f : α → β) (l : List α) : (pickBy f l).map f = uniq (l.map f) := by
  induction l using list_snoc_ind with
  | h0 => rfl
  | h l s ih =>
    rw [List.map_append, List.map_cons, List.map_nil, uniq_snoc, pickBy_snoc, ← ih]
    unfold addNew
    split
    · rfl
    · simp
theorem mem_pickBy {f : α → β} {l : List α} {x : α} (h : x ∈ pickBy f l) : x ∈ l := by
  induction l using list_snoc_ind with
  | h0 => cases h
  | h l s ih =>
    rw [pickBy_snoc] at h
    split at h
    · exact List.mem_append_left _ (ih h)
    · rcases List.mem_append.1 h with h | h
      · exact List.mem_append_left _ (ih h)
      · exact List.mem_append_right _ h
theorem pickBy_len (f : α → β) (l : List α) : (pickBy f l).length ≤ l.length := by
  have h := congrArg List.length (pickBy_map f l)
  rw [List.length_map] at h
  rw [h]
  have := uniq_len (l.map f)
  rwa [List.length_map] at this
/-- the list is not longer than what it is picked from, and grows at its end -/
theorem pickBy_append (f : α → β) (l m : List α) : ∃ k, pickBy f (l ++ m) = pickBy f l ++ k := by
  induction m using list_snoc_ind with
  | h0 => exact ⟨[], by simp⟩
  | h m s ih =>
    obtain ⟨k, hk⟩ := ih
    rw [← List.append_assoc, pickBy_snoc]
    split
    · exact ⟨k, hk⟩
    · exact ⟨k ++ [s], by rw [hk, List.append_assoc]⟩
/-- the place of a thing among those that were picked -/
def place (f : α → β) (l : List α) (s : α) : Nat := idx ((pickBy f l).map f) (f s)
theorem place_lt {f : α → β} {l : List α} {s : α} (h : s ∈ l) : place f l s < (pickBy f l).length := by
  have : f s ∈ (pickBy f l).map f := by rw [pickBy_map, mem_uniq]; exact List.mem_map_of_mem h
  have := idxOf_lt this
  simpa [place] using this
theorem place_append {f : α → β} {l m : List α} {s : α} (h : s ∈ l) : place f (l ++ m) s = place f l s := by
  obtain ⟨k, hk⟩ := pickBy_append f l m
  unfold place
  rw [hk, List.map_append, idxOf_append_left]
  rw [pickBy_map, mem_uniq]; exact List.mem_map_of_mem h
/-- readings that tell the same things apart -/
theorem pickBy_congr {γ : Type} [DecidableEq γ] {f : α → β} {g : α → γ} {l : List α} (h : ∀ a ∈ l, ∀ b ∈ l, f a = f b ↔ g a = g b) : pickBy f l = pickBy g l ∧ ∀ s ∈ l, place f l s = place g l s := by
  have h1 : pickBy f l = pickBy g l := by
    have : ∀ m, (∀ a ∈ m, a ∈ l) → pickBy f m = pickBy g m := by
      intro m
      induction m using list_snoc_ind with
      | h0 => intro _; rfl
      | h m s ih =>
        intro hm
        have ih := ih fun a ha => hm a (List.mem_append_left _ ha)
        have hs := hm s (by simp)
        rw [pickBy_snoc, pickBy_snoc, ← ih]
        have e : f s ∈ (pickBy f m).map f ↔ g s ∈ (pickBy f m).map g := by
          simp only [List.mem_map]
          constructor
          · rintro ⟨a, ha, he⟩; exact ⟨a, ha, (h a (hm a (List.mem_append_left _ (mem_pickBy ha))) s hs).1 he⟩
          · rintro ⟨a, ha, he⟩; exact ⟨a, ha, (h a (hm a (List.mem_append_left _ (mem_pickBy ha))) s hs).2 he⟩
        simp only [e]
    exact this l fun _ h => h
  refine ⟨h1, fun s hs => ?_⟩
  unfold place
  rw [← h1]
  have : ∀ m : List α, (∀ a ∈ m, a ∈ l) → idx (m.map f) (f s) = idx (m.map g) (g s) := by
    intro m
    unfold idx
    induction m with
    | nil => intro _; simp
    | cons a m ih =>
      intro hm
      have e := h a (hm a (by simp)) s hs
      simp only [List.map_cons, List.idxOf_cons]
      by_cases hf : f a = f s
      · have h1 : (f a == f s) = true := by simpa using hf
        have h2 : (g a == g s) = true := by simpa using e.1 hf
        rw [h1, h2]; simp
      · have h1 : (f a == f s) = false := by simpa using hf
        have h2 : (g a == g s) = false := by simpa using fun q => hf (e.2 q)
        rw [h1, h2, ih fun a ha => hm a (by simp [ha])]
  exact this _ fun a ha => mem_pickBy ha
end

section
variable {α β : Type} [DecidableEq β] {f : α → β} {l F : List α} {k q : Nat} {s z : α}
theorem take_succ_getD' (hk : k < l.length) (hs : l.getD k z = s) : l.take (k + 1) = l.take k ++ [s] := by
  rw [List.take_succ_eq_append_getElem hk, ← hs]; simp [List.getD, hk]
theorem idxOf_le (l : List β) (q : Nat) (x : β) (h : l[q]? = some x) : l.idxOf x ≤ q := by
  induction l generalizing q with
  | nil => simp at h
  | cons a l ih =>
    rw [List.idxOf_cons]
    cases q with
    | zero => simp at h; subst h; simp
    | succ q =>
      have := ih q (by simpa using h)
      cases a == x
      · simpa using this
      · simp
theorem place_found (hk : k < l.length) (hs : l.getD k z = s) (hF : pickBy f (l.take k) = F) (hq : q < F.length) (h1 : ∀ a, a < q → f (F.getD a z) ≠ f s) (h2 : f (F.getD q z) = f s) : pickBy f (l.take (k + 1)) = F ∧ place f l s = q := by
  have e := take_succ_getD' hk hs
  have hm : f s ∈ F.map f := List.mem_map.2 ⟨F.getD q z, getD_mem F q z hq, h2⟩
  have h3 : pickBy f (l.take (k + 1)) = F := by rw [e, pickBy_snoc, hF, if_pos hm]
  refine ⟨h3, ?_⟩
  have h4 := place_append (f := f) (l := l.take (k + 1)) (m := l.drop (k + 1)) (s := s) (by rw [e]; simp)
  rw [List.take_append_drop] at h4
  rw [h4]
  unfold place
  rw [h3]
  unfold idx
  have h5 : (F.map f).idxOf (f s) < (F.map f).length := List.idxOf_lt_length_of_mem hm
  have h6 := List.getElem_idxOf h5
  rw [List.length_map] at h5
  rw [List.getElem_map] at h6
  rcases Nat.lt_trichotomy ((F.map f).idxOf (f s)) q with h | h | h
  · exact absurd (by rw [List.getD_eq_getElem?_getD, List.getElem?_eq_getElem h5]; exact h6) (h1 _ h)
  · exact h
  · exfalso
    have h7 : (F.map f)[q]? = some (f s) := by
      rw [List.getElem?_map, List.getElem?_eq_getElem hq, Option.map_some, ← h2, List.getD_eq_getElem?_getD, List.getElem?_eq_getElem hq, Option.getD_some]
    have h8 := idxOf_le _ _ _ h7
    omega
theorem place_new (hk : k < l.length) (hs : l.getD k z = s) (hF : pickBy f (l.take k) = F) (h1 : ∀ a, a < F.length → f (F.getD a z) ≠ f s) : pickBy f (l.take (k + 1)) = F ++ [s] ∧ place f l s = F.length := by
  have e := take_succ_getD' hk hs
  have hm : f s ∉ F.map f := fun h => by
    obtain ⟨x, hx, he⟩ := List.mem_map.1 h
    obtain ⟨a, ha, rfl⟩ := List.mem_iff_getElem.1 hx
    exact h1 a ha (by rw [List.getD_eq_getElem?_getD, List.getElem?_eq_getElem ha]; exact he)
  have h3 : pickBy f (l.take (k + 1)) = F ++ [s] := by rw [e, pickBy_snoc, hF, if_neg hm]
  refine ⟨h3, ?_⟩
  have h4 := place_append (f := f) (l := l.take (k + 1)) (m := l.drop (k + 1)) (s := s) (by rw [e]; simp)
  rw [List.take_append_drop] at h4
  rw [h4]
  unfold place
  rw [h3, List.map_append, List.map_cons, List.map_nil, idxOf_append_new hm, List.length_map]
end

theorem uniq_append {α : Type} [DecidableEq α] (l m : List α) : uniq (l ++ m) = m.foldl addNew (uniq l) := by unfold uniq; rw [List.foldl_append]
theorem foldl_addNew_prefix {α : Type} [DecidableEq α] (m l : List α) : ∃ k, m.foldl addNew l = l ++ k := by
  induction m generalizing l with
  | nil => exact ⟨[], by simp⟩
  | cons a m ih =>
    obtain ⟨k, hk⟩ := ih (addNew l a)
    rw [List.foldl_cons, hk]
    unfold addNew; split
    · exact ⟨k, rfl⟩
    · exact ⟨a :: k, by simp⟩
theorem uniq_prefix {α : Type} [DecidableEq α] (l m : List α) : ∃ k, uniq (l ++ m) = uniq l ++ k := by
  rw [uniq_append]; exact foldl_addNew_prefix m (uniq l)
section
variable {α β : Type} [DecidableEq β] {f : α → β}
theorem classesFrom_place (f : α → β) : ∀ (m l : List α), classesFrom (pickBy f l).length (nl (m.map (place f (l ++ m)))) = some (pickBy f (l ++ m)).length
  | [], l => by simp [nl, classesFrom]
  | a :: m, l => by
    have e : place f (l ++ a :: m) a = place f (l ++ [a]) a := by
      rw [show l ++ a :: m = l ++ [a] ++ m by simp]; exact place_append (by simp)
    have ih := classesFrom_place f m (l ++ [a])
    rw [show l ++ [a] ++ m = l ++ a :: m by simp] at ih
    simp only [nl, List.map_cons, classesFrom, e] at ih ⊢
    by_cases h : f a ∈ (pickBy f l).map f
    · have h1 : pickBy f (l ++ [a]) = pickBy f l := by rw [pickBy_snoc, if_pos h]
      have h2 := place_lt (f := f) (l := l ++ [a]) (s := a) (by simp)
      rw [h1] at h2 ih
      rw [if_neg (by omega), if_neg (by omega)]
      exact ih
    · have h1 : pickBy f (l ++ [a]) = pickBy f l ++ [a] := by rw [pickBy_snoc, if_neg h]
      have h2 : place f (l ++ [a]) a = (pickBy f l).length := by
        unfold place; rw [h1, List.map_append, List.map_cons, List.map_nil, idxOf_append_new h, List.length_map]
      rw [h1, List.length_append, List.length_singleton] at ih
      rw [if_neg (by omega), if_pos (by omega)]
      exact ih
end
end Go.Cm

/- The walks of the functions that look at an automaton without changing it. Conditions: the arguments read as the data. -/
namespace Go.Cm
open Go.RowKit Go.Proofs

/-- an automaton as a value: its cells -/
structure DfaV (w : World) (A : Array Value) (d : Dfa) : Prop where
  hsize : A.size = 258
  hlen : d.cls.length = 256
  hcls : ∀ i, i < 256 → A[i]? = some (.int .i64 (d.cls.getD i 0))
  hnext : ∃ v, A[256]? = some v ∧ RowsAt w v d.next
  hrules : ∃ v, A[257]? = some v ∧ IntsAt w v d.rules
def DfaAt (w : World) (v : Value) (d : Dfa) : Prop := ∃ A, v = .agg A ∧ DfaV w A d
theorem DfaV.up {w w' : World} {A : Array Value} {d : Dfa} (h : DfaV w A d) (hb : Below w.heap.size w w') : DfaV w' A d :=
  ⟨h.hsize, h.hlen, h.hcls, h.hnext.imp fun _ h => ⟨h.1, h.2.up hb⟩, h.hrules.imp fun _ h => ⟨h.1, h.2.up hb⟩⟩
theorem DfaAt.up {w w' : World} {v : Value} {d : Dfa} (h : DfaAt w v d) (hb : Below w.heap.size w w') : DfaAt w' v d := by
  obtain ⟨A, rfl, h⟩ := h; exact ⟨A, rfl, h.up hb⟩
/-- an automaton read out of its variable -/
theorem load_dfa {ops : Array Oper} {rest : List Oper} {o : Oper} {a : Act} {w : World} {Q : Exit → Act → World → Prop} (hgd : o.guard = none) (x : Operand) (ho : o.op = .load 33 x)
    (g : Nat) (hx : a.eval x = .pointer (some ⟨g, 0, none⟩)) (A : Array Value) (hs : A.size = 258) (hg : w.heap[g]? = some (.cells A 33 (0, 0)))
    (h : wpList Try.prog ops Q rest (a.put o.dst (.agg A)) w) : wpList Try.prog ops Q (o :: rest) a w :=
  wpList_load_sub hgd 33 x ho g 0 258 hx 33 A A (0, 0) _ hg Try.underlying33 rfl (by kernel_rfl) (by rw [hs]; decide) (by rw [← hs]; simp) h
theorem load_cls {ops : Array Oper} {rest : List Oper} {o : Oper} {a : Act} {w : World} {Q : Exit → Act → World → Prop} (hgd : o.guard = none) (x : Operand) (ho : o.op = .load 28 x)
    (g : Nat) (hx : a.eval x = .pointer (some ⟨g, 0, none⟩)) (A B : Array Value) (hs : A.size = 258) (hB : A.extract 0 256 = B) (hg : w.heap[g]? = some (.cells A 33 (0, 0)))
    (h : wpList Try.prog ops Q rest (a.put o.dst (.agg B)) w) : wpList Try.prog ops Q (o :: rest) a w :=
  wpList_load_sub hgd 28 x ho g 0 256 hx 33 A B (0, 0) _ hg Try.underlying28 rfl (by kernel_rfl) (by rw [hs]; decide) (by simpa using hB) h
theorem run_index_cls {B : Array Value} {i : Nat} {y : Int} (hi : i < 256) (h : B[i]? = some (.int .i64 y)) (W : World) : (Instr.index 28 (.agg B) (.int .i64 (i : Int))).run Try.prog W = .ok (.int .i64 y) W := by
  have h1 : (sizeOf 3).run Try.prog W = .ok 1 W := by kernel_rfl
  have h2 : (isAgg 3).run Try.prog W = .ok false W := by kernel_rfl
  have h3 : (0 : Int) ≤ i ∧ (i : Int) < 256 := by omega
  simp [Instr.index, asIntOf, run_underlying Try.underlying28, h3, part, h1, h2, Result.andThen, h, show ¬ 256 ≤ i from by omega]
theorem ret_bool {a b : Bool} (h : a = b) : Ending.returned (.bool a) = .returned (.bool b) := by rw [h]
theorem ret_int {a b : Int} (h : a = b) : Ending.returned (.int .i64 a) = .returned (.int .i64 b) := by rw [h]

set_option maxHeartbeats 400000 in
theorem ints_eqD (v v' : Value) (l l' : List Int) (w : World) (h : IntsAt w v l) (h' : IntsAt w v' l') :
    Calls Try.prog 47 #[v, v'] w fun e w' => e = .returned (.bool (decide (l = l'))) ∧ ∃ x, w' = ext w x := by
  obtain ⟨oa, cap, b, off, rfl, hd, hc⟩ := h.open
  obtain ⟨oa', cap', b', off', rfl, hd', hc'⟩ := h'.open
  have hix := index_any (P := Try.prog) 23 3 Try.underlying23 (by kernel_rfl) hd
  have hix' := index_any (P := Try.prog) 23 3 Try.underlying23 (by kernel_rfl) hd'
  have hm := hd.len
  have hm' := hd'.len
  by_cases hll : l.length = l'.length
  · have HL := Lib.hid hll
    have hbk : 0 < l.length → b < w.heap.size := hd.hblk
    have hbk' : 0 < l'.length → b' < w.heap.size := hd'.hblk
    have hlen : ∀ i, i < l.length → i < l'.length := fun i hi => by omega
    have HX := Lib.hid hlen
    have hnn : ((l.length : Int) != (l'.length : Int)) = false := by simp [hll]
    clear hll hlen hd hd'
    generalize hN : l.length = N at *
    generalize hM : l'.length = M at *
    have HN := Lib.hid hN; clear hN
    have HM := Lib.hid hM; clear hM
    go_enter Try.func47, Try.ntmps47
    go_wp2
    go_loopw [5] (fun i wr => ∃ k : Nat, k ≤ N ∧ i = .int .i64 k ∧ l.take k = l'.take k ∧ ∃ n, wr = w.drewN n) (fun i _ => N - (intOf i).toNat)
    case atStart => exact ⟨0, Nat.zero_le _, rfl, by simp, 0, rfl⟩
    case round =>
      obtain ⟨k, hk, rfl, hn, n, rfl⟩ := hrel
      have Hn := Lib.hid hn; clear hn
      by_cases hlt : k < N
      · have hlt' := HX.out k hlt
        have hck := hc k hlt
        have hck' := hc' k hlt'
        have hbb := hbk (by omega)
        have hbb' := hbk' (by omega)
        have HT := Lib.hid (take_succ_getD l k 0 (by rw [HN.out]; exact hlt))
        have HT' := Lib.hid (take_succ_getD l' k 0 (by rw [HM.out]; exact hlt'))
        have HG : Hid (∀ z : Int, l = l' → l.getD k 0 = z → l'.getD k 0 = z) := Lib.hid (fun z e h => by rw [← e]; exact h)
        generalize hy : l.getD k 0 = y at *
        generalize hy' : l'.getD k 0 = y' at *
        have HY := Lib.hid hy; clear hy
        have HY' := Lib.hid hy'; clear hy'
        clear hc hc'
        by_cases he : y = y'
        · subst he
          have hb : (y != y) = false := by simp
          go_wp2
          go_quiet (fail)
          go_wp2
          go_roundw
          case rel => exact ⟨k + 1, by omega, by go_num, by rw [HT.out, HT'.out, Hn.out], _, rfl⟩
          case measure => simp [intOf]; omega
        · have hb : (y != y') = true := by simpa using he
          go_wp2
          go_quiet (fail)
          go_wp2
          go_ret
          refine ⟨ret_bool ?_, (ex_ext (by repeat (first | exact Below.refl _ _ | assumption | refine b_drewN ?_ _ | refine Below.drew ?_ | refine b_ext' ?_ _ | refine b_alloc' ?_ _)))⟩
          have : ¬ l = l' := fun e => he (by have := HG.out y e rfl; omega)
          simp [this]
      · go_wp2
        go_ret
        refine ⟨ret_bool ?_, (ex_ext (by repeat (first | exact Below.refl _ _ | assumption | refine b_drewN ?_ _ | refine Below.drew ?_ | refine b_ext' ?_ _ | refine b_alloc' ?_ _)))⟩
        have h1 := Hn.out
        rw [List.take_of_length_le (by have := HN.out; omega), List.take_of_length_le (by have := HN.out; have := HM.out; have := HL.out; omega)] at h1
        simp [h1]
  · have hb : ((l.length : Int) != (l'.length : Int)) = true := by simp; omega
    go_enter Try.func47, Try.ntmps47
    go_wp2
    go_ret
    have : ¬ l = l' := fun e => hll (by rw [e])
    exact ⟨ret_bool (by simp [this]), refl_ext _⟩

end Go.Cm

/- The walks of Right, Run, After, Same over automata. Conditions: the arguments read as the data. -/
namespace Go.Cm
open Go.RowKit Go.Proofs


set_option maxRecDepth 100000 in
set_option maxHeartbeats 1000000 in
theorem rightRD (v : Value) (d : Dfa) (w : World) (h : DfaAt w v d) : Calls Try.prog 16 #[v] w fun e w' => e = .returned (.bool (rightB d)) ∧ ∃ x, w' = ext w x := by
  obtain ⟨A, rfl, hs, hl, hc, ⟨vn, hn, hrow⟩, ⟨vr, hr, hru⟩⟩ := h
  obtain ⟨oa, cap, b, off, rfl, hd, hro⟩ := hrow.open
  obtain ⟨oa', cap', b', off', rfl, hd', hrc⟩ := hru.open
  have hix := index_any (P := Try.prog) 31 23 Try.underlying31 (by kernel_rfl) hd
  have hix' := index_any (P := Try.prog) 23 3 Try.underlying23 (by kernel_rfl) hd'
  have hm := hd.len
  have hm' := hd'.len
  have HS := Lib.hid hs; clear hs
  have HLc := Lib.hid hl; clear hl
  have HCL := Lib.hid hc; clear hc
  have HR := Lib.hid hro; clear hro
  have HRC := Lib.hid hrc; clear hrc
  by_cases hok : (1 ≤ d.next.length ∧ d.next.length ≤ 1000) ∧ d.rules.length = d.next.length
  · obtain ⟨⟨h1, h2⟩, h3⟩ := hok
    have h5 : ((d.rules.length : Int) != (d.next.length : Int)) = false := by simp [h3]
    have H3 := Lib.hid h3; clear h3
    go_enter Try.func16, Try.ntmps16
    go_wp2
    go_loop [4, 5] (fun n i => ∃ k m : Nat, k ≤ 256 ∧ m ≤ k ∧ i = .int .i64 k ∧ n = .int .i64 m ∧ classesFrom 0 d.cls = classesFrom m (d.cls.drop k)) (fun _ i => 256 - (intOf i).toNat)
    case atStart => exact ⟨0, 0, Nat.zero_le _, Nat.le_refl _, rfl, rfl, rfl⟩
    case round =>
      obtain ⟨k, n, hk, hmk, rfl, rfl, heq⟩ := hrel
      have HE := Lib.hid heq; clear heq
      by_cases hlt : k < 256
      · have HD := Lib.hid (classesFrom_drop n d.cls k (by rw [HLc.out]; exact hlt))
        have hAk := HCL.out k hlt
        generalize d.cls.getD k 0 = y at *
        by_cases h1 : y < 0
        · have HF : Hid (¬ Valid d) := Lib.hid (fun hv => by
            obtain ⟨_, _, _, q, hq, -⟩ := hv
            rw [HE.out, HD.out, if_pos (Or.inl h1)] at hq; cases hq)
          go_wp2
          all_goals go_ret
          all_goals exact ⟨ret_bool (rightB_false HF.out).symm, (ex_ext (by repeat (first | exact Below.refl _ _ | assumption | refine b_drewN ?_ _ | refine Below.drew ?_ | refine b_ext' ?_ _ | refine b_alloc' ?_ _)))⟩
        · by_cases h2 : (n : Int) < y
          · have HF : Hid (¬ Valid d) := Lib.hid (fun hv => by
              obtain ⟨_, _, _, q, hq, -⟩ := hv
              rw [HE.out, HD.out, if_pos (Or.inr h2)] at hq; cases hq)
            go_wp2
            all_goals go_ret
            all_goals exact ⟨ret_bool (rightB_false HF.out).symm, (ex_ext (by repeat (first | exact Below.refl _ _ | assumption | refine b_drewN ?_ _ | refine Below.drew ?_ | refine b_ext' ?_ _ | refine b_alloc' ?_ _)))⟩
          · by_cases h3 : y = n
            · have h4 : (y == (n : Int)) = true := by simpa using h3
              have H3 := Lib.hid h3; clear h3
              go_wp2
              go_round
              case rel =>
                refine ⟨k + 1, n + 1, by omega, by omega, by go_num, by go_num, ?_⟩
                have h5 := HD.out
                rw [if_neg (by omega), if_pos H3.out] at h5
                rw [HE.out, h5]
              case measure => simp [intOf]; omega
            · have h4 : (y == (n : Int)) = false := by simpa using h3
              go_wp2
              go_round
              case rel =>
                refine ⟨k + 1, n, by omega, by omega, by go_num, rfl, ?_⟩
                have h5 := HD.out
                rw [if_neg (by omega), if_neg h3] at h5
                rw [HE.out, h5]
              case measure => simp [intOf]; omega
      · have HN : Hid (classesFrom 0 d.cls = some n) := Lib.hid (by
          have h5 := HE.out
          rw [List.drop_of_length_le (by have := HLc.out; omega)] at h5
          rw [h5]; rfl)
        clear HE
        go_wp2
        go_loop [6] (fun i => ∃ k : Nat, k ≤ d.next.length ∧ i = .int .i64 k ∧ ∀ j, j < k → rowOk d.next.length n (d.rules.getD j 0) (d.next.getD j [])) (fun i => d.next.length - (intOf i).toNat)
        case atStart => exact ⟨0, Nat.zero_le _, rfl, fun j hj => absurd hj (Nat.not_lt_zero j)⟩
        case round =>
          clear hk hmk hlt
          obtain ⟨k, hk, rfl, hall⟩ := hrel
          have HA := Lib.hid hall; clear hall
          by_cases hlt : k < d.next.length
          · obtain ⟨oi, ci, bi, fi, hck, hdk, hcj, -⟩ := HR.out k hlt
            have hrk := HRC.out k (by rw [H3.out]; exact hlt)
            have hlt' : k < d.rules.length := by rw [H3.out]; exact hlt
            have hb := hd.hblk (by omega)
            have hb' := hd'.hblk (by omega)
            have hlk := hdk.hsml
            have hixk := index_any (P := Try.prog) 23 3 Try.underlying23 (by kernel_rfl) hdk
            have hblk := hdk.hblk
            have HD := Lib.hid hdk; clear hdk
            have HCJ := Lib.hid hcj; clear hcj
            have HW : Hid (rowOk d.next.length n (d.rules.getD k 0) (d.next.getD k []) → ∀ q, q < k + 1 → rowOk d.next.length n (d.rules.getD q 0) (d.next.getD q [])) := Lib.hid (fun h q hq => by
              rcases Nat.lt_succ_iff_lt_or_eq.1 hq with h1 | rfl
              · exact HA.out q h1
              · exact h)
            have HV : Hid (Valid d → rowOk d.next.length n (d.rules.getD k 0) (d.next.getD k [])) := Lib.hid (fun hv => by
              obtain ⟨_, _, _, q, hq, hall⟩ := hv
              have : q = n := by have := HN.out; rw [this] at hq; exact (Option.some.inj hq).symm
              subst this
              exact hall k hlt)
            generalize d.rules.getD k 0 = r at *
            generalize d.next.getD k [] = row at *
            by_cases hrok : -1 ≤ r ∧ r < 32 ∧ row.length = n
            · obtain ⟨g1, g2, g3⟩ := hrok
              have g4 : ((row.length : Int) != (n : Int)) = false := by simp [g3]
              have g5 : r ≤ 31 := by omega
              have g6 : n ≤ 140737488351232 := by omega
              have G3 := Lib.hid g3; clear g3
              go_wp2
              go_loop [7] (fun i => ∃ j : Nat, j ≤ n ∧ i = .int .i64 j ∧ ∀ q, q < j → 0 ≤ row.getD q 0 ∧ row.getD q 0 < d.next.length) (fun i => n - (intOf i).toNat)
              case atStart => exact ⟨0, Nat.zero_le _, rfl, fun j hj => absurd hj (Nat.not_lt_zero j)⟩
              case round =>
                obtain ⟨j, hj, rfl, hallj⟩ := hrel
                have HJ := Lib.hid hallj; clear hallj
                by_cases hltj : j < n
                · have hltj' : j < row.length := by rw [G3.out]; exact hltj
                  have hcell := HCJ.out j hltj'
                  have hbb := hblk (by omega)
                  have HX : Hid (Valid d → 0 ≤ row.getD j 0 ∧ row.getD j 0 < d.next.length) := Lib.hid (fun hv => (HV.out hv).2.2.2 j hltj')
                  have HY : Hid ((0 ≤ row.getD j 0 ∧ row.getD j 0 < d.next.length) → ∀ q, q < j + 1 → 0 ≤ row.getD q 0 ∧ row.getD q 0 < d.next.length) := Lib.hid (fun h q hq => by
                    rcases Nat.lt_succ_iff_lt_or_eq.1 hq with h1 | rfl
                    · exact HJ.out q h1
                    · exact h)
                  generalize row.getD j 0 = y at *
                  by_cases hy : 0 ≤ y ∧ y < d.next.length
                  · obtain ⟨y1, y2⟩ := hy
                    go_wp2
                    go_round
                    case rel => exact ⟨j + 1, by omega, by go_num, HY.out ⟨y1, y2⟩⟩
                    case measure => simp [intOf]; omega
                  · by_cases y1 : y < 0
                    · go_wp2
                      all_goals go_ret
                      all_goals exact ⟨ret_bool (rightB_false fun hv => hy (HX.out hv)).symm, (ex_ext (by repeat (first | exact Below.refl _ _ | assumption | refine b_drewN ?_ _ | refine Below.drew ?_ | refine b_ext' ?_ _ | refine b_alloc' ?_ _)))⟩
                    · have y2 : (d.next.length : Int) ≤ y := by omega
                      go_wp2
                      all_goals go_ret
                      all_goals exact ⟨ret_bool (rightB_false fun hv => hy (HX.out hv)).symm, (ex_ext (by repeat (first | exact Below.refl _ _ | assumption | refine b_drewN ?_ _ | refine Below.drew ?_ | refine b_ext' ?_ _ | refine b_alloc' ?_ _)))⟩
                · go_wp2
                  go_round
                  case rel =>
                    refine ⟨k + 1, by omega, by go_num, HW.out ⟨g1, g2, G3.out, ?_⟩⟩
                    have hjj : j = row.length := by have := G3.out; omega
                    rw [← hjj]; exact HJ.out
                  case measure => simp [intOf]; omega
            · have HF : Hid (¬ Valid d) := Lib.hid (fun hv => hrok ⟨(HV.out hv).1, (HV.out hv).2.1, (HV.out hv).2.2.1⟩)
              by_cases g1 : -1 ≤ r
              · by_cases g2 : r < 32
                · have g4 : ((row.length : Int) != (n : Int)) = true := by simp; omega
                  have g5 : r ≤ 31 := by omega
                  go_wp2
                  all_goals go_ret
                  all_goals exact ⟨ret_bool (rightB_false HF.out).symm, (ex_ext (by repeat (first | exact Below.refl _ _ | assumption | refine b_drewN ?_ _ | refine Below.drew ?_ | refine b_ext' ?_ _ | refine b_alloc' ?_ _)))⟩
                · have g4 : (31 : Int) < r := by omega
                  go_wp2
                  all_goals go_ret
                  all_goals exact ⟨ret_bool (rightB_false HF.out).symm, (ex_ext (by repeat (first | exact Below.refl _ _ | assumption | refine b_drewN ?_ _ | refine Below.drew ?_ | refine b_ext' ?_ _ | refine b_alloc' ?_ _)))⟩
              · have g4 : r < -1 := by omega
                go_wp2
                all_goals go_ret
                all_goals exact ⟨ret_bool (rightB_false HF.out).symm, (ex_ext (by repeat (first | exact Below.refl _ _ | assumption | refine b_drewN ?_ _ | refine Below.drew ?_ | refine b_ext' ?_ _ | refine b_alloc' ?_ _)))⟩
          · go_wp2
            go_ret
            have hkk : k = d.next.length := by omega
            exact ⟨ret_bool (rightB_true ⟨h1, h2, H3.out, n, HN.out, by rw [← hkk]; rw [← hkk] at HA; exact HA.out⟩).symm, (ex_ext (by repeat (first | exact Below.refl _ _ | assumption | refine b_drewN ?_ _ | refine Below.drew ?_ | refine b_ext' ?_ _ | refine b_alloc' ?_ _)))⟩
  · have HF : Hid (¬ Valid d) := Lib.hid (fun hv => hok ⟨⟨hv.1, hv.2.1⟩, hv.2.2.1⟩)
    by_cases h1 : 1 ≤ d.next.length
    · by_cases h2 : d.next.length ≤ 1000
      · have h5 : ((d.rules.length : Int) != (d.next.length : Int)) = true := by simp; omega
        clear hok
        go_enter Try.func16, Try.ntmps16
        go_wp2
        all_goals go_ret
        all_goals exact ⟨ret_bool (rightB_false HF.out).symm, (ex_ext (by repeat (first | exact Below.refl _ _ | assumption | refine b_drewN ?_ _ | refine Below.drew ?_ | refine b_ext' ?_ _ | refine b_alloc' ?_ _)))⟩
      · have h5 : (1000 : Int) < d.next.length := by omega
        clear hok
        go_enter Try.func16, Try.ntmps16
        go_wp2
        all_goals go_ret
        all_goals exact ⟨ret_bool (rightB_false HF.out).symm, (ex_ext (by repeat (first | exact Below.refl _ _ | assumption | refine b_drewN ?_ _ | refine Below.drew ?_ | refine b_ext' ?_ _ | refine b_alloc' ?_ _)))⟩
    · have h5 : (d.next.length : Int) < 1 := by omega
      clear hok
      go_enter Try.func16, Try.ntmps16
      go_wp2
      all_goals go_ret
      all_goals exact ⟨ret_bool (rightB_false HF.out).symm, (ex_ext (by repeat (first | exact Below.refl _ _ | assumption | refine b_drewN ?_ _ | refine Below.drew ?_ | refine b_ext' ?_ _ | refine b_alloc' ?_ _)))⟩
end Go.Cm

/- The walk of the document's Reached. Conditions: the argument reads as an automaton. -/
namespace Go.Cm
open Go.RowKit Go.Proofs

theorem valid_row {d : Dfa} (h : Valid d) {i : Nat} (hi : i < d.next.length) : (∀ j, j < (d.next.getD i []).length → 0 ≤ (d.next.getD i []).getD j 0 ∧ (d.next.getD i []).getD j 0 < d.next.length) ∧ (d.next.getD i []).length ≤ 256 ∨ d.cls.length ≠ 256 := by
  obtain ⟨h1, h2, h3, k, hk, hr⟩ := h
  obtain ⟨-, -, hl, hj⟩ := hr i hi
  by_cases hc : d.cls.length = 256
  · refine .inl ⟨hj, ?_⟩
    have := classesFrom_mono d.cls 0 k hk
    omega
  · exact .inr hc

theorem rowN_getD (d : Dfa) (i j : Nat) (hj : j < (d.next.getD i []).length) : (rowN d i).getD j 0 = ((d.next.getD i []).getD j 0).toNat := by
  simp only [rowN, List.getD_eq_getElem?_getD, List.getElem?_map] at hj ⊢
  rw [List.getElem?_eq_getElem hj]; rfl
theorem rowN_length (d : Dfa) (i : Nat) : (rowN d i).length = (d.next.getD i []).length := by simp [rowN]

/-- a call that hands back a list of ints in new memory -/
def RetInts (l : List Int) (w : World) (e : Ending) (w' : World) : Prop := ∃ r, e = .returned r ∧ IntsAt w' r l ∧ Below w.heap.size w w'
open Classical in
noncomputable def reachI (d : Dfa) : List Int := if Valid d then nl (reach d) else []
theorem reachI_yes {d : Dfa} (h : Valid d) : reachI d = nl (reach d) := by unfold reachI; rw [if_pos h]
theorem reachI_no {d : Dfa} (h : ¬ Valid d) : reachI d = [] := by unfold reachI; rw [if_neg h]
theorem getD_nl_ints (l : List Nat) (k : Nat) (h : k < l.length) : (ints (nl l)).getD k undef = .int .i64 ((l.getD k 0 : Nat) : Int) := by
  rw [ints_getD _ _ (by simpa using h), nl_getD]
theorem ints_append (a b : List Int) : ints (a ++ b) = ints a ++ ints b := by simp [ints]
theorem ints_one (l : List Int) : ∀ u ∈ ints l, u.oneCell' = true := by
  intro u hu; simp only [ints, List.mem_map] at hu; obtain ⟨b, -, rfl⟩ := hu; rfl

end Go.Cm

/- The walks of the document's Run, After and Same over automata. Conditions: the arguments read as automata. -/
namespace Go.Cm
open Go.RowKit Go.Proofs

theorem cls_lt {d : Dfa} (h : Valid d) (hl : d.cls.length = 256) {i : Nat} (hi : i < d.next.length) {c : Nat} (hc : c < 256) : ∃ k : Nat, d.cls.getD c 0 = k ∧ k < (d.next.getD i []).length := by
  obtain ⟨_, _, _, k, hk, hr⟩ := h
  have h1 := classesFrom_lt d.cls 0 k hk _ (getD_mem d.cls c 0 (by omega))
  obtain ⟨-, -, h2, -⟩ := hr i hi
  exact ⟨(d.cls.getD c 0).toNat, by omega, by omega⟩
theorem runFrom_take (d : Dfa) (s : List UInt8) : ∀ (k : Nat) (a : Int), k < s.length → runFrom d a (s.take (k + 1)) = (d.next.getD (runFrom d a (s.take k)).toNat []).getD (d.cls.getD (s.getD k 0).toNat 0).toNat 0 := by
  induction s with
  | nil => intro k a h; simp at h
  | cons c s ih =>
    intro k a h
    cases k with
    | zero => simp [runFrom]
    | succ k => simp only [List.take_succ_cons, runFrom]; rw [ih k _ (by simpa using h)]; simp

set_option maxRecDepth 100000 in
set_option maxHeartbeats 1000000 in
theorem run (v : Value) (d : Dfa) (s : ByteArray) (w : World) (h : DfaAt w v d) (hs63 : s.size ≤ 140737488351232) :
    Calls Try.prog 38 #[v, .string s] w fun e w' => e = .returned (.int .i64 (runI d s.data.toList)) ∧ ∃ x, w' = ext w x := by
  have hL := fun w' (hb : Below w.heap.size w w') => rightRD v d w' (h.up hb)
  obtain ⟨A, rfl, hs, hl, hc, ⟨vn, hn, hrow⟩, ⟨vr, hr, hru⟩⟩ := h
  obtain ⟨oa, cap, b, off, rfl, hd, hro⟩ := hrow.open
  have hix := index_any (P := Try.prog) 31 23 Try.underlying31 (by kernel_rfl) hd
  have hm := hd.len
  have HL := Lib.hid hL; clear hL
  have HS := Lib.hid hs; clear hs
  have HC := Lib.hid hc; clear hc
  have HG := Lib.hid (heap_alloc_new w (.cells A 33))
  have HR := Lib.hid hro; clear hro
  have HLC := Lib.hid hl; clear hl
  by_cases hv : Valid d
  · have hrb := rightB_true hv
    have HRI : Hid (runI d s.data.toList = runFrom d 0 s.data.toList) := Lib.hid (by unfold runI; rw [if_pos hv])
    have hn1 := hv.1
    have hn2 := hv.2.1
    have HV := Lib.hid hv; clear hv
    have hb := hd.hblk (by omega)
    go_enter Try.func38, Try.ntmps38
    go_wp2_with (first | (refine load_dfa rfl _ rfl w.heap.size rfl A HS.out HG.out ?_) | (go_at_call 16; refine (HL.out _ (below_alloc _ _)).mono ?_; rintro e w' ⟨rfl, x, rfl⟩; rw [hrb]))
    generalize hw1 : ext (w.alloc (.cells A 33)) x = w1
    have HB := Lib.hid (show Below (w.heap.size + 1) (w.alloc (.cells A 33)) w1 from hw1 ▸ (ext_below _ _).mono (by simp))
    clear hw1
    go_loopw [5, 6] (fun a i wr => ∃ (k t : Nat), k ≤ s.size ∧ t < d.next.length ∧ i = .int .i64 k ∧ a = .int .i64 t ∧ Hid (runFrom d 0 (s.data.toList.take k) = t) ∧ ∃ n, wr = w1.drewN n) (fun _ i _ => s.size - (intOf i).toNat)
    case atStart => exact ⟨0, 0, Nat.zero_le _, by omega, rfl, rfl, Lib.hid rfl, 0, rfl⟩
    case round =>
      obtain ⟨k, t, hk, ht, rfl, rfl, HRF, n, rfl⟩ := hrel
      by_cases hlt : k < s.size
      · obtain ⟨oi, ci, bi, fi, hck, hdk, hcj, -⟩ := HR.out t ht
        have hlt' : k < s.data.toList.length := by simpa using hlt
        have HT := Lib.hid (runFrom_take d s.data.toList k 0 hlt')
        have hch : (s.data.toList.getD k 0) = s[k] := by simp [List.getD, hlt]; rfl
        rw [hch] at HT
        obtain ⟨c, hcc, hcl⟩ := cls_lt HV.out HLC.out ht (c := s[k].toNat) (UInt8.toNat_lt s[k])
        rw [HRF.out, hcc] at HT
        have hAc := HC.out s[k].toNat (UInt8.toNat_lt s[k])
        rw [hcc] at hAc
        obtain ⟨hy1, hy2⟩ := ((valid_row HV.out ht).resolve_right (fun h => h HLC.out)).1 c hcl
        have hbi := hdk.hblk (by omega)
        have hixk := index_any (P := Try.prog) 23 3 Try.underlying23 (by kernel_rfl) hdk
        have hcj1 := hcj c hcl
        simp only [Int.toNat_natCast] at HT
        generalize (d.next.getD t []).getD c 0 = y at *
        generalize (d.next.getD t []).length = rl at *
        obtain ⟨q, rfl⟩ := Int.eq_ofNat_of_zero_le hy1
        have hc8 : s[k].toNat < 256 := UInt8.toNat_lt s[k]
        have hw1 : w1.cell? ⟨b, off + t, none⟩ = some (.slice oi rl ci) := by
          rw [HB.out.cell (p := ⟨b, off + t, none⟩) (Nat.lt_succ_of_lt hb), World.cell?_alloc_past _ _ _ hb]; exact hck
        have hw2 : w1.cell? ⟨bi, fi + c, none⟩ = some (.int .i64 (q : Int)) := by
          rw [HB.out.cell (p := ⟨bi, fi + c, none⟩) (Nat.lt_succ_of_lt hbi), World.cell?_alloc_past _ _ _ hbi]; exact hcj1
        have hw3 : w1.cell? ⟨w.heap.size, 256, none⟩ = some (.slice oa d.next.length cap) := by
          rw [HB.out.cell (p := ⟨w.heap.size, 256, none⟩) (Nat.lt_succ_self _), World.cell?_alloc_new]; exact hn
        have hw4 : w1.cell? ⟨w.heap.size, s[k].toNat, none⟩ = some (.int .i64 (c : Int)) := by
          rw [HB.out.cell (p := ⟨w.heap.size, s[k].toNat, none⟩) (Nat.lt_succ_self _), World.cell?_alloc_new]; exact hAc
        clear hcc hch hAc hck hcj hcj1 hdk hy1
        go_wp2
        go_quiet (fail)
        go_wp2
        go_roundw
        case rel => exact ⟨k + 1, q, by omega, by omega, by go_num, rfl, Lib.hid HT.out, _, rfl⟩
        case measure => simp [intOf]; omega
      · go_wp2
        go_ret
        have h1 := HRF.out
        rw [List.take_of_length_le (by simp; omega)] at h1
        exact ⟨ret_int (by rw [HRI.out, h1]), ex_ext (b_drewN ((below_alloc w _).trans (HB.out.mono (by omega))) _)⟩
  · have hrb := rightB_false hv
    have HRI : Hid (runI d s.data.toList = -1) := Lib.hid (by unfold runI; rw [if_neg hv])
    clear hv
    go_enter Try.func38, Try.ntmps38
    go_wp2_with (first | (refine load_dfa rfl _ rfl w.heap.size rfl A HS.out HG.out ?_) | (go_at_call 16; refine (HL.out _ (below_alloc _ _)).mono ?_; rintro e w' ⟨rfl, x, rfl⟩; rw [hrb]))
    go_ret
    exact ⟨ret_int (by rw [HRI.out]), (ex_ext (by repeat (first | exact Below.refl _ _ | assumption | refine b_drewN ?_ _ | refine Below.drew ?_ | refine b_ext' ?_ _ | refine b_alloc' ?_ _)))⟩

/-- an automaton read out of its variable, in a region that draws its order -/
theorem quiet_load_dfa {o : Oper} {a : Act} {w : World} {K : Act → Prop} (x : Operand) (ho : o.op = .load 33 x) (g : Nat) (hx : a.eval x = .pointer (some ⟨g, 0, none⟩)) (A : Array Value) (hs : A.size = 258)
    (hg : w.heap[g]? = some (.cells A 33 (0, 0))) (h : K (a.put o.dst (.agg A))) : o.quiet Try.prog a (fun w' => ∃ x, w' = ext w x) K := by
  refine ⟨.agg A, fun w' hw' => ?_, h⟩
  obtain ⟨y, rfl⟩ := hw'
  have hlt : g < w.heap.size := lt_of_block hg
  have hg' : (ext w y).heap[g]? = some (.cells A 33 (0, 0)) := by rw [heap_ext w y g hlt]; exact hg
  have hl := run_loadVar_sub (P := Try.prog) (ext w y) g 0 258 33 33 A (0, 0) _ hg' Try.underlying33 rfl (by kernel_rfl) (by rw [hs]; decide)
  unfold Oper.quietAt execOp
  simp only [ho, hx, Instr.loadAt, Instr.sureAddr, Sem.run_bind, Sem.run_pure, Result.andThen_ok, hl, Oper.quietUpon]
  exact ⟨trivial, by rw [← hs]; simp⟩

set_option maxRecDepth 100000 in
set_option maxHeartbeats 1000000 in
theorem after (v : Value) (d : Dfa) (s : ByteArray) (w : World) (h : DfaAt w v d) (hs63 : s.size ≤ 140737488351232) :
    Calls Try.prog 17 #[v, .string s] w fun e w' => e = .returned (.int .i64 (afterI d s.data.toList)) ∧ ∃ x, w' = ext w x := by
  have hL := fun w' (hb : Below w.heap.size w w') => rightRD v d w' (h.up hb)
  have hR := fun w' (hb : Below w.heap.size w w') => run v d s w' (h.up hb) hs63
  obtain ⟨A, rfl, hs, hl, hc, ⟨vn, hn, hrow⟩, ⟨vr, hr, hru⟩⟩ := h
  obtain ⟨oa, cap, b, off, rfl, hd, hro⟩ := hru.open
  have hix := index_any (P := Try.prog) 23 3 Try.underlying23 (by kernel_rfl) hd
  have hm := hd.len
  have HL := Lib.hid hL; clear hL
  have HRn := Lib.hid hR; clear hR
  have HS := Lib.hid hs; clear hs hc
  have HG := Lib.hid (heap_alloc_new w (.cells A 33))
  have HR := Lib.hid hro; clear hro
  have HLC := Lib.hid hl; clear hl
  by_cases hv : Valid d
  · have hrb := rightB_true hv
    obtain ⟨t, hrun, ht⟩ : ∃ t : Nat, runI d s.data.toList = t ∧ t < d.next.length := by
      have : ∀ (s : List UInt8) (a : Nat), a < d.next.length → ∃ t : Nat, runFrom d a s = t ∧ t < d.next.length := by
        intro s
        induction s with
        | nil => intro a ha; exact ⟨a, rfl, ha⟩
        | cons c s ih =>
          intro a ha
          obtain ⟨k, hk, hkl⟩ := cls_lt hv HLC.out ha (c := c.toNat) (UInt8.toNat_lt c)
          obtain ⟨h1, h2⟩ := ((valid_row hv ha).resolve_right (fun h => h HLC.out)).1 k hkl
          obtain ⟨q, hq⟩ := Int.eq_ofNat_of_zero_le h1
          simp only [runFrom, hk, Int.toNat_natCast, hq]
          exact ih q (by omega)
      unfold runI; rw [if_pos hv]; exact this _ 0 (by have := hv.1; omega)
    rw [hrun] at HRn
    have HAI : Hid (afterI d s.data.toList = d.rules.getD t 0) := Lib.hid (by
      unfold runI at hrun; rw [if_pos hv] at hrun
      unfold afterI; rw [if_pos hv, hrun]; rfl)
    have ht2 : t < d.rules.length := by rw [hv.2.2.1]; exact ht
    have hb := hd.hblk (by omega)
    have hcell := HR.out t ht2
    generalize d.rules.getD t 0 = y at *
    generalize d.rules.length = rl at *
    clear hrun hv
    go_enter Try.func17, Try.ntmps17
    go_wp2_with (first | (refine load_dfa rfl _ rfl w.heap.size rfl A HS.out HG.out ?_) | (go_at_call 16; refine (HL.out _ (below_alloc _ _)).mono ?_; rintro e w' ⟨rfl, x, rfl⟩; rw [hrb]))
    have hb2 : Below w.heap.size w (ext (w.alloc (.cells A 33)) x) := (by repeat (first | exact Below.refl _ _ | assumption | refine b_drewN ?_ _ | refine Below.drew ?_ | refine b_ext' ?_ _ | refine b_alloc' ?_ _))
    have hg2 : (ext (w.alloc (.cells A 33)) x).heap[w.heap.size]? = some (.cells A 33 (0, 0)) := by rw [heap_ext _ _ _ (by simp)]; exact HG.out
    have hrl : (ext (w.alloc (.cells A 33)) x).cell? ⟨w.heap.size, 257, none⟩ = some (.slice oa rl cap) := by rw [cell?_ext_alloc_new]; exact hr
    have hsz : w.heap.size + 1 ≤ (ext (w.alloc (.cells A 33)) x).heap.size := by have := size_ext (w.alloc (.cells A 33)) x; simpa using this
    have hc2 : (ext (w.alloc (.cells A 33)) x).cell? ⟨b, off + t, none⟩ = some (.int .i64 y) := by rw [cell?_ext_alloc_old _ _ _ _ _ hb]; exact hcell
    generalize ext (w.alloc (.cells A 33)) x = w1 at *
    have HG2 := Lib.hid hg2; clear hg2
    have HB2 := Lib.hid hb2; clear hb2
    have hb3 : w.heap.size < w1.heap.size := hsz
    have hb4 : b < w1.heap.size := by omega
    refine wp_region_ext (by kernel_rfl) (by kernel_rfl) ?_
    repeat (first | (go_big_quiet_want; refine quiet_load_dfa _ rfl w.heap.size rfl A HS.out HG2.out ?_; go_simp; go_big_quiet_on) | go_big_quiet_step ((go_at_call 38; exact calls_in (HRn.out _ (below_up HB2.out (ext_below _ _))))))
    refine wpQuiet_nil ?_
    rintro w' ⟨x2, rfl⟩
    go_wp2
    go_ret
    exact ⟨ret_int (by rw [HAI.out]), ex_ext (HB2.out.trans ((ext_below _ _).mono (by omega)))⟩
  · have hrb := rightB_false hv
    have HRI : Hid (afterI d s.data.toList = -1) := Lib.hid (by unfold afterI; rw [if_neg hv])
    clear hv
    go_enter Try.func17, Try.ntmps17
    go_wp2_with (first | (refine load_dfa rfl _ rfl w.heap.size rfl A HS.out HG.out ?_) | (go_at_call 16; refine (HL.out _ (below_alloc _ _)).mono ?_; rintro e w' ⟨rfl, x, rfl⟩; rw [hrb]))
    go_ret
    exact ⟨ret_int (by rw [HRI.out]), (ex_ext (by repeat (first | exact Below.refl _ _ | assumption | refine b_drewN ?_ _ | refine Below.drew ?_ | refine b_ext' ?_ _ | refine b_alloc' ?_ _)))⟩
end Go.Cm

/- The walk of the document's Same over automata. Conditions: the arguments read as automata. -/
namespace Go.Cm
open Go.RowKit Go.Proofs

theorem run_neq_cls {X Y : Array Value} {l m : List Int} (hl : l.length = 256) (hm : m.length = 256) (hx : ∀ i, i < 256 → X[i]? = some (.int .i64 (l.getD i 0))) (hy : ∀ i, i < 256 → Y[i]? = some (.int .i64 (m.getD i 0))) (W : World) :
    (binOp .neq 28 (.agg X) (.agg Y)).run Try.prog W = .ok (.bool (!decide (l = m))) W := by
  have h := run_equalIn_ints (P := Try.prog) W 28 3 256 Try.underlying28 Try.underlying3 (by kernel_rfl) X Y l m hl hm hx hy 9998
  simp only [binOp, Op.equal, Op.maxDepth]
  rw [Sem.run_bind, h]
  rfl
theorem eqGuard_cls (W : World) (x y : Operand) (X Y : Array Value) : (eqGuard .neq 28 x y (.agg X) (.agg Y)).run Try.prog W = .ok () W := run_eqGuard_agg W .neq 28 x y X Y (by kernel_rfl)

set_option maxRecDepth 100000 in
set_option maxHeartbeats 4000000 in
theorem same (v1 v2 : Value) (d e : Dfa) (w : World) (h1 : DfaAt w v1 d) (h2 : DfaAt w v2 e) :
    Calls Try.prog 12 #[v1, v2] w fun en w' => en = .returned (.bool (sameB d e)) ∧ ∃ x, w' = ext w x := by
  obtain ⟨A, rfl, hs, hl, hc, ⟨vn, hn, hrow⟩, ⟨vr, hr, hru⟩⟩ := h1
  obtain ⟨A', rfl, hs', hl', hc', ⟨vn', hn', hrow'⟩, ⟨vr', hr', hru'⟩⟩ := h2
  obtain ⟨oa, cap, b, off, rfl, hd, hro⟩ := hrow.open
  obtain ⟨oa', cap', b', off', rfl, hd', hro'⟩ := hrow'.open
  obtain ⟨oq, capq, bq, offq, rfl, hdq, hrq⟩ := hru.open
  obtain ⟨oq', capq', bq', offq', rfl, hdq', hrq'⟩ := hru'.open
  have hix := index_any (P := Try.prog) 31 23 Try.underlying31 (by kernel_rfl) hd
  have hix' := index_any (P := Try.prog) 31 23 Try.underlying31 (by kernel_rfl) hd'
  have hixq := index_any (P := Try.prog) 23 3 Try.underlying23 (by kernel_rfl) hdq
  have hixq' := index_any (P := Try.prog) 23 3 Try.underlying23 (by kernel_rfl) hdq'
  have hm := hd.len
  have hm' := hd'.len
  have hmq := hdq.len
  have hmq' := hdq'.len
  obtain ⟨B, hB⟩ : ∃ B, A.extract 0 256 = B := ⟨_, rfl⟩
  obtain ⟨B', hB'⟩ : ∃ B, A'.extract 0 256 = B := ⟨_, rfl⟩
  have hneq := run_neq_cls (X := B) (Y := B') hl hl' (fun i hi => by rw [← hB, Array.getElem?_extract, if_pos (by omega)]; simpa using hc i hi) (fun i hi => by rw [← hB', Array.getElem?_extract, if_pos (by omega)]; simpa using hc' i hi)
  have hgd := fun W x y => eqGuard_cls W x y B B'
  have HS := Lib.hid hs; clear hs hc hl
  have HS' := Lib.hid hs'; clear hs' hc' hl'
  have HB := Lib.hid hB; clear hB
  have HB' := Lib.hid hB'; clear hB'
  have HG : Hid (((w.alloc (.cells A 33)).alloc (.cells A' 33)).heap[w.heap.size]? = some (.cells A 33 (0, 0))) := Lib.hid (heap_alloc2_old w _ _)
  have HG' : Hid (((w.alloc (.cells A 33)).alloc (.cells A' 33)).heap[w.heap.size + 1]? = some (.cells A' 33 (0, 0))) := Lib.hid (heap_alloc2_new w _ _)
  have HR := Lib.hid hro; clear hro
  have HR' := Lib.hid hro'; clear hro'
  have HQ := Lib.hid hrq; clear hrq
  have HQ' := Lib.hid hrq'; clear hrq'
  by_cases hcls : d.cls = e.cls
  · have hdc : decide (d.cls = e.cls) = true := by simpa using hcls
    have HC := Lib.hid hcls; clear hcls
    rw [hdc] at hneq
    by_cases hln : d.next.length = e.next.length
    · have hb1 : ((d.next.length : Int) != (e.next.length : Int)) = false := by simp [hln]
      have HLN := Lib.hid hln; clear hln
      by_cases hlr : d.rules.length = e.rules.length
      · have hb2 : ((d.rules.length : Int) != (e.rules.length : Int)) = false := by simp [hlr]
        have HLR := Lib.hid hlr; clear hlr
        go_enter Try.func12, Try.ntmps12
        go_wp2_with (first | (refine load_cls rfl _ rfl w.heap.size rfl A B HS.out HB.out HG.out ?_) | (refine load_cls rfl _ rfl (w.heap.size + 1) rfl A' B' HS'.out HB'.out HG'.out ?_))
        have hw1 : ((w.alloc (.cells A 33)).alloc (.cells A' 33)).cell? ⟨w.heap.size, 256, none⟩ = some (.slice oa d.next.length cap) := by rw [World.cell?_alloc2_first]; exact hn
        have hw2 : ((w.alloc (.cells A 33)).alloc (.cells A' 33)).cell? ⟨w.heap.size + 1, 256, none⟩ = some (.slice oa' e.next.length cap') := by rw [World.cell?_alloc2_new]; exact hn'
        have hw3 : ((w.alloc (.cells A 33)).alloc (.cells A' 33)).cell? ⟨w.heap.size, 257, none⟩ = some (.slice oq d.rules.length capq) := by rw [World.cell?_alloc2_first]; exact hr
        have hw4 : ((w.alloc (.cells A 33)).alloc (.cells A' 33)).cell? ⟨w.heap.size + 1, 257, none⟩ = some (.slice oq' e.rules.length capq') := by rw [World.cell?_alloc2_new]; exact hr'
        have hbel : Below w.heap.size w ((w.alloc (.cells A 33)).alloc (.cells A' 33)) := (by repeat (first | exact Below.refl _ _ | assumption | refine b_drewN ?_ _ | refine Below.drew ?_ | refine b_ext' ?_ _ | refine b_alloc' ?_ _))
        generalize (w.alloc (.cells A 33)).alloc (.cells A' 33) = w1 at *
        have HBW := Lib.hid hbel; clear hbel
        go_loopw [5] (fun i wr => ∃ k : Nat, k ≤ d.next.length ∧ i = .int .i64 k ∧ Hid (d.next.take k = e.next.take k) ∧ ∃ n, wr = w1.drewN n) (fun i _ => d.next.length - (intOf i).toNat)
        case atStart => exact ⟨0, Nat.zero_le _, rfl, Lib.hid (by simp), 0, rfl⟩
        case round =>
          obtain ⟨k, hk, rfl, HT, n, rfl⟩ := hrel
          by_cases hlt : k < d.next.length
          · have hlt' : k < e.next.length := by have := HLN.out; omega
            obtain ⟨oi, ci, bi, fi, hck, hdk, hcj, -⟩ := HR.out k hlt
            obtain ⟨oi', ci', bi', fi', hck', hdk', hcj', -⟩ := HR'.out k hlt'
            have hb := hd.hblk (by omega)
            have hb' := hd'.hblk (by omega)
            have hck1 : w1.cell? ⟨b, off + k, none⟩ = _ := (HBW.out.cell (p := ⟨b, off + k, none⟩) hb).trans hck
            have hck1' : w1.cell? ⟨b', off' + k, none⟩ = _ := (HBW.out.cell (p := ⟨b', off' + k, none⟩) hb').trans hck'
            have hixk := index_any (P := Try.prog) 23 3 Try.underlying23 (by kernel_rfl) hdk
            have hixk' := index_any (P := Try.prog) 23 3 Try.underlying23 (by kernel_rfl) hdk'
            have hbi := hdk.hblk
            have hbi' := hdk'.hblk
            have hlk := hdk.hsml
            have hlk' := hdk'.hsml
            have HTS := Lib.hid (take_succ_getD d.next k [] hlt)
            have HTS' := Lib.hid (take_succ_getD e.next k [] hlt')
            have HNE : Hid (e.next.getD k [] ≠ d.next.getD k [] → sameB d e = false) := Lib.hid (fun h2 => by
              simp only [sameB, decide_eq_false_iff_not]; rintro ⟨-, h, -⟩; exact h2 (by rw [h]))
            generalize d.next.getD k [] = row at *
            generalize e.next.getD k [] = row' at *
            have HCJ := Lib.hid hcj; clear hcj
            have HCJ' := Lib.hid hcj'; clear hcj'
            clear hck hck' hdk hdk'
            by_cases hrl : row.length = row'.length
            · have hb3 : ((row.length : Int) != (row'.length : Int)) = false := by simp [hrl]
              have HRL := Lib.hid hrl; clear hrl
              go_wp2
              go_quiet (fail)
              go_wp2
              go_loopw [6] (fun i wr => ∃ j : Nat, j ≤ row.length ∧ i = .int .i64 j ∧ Hid (row.take j = row'.take j) ∧ ∃ n, wr = w1.drewN n) (fun i _ => row.length - (intOf i).toNat)
              case atStart => exact ⟨0, Nat.zero_le _, rfl, Lib.hid (by simp), _, World.drewN_drewN _ _ _⟩
              case round =>
                obtain ⟨j, hj, rfl, HTJ, n2, rfl⟩ := hrel
                by_cases hltj : j < row.length
                · have hltj' : j < row'.length := by have := HRL.out; omega
                  have hcc := (HBW.out.cell (p := ⟨bi, fi + j, none⟩) (hbi (by omega))).trans (HCJ.out j hltj)
                  have hcc' := (HBW.out.cell (p := ⟨bi', fi' + j, none⟩) (hbi' (by omega))).trans (HCJ'.out j hltj')
                  have HTT := Lib.hid (take_succ_getD row j 0 hltj)
                  have HTT' := Lib.hid (take_succ_getD row' j 0 hltj')
                  have HNE2 : Hid (row.getD j 0 ≠ row'.getD j 0 → row' ≠ row) := Lib.hid (fun h e => h (by rw [e]))
                  generalize row.getD j 0 = y at *
                  generalize row'.getD j 0 = y' at *
                  by_cases hy : y = y'
                  · subst hy
                    have hyb : (y != y) = false := by simp
                    go_wp2
                    go_quiet (fail)
                    go_wp2
                    go_roundw
                    case rel => exact ⟨j + 1, by omega, by go_num, Lib.hid (by rw [HTT.out, HTT'.out, HTJ.out]), _, rfl⟩
                    case measure => simp [intOf]; omega
                  · have hyb : (y != y') = true := by simpa using hy
                    go_wp2
                    go_quiet (fail)
                    go_wp2
                    go_ret
                    have h0 := HNE.out (HNE2.out hy)
                    exact ⟨ret_bool (by rw [h0]), ex_ext (b_drewN (b_drewN HBW.out _) _)⟩
                · go_wp2
                  go_roundw
                  case rel =>
                    have h0 := HTJ.out
                    rw [List.take_of_length_le (by omega), List.take_of_length_le (by have := HRL.out; omega)] at h0
                    exact ⟨k + 1, by omega, by go_num, Lib.hid (by rw [HTS.out, HTS'.out, HT.out, h0]), _, rfl⟩
                  case measure => simp [intOf]; omega
            · have hb3 : ((row.length : Int) != (row'.length : Int)) = true := by simp; omega
              have HNL : Hid (row' ≠ row) := Lib.hid (fun e => hrl (by rw [e]))
              clear hrl
              go_wp2
              go_quiet (fail)
              go_wp2
              go_ret
              have h0 := HNE.out HNL.out
              exact ⟨ret_bool (by rw [h0]), ex_ext (b_drewN (b_drewN HBW.out _) _)⟩
          · have HNX : Hid (d.next = e.next) := Lib.hid (by
              have h0 := HT.out
              rwa [List.take_of_length_le (by omega), List.take_of_length_le (by have := HLN.out; omega)] at h0)
            go_wp2
            go_loopw [7] (fun i wr => ∃ k : Nat, k ≤ d.rules.length ∧ i = .int .i64 k ∧ Hid (d.rules.take k = e.rules.take k) ∧ ∃ n, wr = w1.drewN n) (fun i _ => d.rules.length - (intOf i).toNat)
            case atStart => exact ⟨0, Nat.zero_le _, rfl, Lib.hid (by simp), _, rfl⟩
            case round =>
              clear hk hlt HT
              obtain ⟨k, hk, rfl, HT, n2, rfl⟩ := hrel
              by_cases hlt : k < d.rules.length
              · have hlt' : k < e.rules.length := by have := HLR.out; omega
                have hbq := hdq.hblk (by omega)
                have hbq' := hdq'.hblk (by omega)
                have hcc := (HBW.out.cell (p := ⟨bq, offq + k, none⟩) hbq).trans (HQ.out k hlt)
                have hcc' := (HBW.out.cell (p := ⟨bq', offq' + k, none⟩) hbq').trans (HQ'.out k hlt')
                have HTT := Lib.hid (take_succ_getD d.rules k 0 hlt)
                have HTT' := Lib.hid (take_succ_getD e.rules k 0 hlt')
                have HNE2 : Hid (d.rules.getD k 0 ≠ e.rules.getD k 0 → sameB d e = false) := Lib.hid (fun h => by
                  simp only [sameB, decide_eq_false_iff_not]; rintro ⟨-, -, e⟩; exact h (by rw [e]))
                generalize d.rules.getD k 0 = y at *
                generalize e.rules.getD k 0 = y' at *
                by_cases hy : y = y'
                · subst hy
                  have hyb : (y != y) = false := by simp
                  go_wp2
                  go_quiet (fail)
                  go_wp2
                  go_roundw
                  case rel => exact ⟨k + 1, by omega, by go_num, Lib.hid (by rw [HTT.out, HTT'.out, HT.out]), _, rfl⟩
                  case measure => simp [intOf]; omega
                · have hyb : (y != y') = true := by simpa using hy
                  go_wp2
                  go_quiet (fail)
                  go_wp2
                  go_ret
                  exact ⟨ret_bool (by rw [HNE2.out hy]), ex_ext (b_drewN (b_drewN HBW.out _) _)⟩
              · go_wp2
                go_ret
                have h0 := HT.out
                rw [List.take_of_length_le (by omega), List.take_of_length_le (by have := HLR.out; omega)] at h0
                exact ⟨ret_bool (by simp only [sameB]; symm; rw [decide_eq_true_eq]; exact ⟨HC.out, HNX.out, h0⟩), ex_ext (b_drewN HBW.out _)⟩
      · have hb2 : ((d.rules.length : Int) != (e.rules.length : Int)) = true := by simp; omega
        have HF : Hid (sameB d e = false) := Lib.hid (by simp only [sameB, decide_eq_false_iff_not]; rintro ⟨-, -, h⟩; exact hlr (by rw [h]))
        clear hlr
        go_enter Try.func12, Try.ntmps12
        go_wp2_with (first | (refine load_cls rfl _ rfl w.heap.size rfl A B HS.out HB.out HG.out ?_) | (refine load_cls rfl _ rfl (w.heap.size + 1) rfl A' B' HS'.out HB'.out HG'.out ?_))
        all_goals go_ret
        all_goals exact ⟨ret_bool (by rw [HF.out]), (ex_ext (by repeat (first | exact Below.refl _ _ | assumption | refine b_drewN ?_ _ | refine Below.drew ?_ | refine b_ext' ?_ _ | refine b_alloc' ?_ _)))⟩
    · have hb1 : ((d.next.length : Int) != (e.next.length : Int)) = true := by simp; omega
      have HF : Hid (sameB d e = false) := Lib.hid (by simp only [sameB, decide_eq_false_iff_not]; rintro ⟨-, h, -⟩; exact hln (by rw [h]))
      clear hln
      go_enter Try.func12, Try.ntmps12
      go_wp2_with (first | (refine load_cls rfl _ rfl w.heap.size rfl A B HS.out HB.out HG.out ?_) | (refine load_cls rfl _ rfl (w.heap.size + 1) rfl A' B' HS'.out HB'.out HG'.out ?_))
      all_goals go_ret
      all_goals exact ⟨ret_bool (by rw [HF.out]), (ex_ext (by repeat (first | exact Below.refl _ _ | assumption | refine b_drewN ?_ _ | refine Below.drew ?_ | refine b_ext' ?_ _ | refine b_alloc' ?_ _)))⟩
  · have hdc : decide (d.cls = e.cls) = false := by simpa using hcls
    have HF : Hid (sameB d e = false) := Lib.hid (by simp only [sameB, decide_eq_false_iff_not]; rintro ⟨h, -, -⟩; exact hcls h)
    clear hcls
    rw [hdc] at hneq
    go_enter Try.func12, Try.ntmps12
    go_wp2_with (first | (refine load_cls rfl _ rfl w.heap.size rfl A B HS.out HB.out HG.out ?_) | (refine load_cls rfl _ rfl (w.heap.size + 1) rfl A' B' HS'.out HB'.out HG'.out ?_))
    all_goals go_ret
    all_goals exact ⟨ret_bool (by rw [HF.out]), (ex_ext (by repeat (first | exact Below.refl _ _ | assumption | refine b_drewN ?_ _ | refine Below.drew ?_ | refine b_ext' ?_ _ | refine b_alloc' ?_ _)))⟩
end Go.Cm

/- Maps that a call makes itself and that number things in the order in which they come. Conditions: none. -/
namespace Go.Cm
open Go.RowKit Go.Proofs Go.Maps

/-- the map holds each key of the list with its place -/
def MapIs {α : Type} [DecidableEq α] (lit : α → Lit) (D : DataW Unit) (ks : List α) : Prop :=
  Tidy D ∧ Maps.size D = ks.length ∧ (∀ k, Maps.has D (lit k) = decide (k ∈ ks)) ∧ ∀ k ∈ ks, D.atKey (lit k) (.lit (.int .i64 0)) = .lit (.int .i64 (idx ks k : Nat))
structure LitOk {α : Type} (lit : α → Lit) : Prop where
  inj : ∀ a b, lit a = lit b → a = b
  key : ∀ a, WideAt.IsKeyLit (lit a)
theorem litString : LitOk (fun s : List UInt8 => Lit.string s) := ⟨fun a b h => by injection h, fun _ => trivial⟩
theorem litInt : LitOk (fun n : Int => Lit.int .i64 n) := ⟨fun a b h => by injection h, fun _ => trivial⟩

theorem wf64 (n : Nat) (h : n ≤ 4294967296) : (Lit.int .i64 (n : Int)).wf = true := by
  have h1 : IntKind.i64.min = -9223372036854775808 := rfl
  have h2 : IntKind.i64.max = 9223372036854775807 := rfl
  simp [Lit.wf, h1, h2]
  omega

section
variable {α : Type} [DecidableEq α] {lit : α → Lit} {D : DataW Unit} {ks : List α}
theorem MapIs.nil (lit : α → Lit) : MapIs lit (.map []) ([] : List α) := ⟨tidy_empty, rfl, fun k => by simp [has_eq], fun k hk => by cases hk⟩
theorem MapIs.snoc (h : MapIs lit D ks) (hl : LitOk lit) {k : α} (hk : k ∉ ks) : MapIs lit (D.put (lit k) (.lit (.int .i64 (ks.length : Nat)))) (ks ++ [k]) := by
  obtain ⟨h1, h2, h3, h4⟩ := h
  refine ⟨h1.put (hl.key k) _, ?_, fun j => ?_, fun j hj => ?_⟩
  · rw [size_put h1, h3 k]; simp [hk, h2]
  · by_cases hjk : j = k
    · subst hjk; rw [has_put_same h1.isMap (hl.key j)]; simp
    · rw [has_put_other (fun e => hjk (hl.inj _ _ e)), h3 j]; simp [hjk]
  · by_cases hjk : j = k
    · subst hjk; rw [atKey_put_same h1.isMap (hl.key j), idxOf_append_new hk]
    · have hj' : j ∈ ks := by
        rcases List.mem_append.1 hj with h | h
        · exact h
        · simp at h; exact absurd h hjk
      rw [atKey_put_other (fun e => hjk (hl.inj _ _ e)), h4 j hj', idxOf_append_left hj']
theorem MapIs.at_eq (h : MapIs lit D ks) {k : α} (hk : k ∈ ks) {c : Int} (hc : D.atKey (lit k) (.lit (.int .i64 0)) = .lit (.int .i64 c)) : c = (idx ks k : Nat) := by
  have h1 := h.2.2.2 k hk
  rw [hc] at h1
  injection h1 with h2
  injection h2
end

/-- the map of a call's own -/
def OwnMap {α : Type} [DecidableEq α] (P : Program) (K E : TypeId) (lit : α → Lit) (w : World) (b : Nat) (ks : List α) : Prop :=
  ∃ D : DataW Unit, w.ownsMap P K (plainElem P E) b ks.length D ∧ MapIs lit D ks
section
variable {α : Type} [DecidableEq α] {P : Program} {K E : TypeId} {lit : α → Lit} {w w' : World} {b : Nat} {ks : List α}
theorem OwnMap.made (w : World) (lit : α → Lit) : OwnMap P K E lit (w.alloc (.map #[] 0)) w.heap.size ([] : List α) := ⟨_, World.ownsMap_made _ _ _ _, MapIs.nil lit⟩
theorem OwnMap.keep (h : OwnMap P K E lit w b ks) {row : Option Nat} (hg : w.grownBy w' row) (hne : some b ≠ row) : OwnMap P K E lit w' b ks := by
  obtain ⟨D, h1, h2⟩ := h; exact ⟨D, h1.kept hg hne, h2⟩
theorem OwnMap.up (h : OwnMap P K E lit w b ks) (hb : Below w.heap.size w w') : OwnMap P K E lit w' b ks := h.keep (row := none) (grown_below hb none) (by simp)
theorem OwnMap.lt (h : OwnMap P K E lit w b ks) : b < w.heap.size := by obtain ⟨D, h1, -⟩ := h; exact h1.lt
end
end Go.Cm
