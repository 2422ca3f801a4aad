/- The least automaton, in plain Lean: states that are reached, states that are alike, the automaton made of them. Conditions: none. -/
import Derived.Test.YtjeclleophlliaaDfaM
namespace Go.Cm

/-- ints of naturals -/
def nl (l : List Nat) : List Int := l.map fun n : Nat => (n : Int)
@[simp] theorem nl_length (l : List Nat) : (nl l).length = l.length := by simp [nl]
theorem nl_getD (l : List Nat) (k : Nat) : (nl l).getD k 0 = ((l.getD k 0 : Nat) : Int) := by
  simp only [nl, List.getD_eq_getElem?_getD, List.getElem?_map]
  cases l[k]? <;> simp
theorem nl_append (a b : List Nat) : nl (a ++ b) = nl a ++ nl b := by simp [nl]
theorem mem_nl {l : List Nat} {n : Nat} : (n : Int) ∈ nl l ↔ n ∈ l := by
  simp only [nl, List.mem_map]
  exact ⟨fun ⟨a, h, e⟩ => by have : a = n := by omega
                             exact this ▸ h, fun h => ⟨n, h, rfl⟩⟩
theorem nl_inj {a b : List Nat} (h : nl a = nl b) : a = b := by
  have := congrArg (List.map Int.toNat) h
  simpa [nl, Function.comp_def] using this

/-- the row of a state, as naturals -/
def rowN (d : Dfa) (i : Nat) : List Nat := (d.next.getD i []).map Int.toNat
def pushNew (out : List Nat) (to : Nat) : List Nat := if to ∈ out then out else out ++ [to]
def scanRow (out row : List Nat) : List Nat := row.foldl pushNew out
def reachFrom (d : Dfa) : Nat → Nat → List Nat → List Nat
  | 0, _, out => out
  | f + 1, i, out => if i < out.length then reachFrom d f (i + 1) (scanRow out (rowN d (out.getD i 0))) else out
/-- the states that are reached, in the order in which they are met -/
def reach (d : Dfa) : List Nat := reachFrom d (d.next.length + 1) 0 [0]

theorem scanRow_take_succ (out row : List Nat) (k : Nat) (h : k < row.length) : scanRow out (row.take (k + 1)) = pushNew (scanRow out (row.take k)) (row.getD k 0) := by
  unfold scanRow
  rw [take_succ_getD row k 0 h, List.foldl_append]; rfl
theorem pushNew_nodup {out : List Nat} {to : Nat} (h : out.Nodup) : (pushNew out to).Nodup := by
  unfold pushNew; split
  · exact h
  · rename_i hn; rw [List.nodup_append]; exact ⟨h, by simp, fun a ha b hb e => by simp at hb; subst hb; subst e; exact hn ha⟩
theorem pushNew_mem {out : List Nat} {to x : Nat} : x ∈ pushNew out to ↔ x ∈ out ∨ x = to := by
  unfold pushNew; split
  · rename_i h; exact ⟨.inl, fun q => q.elim id (fun e => e ▸ h)⟩
  · simp
theorem pushNew_len {out : List Nat} {to : Nat} : out.length ≤ (pushNew out to).length := by unfold pushNew; split <;> simp
theorem pushNew_getD {out : List Nat} {to i : Nat} (h : i < out.length) : (pushNew out to).getD i 0 = out.getD i 0 := by
  unfold pushNew; split
  · rfl
  · simp [List.getD, List.getElem?_append_left h]
theorem scanRow_spec (row : List Nat) : ∀ out, (out.Nodup → (scanRow out row).Nodup) ∧ (∀ x, x ∈ scanRow out row ↔ x ∈ out ∨ x ∈ row) ∧ out.length ≤ (scanRow out row).length ∧ ∀ i, i < out.length → (scanRow out row).getD i 0 = out.getD i 0 := by
  induction row with
  | nil => intro out; simp [scanRow]
  | cons a row ih =>
    intro out
    obtain ⟨h1, h2, h3, h4⟩ := ih (pushNew out a)
    refine ⟨fun h => h1 (pushNew_nodup h), fun x => ?_, Nat.le_trans pushNew_len h3, fun i hi => ?_⟩
    · show x ∈ scanRow (pushNew out a) row ↔ _
      rw [h2, pushNew_mem, List.mem_cons]
      constructor
      · rintro ((h | h) | h)
        · exact .inl h
        · exact .inr (.inl h)
        · exact .inr (.inr h)
      · rintro (h | h | h)
        · exact .inl (.inl h)
        · exact .inl (.inr h)
        · exact .inr h
    · show (scanRow (pushNew out a) row).getD i 0 = _
      rw [h4 i (Nat.lt_of_lt_of_le hi pushNew_len), pushNew_getD hi]
theorem nodup_bound {l : List Nat} {n : Nat} (h : l.Nodup) (hb : ∀ x ∈ l, x < n) : l.length ≤ n := by
  induction n generalizing l with
  | zero => cases l with
    | nil => simp
    | cons a l => exact absurd (hb a (by simp)) (by omega)
  | succ n ih =>
    have h1 : (l.filter (· ≠ n)).length ≤ n := ih (h.filter _) (fun x hx => by
      have := hb x (List.mem_filter.1 hx).1
      have h2 : x ≠ n := by simpa using (List.mem_filter.1 hx).2
      omega)
    have h2 : l.length ≤ (l.filter (· ≠ n)).length + 1 := by
      have hsplit : ∀ (l : List Nat), l.Nodup → l.length ≤ (l.filter (· ≠ n)).length + 1 := by
        intro l
        induction l with
        | nil => intro _; simp
        | cons a l ih =>
          intro hd
          rw [List.nodup_cons] at hd
          by_cases ha : a = n
          · have : l.filter (· ≠ n) = l := by
              rw [List.filter_eq_self]; intro b hb
              have : b ≠ n := fun e => hd.1 (by rw [ha, ← e]; exact hb)
              simpa using this
            rw [List.filter_cons, if_neg (by simp [ha]), this]; simp
          · have := ih hd.2
            simp only [List.filter_cons, ha, ne_eq, not_false_eq_true, decide_true, if_true, List.length_cons] at this ⊢
            omega
      exact hsplit l h
    omega
/-- more fuel changes nothing once the list is run through -/
theorem reachFrom_done (d : Dfa) (i : Nat) (out : List Nat) (h : out.length ≤ i) : ∀ f, reachFrom d f i out = out
  | 0 => rfl
  | f + 1 => by simp [reachFrom, Nat.not_lt.2 h]
end Go.Cm
