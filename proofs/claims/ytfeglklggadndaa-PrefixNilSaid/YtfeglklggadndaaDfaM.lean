/- Automata as data, and what the program and the document compute of them, in plain Lean. Conditions: none. -/
namespace Go.Cm

structure Dfa where
  cls : List Int
  next : List (List Int)
  rules : List Int

def sumLen (ll : List (List Int)) : Nat := (ll.map List.length).sum
theorem sumLen_take_succ (ll : List (List Int)) (k : Nat) (h : k < ll.length) : sumLen (ll.take (k + 1)) = sumLen (ll.take k) + (ll.getD k []).length := by
  unfold sumLen
  rw [List.take_succ_eq_append_getElem h, List.map_append, List.sum_append]
  simp [List.getD, h]
theorem sumLen_take_le (ll : List (List Int)) (k : Nat) : sumLen (ll.take k) ≤ sumLen ll := by
  unfold sumLen
  have h : ll = ll.take k ++ ll.drop k := (List.take_append_drop k ll).symm
  have h2 : (ll.map List.length).sum = ((ll.take k).map List.length).sum + ((ll.drop k).map List.length).sum := by
    rw [← List.sum_append, ← List.map_append, List.take_append_drop]
  omega

def lightB (d : Dfa) : Bool := decide (d.next.length ≤ 1100 ∧ d.rules.length ≤ 1100 ∧ sumLen d.next ≤ 300000)
def smallB (d : Dfa) : Bool := decide (d.next.length ≤ 1100 ∧ d.rules.length ≤ 1100 ∧ sumLen d.next ≤ 300000 ∧ d.next.length ≤ 30)

/-- the classes of bytes: how many, if they are numbered in the order of their first bytes -/
def classesFrom : Nat → List Int → Option Nat
  | n, [] => some n
  | n, k :: l => if k < 0 ∨ (n : Int) < k then none else if k = n then classesFrom (n + 1) l else classesFrom n l
def classesI (l : List Int) : Int := match classesFrom 0 l with | some n => n | none => -1

theorem classesFrom_drop (n : Nat) (l : List Int) (k : Nat) (h : k < l.length) :
    classesFrom n (l.drop k) = if l.getD k 0 < 0 ∨ (n : Int) < l.getD k 0 then none else if l.getD k 0 = n then classesFrom (n + 1) (l.drop (k + 1)) else classesFrom n (l.drop (k + 1)) := by
  rw [List.drop_eq_getElem_cons h]
  simp [classesFrom, List.getD, h]

def rowOk (n : Nat) (k : Nat) (r : Int) (row : List Int) : Prop := -1 ≤ r ∧ r < 32 ∧ row.length = k ∧ ∀ j, j < row.length → 0 ≤ row.getD j 0 ∧ row.getD j 0 < n
def Valid (d : Dfa) : Prop := 1 ≤ d.next.length ∧ d.next.length ≤ 1000 ∧ d.rules.length = d.next.length ∧ ∃ k, classesFrom 0 d.cls = some k ∧ ∀ i, i < d.next.length → rowOk d.next.length k (d.rules.getD i 0) (d.next.getD i [])
open Classical in
noncomputable def rightB (d : Dfa) : Bool := decide (Valid d)
theorem rightB_true {d : Dfa} (h : Valid d) : rightB d = true := by unfold rightB; simpa using h
theorem rightB_false {d : Dfa} (h : ¬ Valid d) : rightB d = false := by unfold rightB; simpa using h
theorem rightB_iff {d : Dfa} : rightB d = true ↔ Valid d := by unfold rightB; simp

/-- the state behind a text -/
def runFrom (d : Dfa) (at_ : Int) : List UInt8 → Int
  | [] => at_
  | c :: s => runFrom d ((d.next.getD at_.toNat []).getD (d.cls.getD c.toNat 0).toNat 0) s
open Classical in
noncomputable def runI (d : Dfa) (s : List UInt8) : Int := if Valid d then runFrom d 0 s else -1
open Classical in
noncomputable def afterI (d : Dfa) (s : List UInt8) : Int := if Valid d then d.rules.getD (runFrom d 0 s).toNat 0 else -1

def sameB (a b : Dfa) : Bool := decide (a.cls = b.cls ∧ a.next = b.next ∧ a.rules = b.rules)

theorem take_succ_getD {α : Type} (l : List α) (k : Nat) (d : α) (h : k < l.length) : l.take (k + 1) = l.take k ++ [l.getD k d] := by
  rw [List.take_succ_eq_append_getElem h, List.getD_eq_getElem?_getD, List.getElem?_eq_getElem h, Option.getD_some]
theorem mem_take_succ {α : Type} (l : List α) (k : Nat) (d : α) (x : α) (h : k < l.length) : x ∈ l.take (k + 1) ↔ x ∈ l.take k ∨ x = l.getD k d := by
  rw [take_succ_getD l k d h, List.mem_append, List.mem_singleton]
theorem getD_mem {α : Type} (l : List α) (k : Nat) (d : α) (h : k < l.length) : l.getD k d ∈ l := by
  simp [List.getD, h]

theorem classesFrom_mono (l : List Int) : ∀ n k, classesFrom n l = some k → n ≤ k ∧ k ≤ n + l.length := by
  induction l with
  | nil => intro n k h; simp [classesFrom] at h; simp; omega
  | cons a l ih =>
    intro n k h
    simp only [classesFrom] at h
    split at h
    · cases h
    · split at h
      · have := ih _ _ h; simp only [List.length_cons]; omega
      · have := ih _ _ h; simp only [List.length_cons]; omega
theorem classesFrom_lt (l : List Int) : ∀ n k, classesFrom n l = some k → ∀ x ∈ l, 0 ≤ x ∧ x < k := by
  induction l with
  | nil => intro n k _ x hx; cases hx
  | cons a l ih =>
    intro n k h x hx
    simp only [classesFrom] at h
    split at h
    · cases h
    · rename_i hn
      split at h
      · have h2 := classesFrom_mono l _ _ h
        rcases List.mem_cons.1 hx with rfl | hx
        · omega
        · exact ih _ _ h x hx
      · have h2 := classesFrom_mono l _ _ h
        rcases List.mem_cons.1 hx with rfl | hx
        · omega
        · exact ih _ _ h x hx
end Go.Cm
