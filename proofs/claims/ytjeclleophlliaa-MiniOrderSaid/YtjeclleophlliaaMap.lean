/- Maps that a call makes itself and that number things in the order in which they come. Conditions: none. -/
import Derived.Test.YtjeclleophlliaaOwn
import Derived.Test.YtjeclleophlliaaNumb
import Derived.Maps.Own
import Derived.Maps.OwnOps
import Derived.Maps.OwnSet
import Derived.Maps.Views
namespace Go.Cm
open Go.RowKit Go.Proofs Go.Maps

/-- the map holds each key of the list with its place -/
def MapIs {α : Type} [DecidableEq α] (lit : α → Lit) (D : DataW Unit) (ks : List α) : Prop :=
  Tidy D ∧ Maps.size D = ks.length ∧ (∀ k, Maps.has D (lit k) = decide (k ∈ ks)) ∧ ∀ k ∈ ks, D.atKey (lit k) (.lit (.int .i64 0)) = .lit (.int .i64 (idx ks k : Nat))
structure LitOk {α : Type} (lit : α → Lit) : Prop where
  inj : ∀ a b, lit a = lit b → a = b
  key : ∀ a, WideAt.IsKeyLit (lit a)
theorem litString : LitOk (fun s : List UInt8 => Lit.string s) := ⟨fun a b h => by injection h, fun _ => trivial⟩
theorem litInt : LitOk (fun n : Int => Lit.int .i64 n) := ⟨fun a b h => by injection h, fun _ => trivial⟩

theorem wf64 (n : Nat) (h : n ≤ 4294967296) : (Lit.int .i64 (n : Int)).wf = true := by
  have h1 : IntKind.i64.min = -9223372036854775808 := rfl
  have h2 : IntKind.i64.max = 9223372036854775807 := rfl
  simp [Lit.wf, h1, h2]
  omega

section
variable {α : Type} [DecidableEq α] {lit : α → Lit} {D : DataW Unit} {ks : List α}
theorem MapIs.nil (lit : α → Lit) : MapIs lit (.map []) ([] : List α) := ⟨tidy_empty, rfl, fun k => by simp [has_eq], fun k hk => by cases hk⟩
theorem MapIs.snoc (h : MapIs lit D ks) (hl : LitOk lit) {k : α} (hk : k ∉ ks) : MapIs lit (D.put (lit k) (.lit (.int .i64 (ks.length : Nat)))) (ks ++ [k]) := by
  obtain ⟨h1, h2, h3, h4⟩ := h
  refine ⟨h1.put (hl.key k) _, ?_, fun j => ?_, fun j hj => ?_⟩
  · rw [size_put h1, h3 k]; simp [hk, h2]
  · by_cases hjk : j = k
    · subst hjk; rw [has_put_same h1.isMap (hl.key j)]; simp
    · rw [has_put_other (fun e => hjk (hl.inj _ _ e)), h3 j]; simp [hjk]
  · by_cases hjk : j = k
    · subst hjk; rw [atKey_put_same h1.isMap (hl.key j), idxOf_append_new hk]
    · have hj' : j ∈ ks := by
        rcases List.mem_append.1 hj with h | h
        · exact h
        · simp at h; exact absurd h hjk
      rw [atKey_put_other (fun e => hjk (hl.inj _ _ e)), h4 j hj', idxOf_append_left hj']
theorem MapIs.at_eq (h : MapIs lit D ks) {k : α} (hk : k ∈ ks) {c : Int} (hc : D.atKey (lit k) (.lit (.int .i64 0)) = .lit (.int .i64 c)) : c = (idx ks k : Nat) := by
  have h1 := h.2.2.2 k hk
  rw [hc] at h1
  injection h1 with h2
  injection h2
end

/-- the map of a call's own -/
def OwnMap {α : Type} [DecidableEq α] (P : Program) (K E : TypeId) (lit : α → Lit) (w : World) (b : Nat) (ks : List α) : Prop :=
  ∃ D : DataW Unit, w.ownsMap P K (plainElem P E) b ks.length D ∧ MapIs lit D ks
section
variable {α : Type} [DecidableEq α] {P : Program} {K E : TypeId} {lit : α → Lit} {w w' : World} {b : Nat} {ks : List α}
theorem OwnMap.made (w : World) (lit : α → Lit) : OwnMap P K E lit (w.alloc (.map #[] 0)) w.heap.size ([] : List α) := ⟨_, World.ownsMap_made _ _ _ _, MapIs.nil lit⟩
theorem OwnMap.keep (h : OwnMap P K E lit w b ks) {row : Option Nat} (hg : w.grownBy w' row) (hne : some b ≠ row) : OwnMap P K E lit w' b ks := by
  obtain ⟨D, h1, h2⟩ := h; exact ⟨D, h1.kept hg hne, h2⟩
theorem OwnMap.up (h : OwnMap P K E lit w b ks) (hb : Below w.heap.size w w') : OwnMap P K E lit w' b ks := h.keep (row := none) (grown_below hb none) (by simp)
theorem OwnMap.lt (h : OwnMap P K E lit w b ks) : b < w.heap.size := by obtain ⟨D, h1, -⟩ := h; exact h1.lt
end
end Go.Cm
