/- The walks of the document's bit reader. Conditions: none. -/
import Derived.Test.YtfeglklggadndaaOwnM
import Derived.Test.YtfeglklggadndaaBitS
namespace Go.Cm
open Go.RowKit Go.Proofs

/-- the document's reader in block g -/
structure BoxT (w : World) (g : Nat) (s : ByteArray) (p : Nat) : Prop where
  own : Own w g 61 (.slice (some ⟨g, 0, none⟩) 2 2) [.string s, .int .i64 p]
section
variable {w : World} {g : Nat} {s : ByteArray} {p : Nat}
theorem BoxT.up {w' : World} (h : BoxT w g s p) (hb : Below w.heap.size w w') : BoxT w' g s p := ⟨h.own.up hb⟩
theorem BoxT.lt (h : BoxT w g s p) : g < w.heap.size := (h.own.lt g rfl).2
theorem BoxT.c0 (h : BoxT w g s p) : w.cell? ⟨g, 0, none⟩ = some (.string s) := h.own.cell (by simp)
theorem BoxT.c1 (h : BoxT w g s p) : w.cell? ⟨g, 1, none⟩ = some (.int .i64 p) := h.own.cell (by simp)
theorem BoxT.free (h : BoxT w g s p) (c : Nat) : w.frozen? ⟨g, c, none⟩ = false := h.own.free c
theorem BoxT.set1 (h : BoxT w g s p) (r : Nat) : BoxT (w.setCell ⟨g, 1, none⟩ (.int .i64 r)) g s r ∧ w.grownBy (w.setCell ⟨g, 1, none⟩ (.int .i64 r)) (some g) := ⟨⟨(h.own.store 1 _).1⟩, (h.own.store 1 _).2⟩
end
theorem newT (s : ByteArray) (p : Nat) (hs : s.size ≤ 4294967296) (hp : p ≤ 8 * s.size) (w : World) : Calls Try.prog 20 #[.string s, .int .i64 p] w fun e w' => ∃ g, e = .returned (.tuple #[.pointer (some ⟨g, 0, none⟩), .int .i64 0]) ∧ BoxT w' g s p ∧ w.heap.size ≤ g ∧ Below w.heap.size w w' := by
  have h1 : ¬ (p : Int) < 0 := by omega
  have h2 : ¬ (p : Int) > 8 * (s.size : Int) := by omega
  have ho := own_lit w w.heap.size #[Value.string s, Value.int .i64 p] 61 (by simp) (Nat.le_refl _)
  have HO := Lib.hid ho
  clear ho
  go_enter Try.func20, Try.ntmps20
  go_wp2
  go_ret2
  exact ⟨w.heap.size, rfl, ⟨HO.out⟩, Nat.le_refl _, below_alloc _ _⟩
theorem leftT {w : World} {g : Nat} {s : ByteArray} {p : Nat} (h : BoxT w g s p) (hs : s.size ≤ 4294967296) (hp : p ≤ 8 * s.size) : Calls Try.prog 37 #[.pointer (some ⟨g, 0, none⟩)] w fun e w' => e = .returned (.int .i64 ((8 * s.size - p : Nat) : Int)) ∧ ∃ x, w' = ext w x := by
  have c0 := h.c0
  have c1 := h.c1
  have hg := h.lt
  clear h
  have e : ((8 * s.size - p : Nat) : Int) = 8 * (s.size : Int) - (p : Int) := by omega
  go_enter Try.func37, Try.ntmps37
  go_wp2
  go_quiet (fail)
  go_wp2
  go_ret
  refine ⟨?_, (ex_ext (by repeat (first | exact Below.refl _ _ | assumption | refine b_drewN ?_ _ | refine Below.drew ?_ | refine b_ext' ?_ _ | refine b_alloc' ?_ _)))⟩
  show Ending.returned (Value.int .i64 (8 * (s.size : Int) - (p : Int))) = _
  rw [e]
end Go.Cm
