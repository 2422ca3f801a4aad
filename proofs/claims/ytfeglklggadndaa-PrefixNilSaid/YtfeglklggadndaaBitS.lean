/- The walks of the bit reader. Conditions: none. -/
import Derived.Test.YtfeglklggadndaaOwnM
import Derived.Test.YtfeglklggadndaaBitW
namespace Go.Cm
open Go.RowKit Go.Proofs

/-- the reader in block g: the text s, the next bit's number -/
structure BoxS (w : World) (g : Nat) (s : ByteArray) (p : Nat) : Prop where
  own : Own w g 51 (.slice (some ⟨g, 0, none⟩) 3 3) [.bool true, .string s, .int .i64 p]
section
variable {w : World} {g : Nat} {s : ByteArray} {p : Nat}
theorem BoxS.up {w' : World} (h : BoxS w g s p) (hb : Below w.heap.size w w') : BoxS w' g s p := ⟨h.own.up hb⟩
theorem BoxS.lt (h : BoxS w g s p) : g < w.heap.size := (h.own.lt g rfl).2
theorem BoxS.c0 (h : BoxS w g s p) : w.cell? ⟨g, 0, none⟩ = some (.bool true) := h.own.cell (by simp)
theorem BoxS.c1 (h : BoxS w g s p) : w.cell? ⟨g, 1, none⟩ = some (.string s) := h.own.cell (by simp)
theorem BoxS.c2 (h : BoxS w g s p) : w.cell? ⟨g, 2, none⟩ = some (.int .i64 p) := h.own.cell (by simp)
theorem BoxS.free (h : BoxS w g s p) (c : Nat) : w.frozen? ⟨g, c, none⟩ = false := h.own.free c
theorem BoxS.set2 (h : BoxS w g s p) (r : Nat) : BoxS (w.setCell ⟨g, 2, none⟩ (.int .i64 r)) g s r ∧ w.grownBy (w.setCell ⟨g, 2, none⟩ (.int .i64 r)) (some g) := ⟨⟨(h.own.store 2 _).1⟩, (h.own.store 2 _).2⟩
end
theorem thereS {w : World} {g : Nat} {s : ByteArray} {p : Nat} (h : BoxS w g s p) : Calls Try.prog 39 #[.pointer (some ⟨g, 0, none⟩)] w fun e w' => e = .returned (.bool true) ∧ w' = w := by
  have h0 := h.c0
  have hg := h.lt
  go_enter Try.func39, Try.ntmps39
  go_wp2
  go_ret
  exact ⟨rfl, rfl⟩
theorem atS {w : World} {g : Nat} {s : ByteArray} {p : Nat} (h : BoxS w g s p) : Calls Try.prog 22 #[.pointer (some ⟨g, 0, none⟩)] w fun e w' => e = .returned (.int .i64 p) ∧ w' = w := by
  have HB := Lib.hid h
  have c2 := h.c2
  have hg := h.lt
  clear h
  go_enter Try.func22, Try.ntmps22
  go_wp2_with (go_at_call 39; refine (thereS HB.out).mono ?_; rintro e w' ⟨rfl, hw'⟩; rw [hw']; clear hw')
  go_ret
  exact ⟨rfl, rfl⟩
theorem newS (s : ByteArray) (p : Nat) (hs : s.size ≤ 4294967296) (hp : p ≤ 8 * s.size) (w : World) : Calls Try.prog 14 #[.string s, .int .i64 p] w fun e w' => ∃ g, e = .returned (.tuple #[.pointer (some ⟨g, 0, none⟩), .int .i64 0]) ∧ BoxS w' g s p ∧ w.heap.size ≤ g ∧ Below w.heap.size w w' := by
  have h1 : ¬ (p : Int) < 0 := by omega
  have h2 : ¬ (p : Int) > 8 * (s.size : Int) := by omega
  have ho := own_lit w w.heap.size #[Value.bool true, Value.string s, Value.int .i64 p] 51 (by simp) (Nat.le_refl _)
  have HO := Lib.hid ho
  clear ho
  go_enter Try.func14, Try.ntmps14
  go_wp2
  go_ret2
  exact ⟨w.heap.size, rfl, ⟨HO.out⟩, Nat.le_refl _, below_alloc _ _⟩
theorem leftS {w : World} {g : Nat} {s : ByteArray} {p : Nat} (h : BoxS w g s p) (hs : s.size ≤ 4294967296) (hp : p ≤ 8 * s.size) : Calls Try.prog 33 #[.pointer (some ⟨g, 0, none⟩)] w fun e w' => e = .returned (.int .i64 ((8 * s.size - p : Nat) : Int)) ∧ ∃ x, w' = ext w x := by
  have HB := Lib.hid h
  have c1 := h.c1
  have c2 := h.c2
  have hg := h.lt
  clear h
  have e : ((8 * s.size - p : Nat) : Int) = 8 * (s.size : Int) - (p : Int) := by omega
  go_enter Try.func33, Try.ntmps33
  go_wp2_with (go_at_call 39; refine (thereS HB.out).mono ?_; rintro e w' ⟨rfl, hw'⟩; rw [hw']; clear hw')
  go_quiet (fail)
  go_wp2
  go_ret
  refine ⟨?_, (ex_ext (by repeat (first | exact Below.refl _ _ | assumption | refine b_drewN ?_ _ | refine Below.drew ?_ | refine b_ext' ?_ _ | refine b_alloc' ?_ _)))⟩
  show Ending.returned (Value.int .i64 (8 * (s.size : Int) - (p : Int))) = _
  rw [e]
end Go.Cm
