/- Walks of functions and plain facts, joined and squeezed by a program. Conditions: as each says. -/
import Derived.Lib.Hide
import Derived.WalkKit
namespace Go.Cm
open Go.RowKit
universe u
theorem q9 {p : Prop} (h : p) : RowKit.Hid p := Lib.hid h
theorem qa (n : Nat) : n ≤ n := Nat.le_refl n
theorem qb {n m k : Nat} (h : n ≤ m) (g : m ≤ k) : n ≤ k := Nat.le_trans h g
theorem qc (n : Nat) : 0 ≤ n := Nat.zero_le n
theorem qd {n m k : Nat} (h : n < m) (g : m ≤ k) : n < k := Nat.lt_of_lt_of_le h g
theorem qe {n : Nat} (h : n > 0) {i j : Nat} (g : i ≤ j) : n ^ i ≤ n ^ j := Nat.pow_le_pow_right h g
theorem qf {p : Prop} (h : ¬p → False) : p := Classical.byContradiction h
theorem qg {α : Type u} {xs ys : List α} : (xs ++ ys).length = xs.length + ys.length := List.length_append
theorem qh {α : Type u} (xs ys zs : List α) : xs ++ ys ++ zs = xs ++ (ys ++ zs) := List.append_assoc xs ys zs
theorem qi (B : Nat) (w : World) : Below B w w := Below.refl B w
theorem qj {B : Nat} {a w : World} (h : Below B a w) : Below B a w.drew := Below.drew h
theorem qk {α : Type u} {x y : α} (h : some x = some y) : x = y := Option.some.inj h
theorem qm {p : Prop} [Decidable p] : decide p = false ↔ ¬p := decide_eq_false_iff_not
end Go.Cm
