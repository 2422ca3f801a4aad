/- The reading of symbols, in plain Lean. Conditions: none. -/
import Derived.Test.YtfeglklggadndaaLenM
import Derived.Test.YtfeglklggadndaaBitM
namespace Go.Cm

theorem turnN_mod (V m n : Nat) (h : n ≤ m) : turnN (V % 2 ^ m) n = turnN V n := by
  refine eq_of_bits n (turnN_lt _ _) (turnN_lt _ _) fun i hi => ?_
  rw [turnN_bit, turnN_bit, Nat.testBit_mod_two_pow, decide_eq_true (show n - 1 - i < m by omega), Bool.true_and]
theorem turnN_cut (V n d : Nat) : turnN V (n + d) / 2 ^ d = turnN V n := by
  induction d with
  | zero => simp
  | succ d ih =>
    rw [← Nat.add_assoc, turnN_succ, Nat.pow_succ, Nat.mul_comm (2 ^ d), ← Nat.div_div_eq_div_mul]
    have hb : (V.testBit (n + d)).toNat ≤ 1 := by cases V.testBit (n + d) <;> simp
    rw [show (2 * turnN V (n + d) + (V.testBit (n + d)).toNat) / 2 = turnN V (n + d) by omega, ih]
/-- the next bits are symbol i's code -/
def hitN (L : List Nat) (V i : Nat) : Prop := L.getD i 0 ≠ 0 ∧ codeN L i = turnN V (L.getD i 0)
theorem hit_one {L : List Nat} {V i j : Nat} (hi : i < L.length) (hj : j < L.length) (h1 : hitN L V i) (h2 : hitN L V j) : i = j := by
  have key : ∀ i j, i < L.length → j < L.length → hitN L V i → hitN L V j → L.getD i 0 ≤ L.getD j 0 → i = j := by
    intro i j hi hj h1 h2 hle
    refine code_apart i j hi hj h1.1 hle ?_
    rw [h2.2, h1.2]
    obtain ⟨d, hd⟩ : ∃ d, L.getD j 0 = L.getD i 0 + d := ⟨L.getD j 0 - L.getD i 0, by omega⟩
    rw [hd, Nat.add_sub_cancel_left, turnN_cut]
  rcases Nat.le_total (L.getD i 0) (L.getD j 0) with h | h
  · exact key i j hi hj h1 h2 h
  · exact (key j i hj hi h2 h1 h).symm
theorem hit_mod {L : List Nat} {V m i : Nat} (h : L.getD i 0 ≤ m) : hitN L (V % 2 ^ m) i ↔ hitN L V i := by
  unfold hitN; rw [turnN_mod V m _ h]
/-- what the reading of a symbol gives: the symbol, what is wrong, how many bits -/
def ReadN (L : List Nat) (V left a e d : Nat) : Prop :=
  (a < L.length ∧ hitN L V a ∧ L.getD a 0 ≤ left ∧ e = 0 ∧ d = L.getD a 0) ∨
  ((∀ i, i < L.length → hitN L V i → left < L.getD i 0) ∧ a = 0 ∧ d = 0 ∧ e = if left < 15 then 2 else 9)
theorem read_one {L : List Nat} {V left a e d a' e' d' : Nat} (h : ReadN L V left a e d) (h' : ReadN L V left a' e' d') : a = a' ∧ e = e' ∧ d = d' := by
  rcases h with ⟨h1, h2, h3, h4, h5⟩ | ⟨h1, h2, h3, h4⟩
  · rcases h' with ⟨g1, g2, g3, g4, g5⟩ | ⟨g1, g2, g3, g4⟩
    · have := hit_one h1 g1 h2 g2; subst this; omega
    · have := g1 a h1 h2; omega
  · rcases h' with ⟨g1, g2, g3, g4, g5⟩ | ⟨g1, g2, g3, g4⟩
    · have := h1 a' g1 g2; omega
    · omega
theorem read_le {L : List Nat} {V left a e d : Nat} (h : ReadN L V left a e d) : d ≤ left := by
  rcases h with ⟨h1, h2, h3, h4, h5⟩ | ⟨h1, h2, h3, h4⟩ <;> omega
end Go.Cm
