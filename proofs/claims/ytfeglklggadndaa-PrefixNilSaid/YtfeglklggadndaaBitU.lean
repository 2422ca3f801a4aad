/- The walk of the bit reader's Skip. Conditions: the bits are there. -/
import Derived.Test.YtfeglklggadndaaBitS
namespace Go.Cm
open Go.RowKit Go.Proofs

theorem skipS {w : World} {g : Nat} {s : ByteArray} {p : Nat} (h : BoxS w g s p) (hs : s.size ≤ 4294967296) (n : Nat) (hn : n ≤ 32) (hp : p + n ≤ 8 * s.size) : Calls Try.prog 34 #[.pointer (some ⟨g, 0, none⟩), .int .i64 n] w fun e w' => e = .returned (.int .i64 0) ∧ BoxS w' g s (p + n) ∧ w.grownBy w' (some g) := by
  have hd : decide (0 ≤ (n : Int) ∧ (n : Int) ≤ 32) = true := by simp; omega
  have HB := Lib.hid h
  have HL := Lib.hid (leftS h hs (by omega))
  have hl : ¬ (n : Int) > ((8 * s.size - p : Nat) : Int) := by omega
  obtain ⟨q, hq⟩ : ∃ q : Nat, q = 8 * s.size - p := ⟨_, rfl⟩
  rw [← hq] at HL hl
  clear hq h
  go_enter Try.func34, Try.ntmps34
  go_wp2_with (first | (go_at_call 39; refine (thereS HB.out).mono ?_; rintro e w' ⟨rfl, hw'⟩; rw [hw']; clear hw') | (go_at_call 40; refine (many _ _).mono ?_; rintro e w' ⟨rfl, hw'⟩; rw [hw', hd]; clear hw') | (go_at_call 33; refine HL.out.mono ?_; rintro e w' ⟨rfl, x, rfl⟩; have HB2 := Lib.hid (HB.out.up (ext_below w x)); have c2 := HB2.out.c2; have f2 := HB2.out.free 2; have hg := HB2.out.lt; have HST := Lib.hid (HB2.out.set2 (p + n))))
  go_ret
  have hst := HST.out
  rw [Int.natCast_add] at hst
  exact ⟨rfl, hst.1, grown_trans (grown_below (ext_below w _) _) hst.2⟩
end Go.Cm
