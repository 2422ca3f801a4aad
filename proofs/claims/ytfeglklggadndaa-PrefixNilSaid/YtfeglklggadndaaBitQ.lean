/- The walks of the bit writer's other functions. Conditions: none. -/
import Derived.Test.YtfeglklggadndaaBitP
namespace Go.Cm
open Go.RowKit Go.Proofs

theorem lenP {w : World} {B g N L : Nat} (h : WrtP w B g N L) (hL : L ≤ 34359738368) : Calls Try.prog 11 #[.pointer (some ⟨g, 0, none⟩)] w fun e w' => e = .returned (.int .i64 L) ∧ ∃ x, w' = ext w x := by
  obtain ⟨⟨vb, hbox, hown, hne⟩, hge, hlt⟩ := h
  have HB := Lib.hid hbox
  have c1 := hbox.c1
  have c3 := hbox.c3
  have hg := hbox.lt
  obtain ⟨oa, cap, gb, rfl, hd, -⟩ := hown.cases
  rw [bytesN_length] at c1
  clear hbox hown hne hd
  go_enter Try.func11, Try.ntmps11
  go_wp2_with (go_at_call 27; refine (thereP HB.out).mono ?_; rintro e w' ⟨rfl, hw'⟩; rw [hw']; clear hw')
  go_quiet (fail)
  go_wp2
  go_ret
  have e : (8 * ((L : Int) / 8) + (L : Int) % 8) = (L : Int) := by omega
  refine ⟨?_, (ex_ext (by repeat (first | exact Below.refl _ _ | assumption | refine b_drewN ?_ _ | refine Below.drew ?_ | refine b_ext' ?_ _ | refine b_alloc' ?_ _)))⟩
  show Ending.returned (Value.int .i64 (8 * ((L : Int) / 8) + (L : Int) % 8)) = _
  rw [e]
theorem codeV {w : World} {B g N L : Nat} {vb : Value} (h : WrtV w B g N L vb) (v n : Nat) (hv : v < 2 ^ n) (hn : n ≤ 32) (hL : L + n ≤ 34359738368) :
    Calls Try.prog 25 #[.pointer (some ⟨g, 0, none⟩), .int .i64 v, .int .i64 n] w fun e w' => e = .returned (.int .i64 0) ∧ ∃ vb', WrtV w' B g (N + turnN v n * 2 ^ L) (L + n) vb' ∧ Below B w w' ∧ Fr g vb vb' w w' := by
  have hd : decide (0 ≤ (n : Int) ∧ (n : Int) ≤ 32) = true := by simp; omega
  have hn0 : (0 : Int) ≤ (n : Int) := by omega
  have hv0 : ¬ (v : Int) < 0 := by omega
  have hz : (v : Int) / 2 ^ n = 0 := by
    have : (v : Int) / 2 ^ n = ((v / 2 ^ n : Nat) : Int) := by norm_cast
    rw [this, Nat.div_eq_of_lt hv]; rfl
  have HP := Lib.hid (putV h (turnN v n) n (turnN_lt v n) hn hL)
  clear h hv
  go_enter Try.func25, Try.ntmps25
  go_wp2_with (first | (go_at_call 40; refine (many _ _).mono ?_; rintro e w' ⟨rfl, hw'⟩; rw [hw', hd]; clear hw') | (go_at_call 43; refine (turnP v n hn _).mono ?_; rintro e w' ⟨rfl, hw'⟩; rw [hw']; clear hw') | (go_at_call 23; refine HP.out.mono ?_; rintro e w' ⟨rfl, vb', hq1, hq2, hq3⟩; have HQ1 := Lib.hid hq1; have HQ2 := Lib.hid hq2; have HQ3 := Lib.hid hq3; clear hq1 hq2 hq3))
  go_ret
  exact ⟨rfl, vb', HQ1.out, HQ2.out, HQ3.out⟩
theorem codeP {w : World} {B g N L : Nat} (h : WrtP w B g N L) (v n : Nat) (hv : v < 2 ^ n) (hn : n ≤ 32) (hL : L + n ≤ 34359738368) :
    Calls Try.prog 25 #[.pointer (some ⟨g, 0, none⟩), .int .i64 v, .int .i64 n] w fun e w' => e = .returned (.int .i64 0) ∧ WrtP w' B g (N + turnN v n * 2 ^ L) (L + n) ∧ Below B w w' := by
  obtain ⟨vb, hV⟩ := h.v
  exact (codeV hV v n hv hn hL).mono fun e w' ⟨h1, vb', h2, h3, _⟩ => ⟨h1, h2.p, h3⟩
end Go.Cm
