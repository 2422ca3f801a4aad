/- Texts of this claim, joined: walks of small functions and plain facts about them. Conditions: as each says. -/
import Derived.Test.YtfnkhcibcffcmaaGP
/- The walk of NfaMatches. Conditions: none. -/
namespace Go.Cm
open Go.RowKit Go.Proofs

theorem ints_eq {w : World} {v u : Value} {a : List Int} (h : IntsAt w v a) (h2 : IntsAt w u a) :
    Calls Try.prog 47 #[v, u] w fun e w' => e = .returned (.bool true) ∧ ∃ x, w' = ext w x := by
  have := intsR h h2
  simpa using this
theorem wq_setW {x : Ed} (h : WQ x.a ∧ WQ x.b ∧ WQ x.c ∧ WQ x.d) : SetW x := fun q => by
  obtain ⟨h1, h2, h3, h4⟩ := h
  unfold wordN
  (repeat' split) <;> first | exact h1.1 | exact h2.1 | exact h3.1 | exact h4.1
theorem edq_setW {x : Ed} (h : EdQ x) : SetW x := wq_setW h.2
end Go.Cm
