/- Texts of this claim, joined: walks of small functions and plain facts about them. Conditions: as each says. -/
import Derived.Test.YtfnkhcibcffcmaaGL
/- The walk of NfaJoins. Conditions: none. -/
namespace Go.Cm
open Go.RowKit Go.Proofs

theorem setL_pre (n m : Nat) (h : m ≤ n) (P : Nat → Prop) : ∃ tl, setL n P = setL m P ++ tl := by
  induction n with
  | zero => obtain rfl : m = 0 := by omega
            exact ⟨[], by simp⟩
  | succ n ih =>
    by_cases hm : m ≤ n
    · obtain ⟨tl, h1⟩ := ih hm
      exact ⟨_, by rw [setL_succ, h1, List.append_assoc]⟩
    · obtain rfl : m = n + 1 := by omega
      exact ⟨[], by simp⟩
theorem setL_yes {n i : Nat} {P : Nat → Prop} (hi : i < n) (hp : P i) : (setL i P).length < (setL n P).length ∧ (setL n P).getD (setL i P).length 0 = i := by
  obtain ⟨tl, h⟩ := setL_pre n (i + 1) hi P
  have h1 : setL (i + 1) P = setL i P ++ [i] := by rw [setL_succ, @decide_eq_true _ (Classical.propDecidable _) hp]; simp
  rw [h, h1]
  simp [List.getD]
theorem setL_no {n i : Nat} {P : Nat → Prop} (hp : ¬ P i) (h : (setL i P).length < (setL n P).length) : (setL n P).getD (setL i P).length 0 ≠ i := by
  intro e
  have hm : (setL n P).getD (setL i P).length 0 ∈ setL n P := by simp [List.getD, h]
  rw [e, mem_setL] at hm
  exact hp hm.2
theorem setL_succ_len (i : Nat) (P : Nat → Prop) : (P i → (setL (i + 1) P).length = (setL i P).length + 1) ∧ (¬ P i → (setL (i + 1) P).length = (setL i P).length) := by
  constructor
  · intro hp; rw [setL_succ, @decide_eq_true _ (Classical.propDecidable _) hp]; simp
  · intro hp; rw [setL_succ, @decide_eq_false _ (Classical.propDecidable _) hp]; simp
theorem run_one_yes {l : List Nd} {t : List Nat} (h : langL l t) : setL ([l] : List (List Nd)).length (fun k => langL (([l] : List (List Nd)).getD k []) t) = [0] := by
  have : setL 1 (fun k => langL (([l] : List (List Nd)).getD k []) t) = (List.range 1).filter (fun _ => true) := setL_dec _ fun i hi => by
    obtain rfl : i = 0 := by omega
    exact ⟨fun _ => rfl, fun _ => h⟩
  exact this
theorem run_one_no {l : List Nd} {t : List Nat} (h : ¬ langL l t) : setL ([l] : List (List Nd)).length (fun k => langL (([l] : List (List Nd)).getD k []) t) = [] := by
  have : setL 1 (fun k => langL (([l] : List (List Nd)).getD k []) t) = (List.range 1).filter (fun _ => false) := setL_dec _ fun i hi => by
    obtain rfl : i = 0 := by omega
    exact ⟨fun hh => absurd hh h, fun hh => by cases hh⟩
  exact this
theorem may_one {ll : List (List Nd)} (h : mayL ll = 0) (i : Nat) (hi : i < ll.length) : mayL [ll.getD i []] = 0 := by
  obtain ⟨h1, h2, h3, h4⟩ := may_ok h
  have hm : ll.getD i [] ∈ ll := by simp [List.getD, hi]
  have hs := sumS_succ ll i hi
  have hle := sumS_le ll i (by omega)
  have hle2 := sumS_le ll (i + 1) (by omega)
  unfold mayL
  rw [if_neg (by simp), if_neg (by simp), if_neg, if_neg]
  · simp only [List.map_cons, List.map_nil, List.sum_cons, List.sum_nil]
    omega
  · intro hn
    refine hn fun l hl => ?_
    rw [List.mem_singleton.1 hl]
    exact h1 _ hm
theorem Sl.mid {P : Program} {w : World} {v : Value} {l : List Value} (h : Sl w v l) (t E : TypeId) (ht : P.underlying t = some (.slice E)) (hE : (P.info? E).map (·.size) = some 1) (n m : Nat) (hn : n ≤ m) (hm : m ≤ l.length) :
    ∃ u, (∀ W : World, (Instr.sliceAt t v (some (.int .i64 (n : Int))) (some (.int .i64 (m : Int))) none).run P W = .ok u W) ∧ Sl w u ((l.drop n).take (m - n)) := by
  obtain ⟨oa, cap, b, off, rfl, hd, hc⟩ := h
  obtain ⟨h1, h2⟩ := run_cutK t E ht hE
  have hcap := hd.hcap
  have hl : ((l.drop n).take (m - n)).length = m - n := by rw [List.length_take, List.length_drop]; omega
  refine ⟨sliced oa n m cap 1, fun W => ?_, ?_⟩
  · rw [run_sliceAt_slice (P := P) (t := t) (h := h1), run_slice_lh (t := t) (ht := h1) (h0 := by omega) (h1 := by omega) (h2 := by omega), h2]
    simp [Result.andThen]
  · refine ⟨if cap = n then oa else oa.map (·.add (n * 1)), cap - n, b, off + n, by rw [hl]; simp [sliced], ⟨fun h0 => ?_, by omega, by have := hd.hmax; omega, by have := hd.hsml; omega, fun h0 => hd.hblk (by omega)⟩, fun i hi => ?_⟩
    · rw [hl] at h0
      rw [if_neg (by omega), hd.hat (by omega)]
      simp [add_off]
    · rw [hl] at hi
      rw [Nat.add_assoc, hc (n + i) (by omega)]
      simp [List.getD, hi]
theorem TreesAt.one {w : World} {v : Value} {ll : List (List Nd)} (h : TreesAt w v ll) (i : Nat) (hi : i < ll.length) :
    ∃ u, (∀ W : World, (Instr.sliceAt 39 v (some (.int .i64 (i : Int))) (some (.int .i64 ((i : Int) + 1))) none).run Try.prog W = .ok u W) ∧ TreesAt w u [ll.getD i []] := by
  obtain ⟨vs, h1, h2, h3⟩ := h
  obtain ⟨u, hu, hs⟩ := h1.mid (P := Try.prog) 39 48 Try.underlying39 (by kernel_rfl) i (i + 1) (Nat.le_succ _) (by omega)
  refine ⟨u, fun W => by have := hu W; push_cast at this; exact this, [vs.getD i undef], ?_, rfl, fun j hj => ?_⟩
  · have e : (vs.drop i).take (i + 1 - i) = [vs.getD i undef] := by
      rw [Nat.add_sub_cancel_left]
      rw [List.drop_eq_getElem_cons (show i < vs.length by omega), List.take_succ_cons, List.take_zero]
      simp [List.getD, show i < vs.length by omega]
    rw [e] at hs
    exact hs
  · obtain rfl : j = 0 := by simpa using hj
    exact h3 i hi
end Go.Cm
