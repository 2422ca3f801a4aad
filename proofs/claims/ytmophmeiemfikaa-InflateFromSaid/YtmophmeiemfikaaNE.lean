/- Texts of this claim, joined: walks of small functions and plain facts about them. Conditions: as each says. -/
import Derived.Test.YtmophmeiemfikaaND
import Derived.Test.YtmophmeiemfikaaRows
import Derived.WalkKit
import Derived.WalkSpells
import Derived.WalkLawsBesides
import Derived.Deep.QuietTactic
import Derived.BigQuiet
import Derived.Lib.Hide
import Derived.Deep.LoopGhost
import Derived.Laws.BitsLemmas
import Derived.Laws.Small
import Derived.Deep.DeepCutAuto
import Derived.Deep.CutBlock
import Derived.Deep.CutRange
import Derived.Laws.IdiomStrings
import Derived.Laws.CopyOwn
/- A head that was read: where the reader stands then, and that it may be written. Conditions: none. -/
namespace Go.Cm

theorem xb_mono {N T n : Nat} {st : Nat × Nat} (h : st.2 ≤ T) : st.2 ≤ (xb N T n st).2.2 ∧ (xb N T n st).2.2 ≤ T := by
  obtain ⟨e, p⟩ := st
  unfold xb
  split
  · have := bitsA_le (N := N) (n := n) (show p ≤ T from h)
    exact ⟨this.2, this.1⟩
  · exact ⟨Nat.le_refl _, h⟩
theorem xf_place (e : Nat) (st : Nat × Nat) : (xf e st).2 = st.2 := by unfold xf; split <;> rfl
theorem codeK_mono {N T c : Nat} {x : List Nat × (Nat × Nat)} (h : x.2.2 ≤ T) : ∀ k, x.2.2 ≤ (codeK N T c k x).2.2 ∧ (codeK N T c k x).2.2 ≤ T
  | 0 => ⟨Nat.le_refl _, h⟩
  | k + 1 => by
    have ih := codeK_mono (N := N) (c := c) h k
    rw [codeK_step]
    split
    · have := xb_mono (N := N) (n := 3) ih.2
      exact ⟨Nat.le_trans ih.1 this.1, this.2⟩
    · exact ih
theorem repN_mono {N T a : Nat} {l : List Nat} {st : Nat × Nat} (h : st.2 ≤ T) : st.2 ≤ (repN N T a l st).2.2.2 ∧ (repN N T a l st).2.2.2 ≤ T := by
  unfold repN
  split
  · exact xb_mono h
  · split
    · split
      · show st.2 ≤ (xf 4 st).2 ∧ (xf 4 st).2 ≤ T
        rw [xf_place]; exact ⟨Nat.le_refl _, h⟩
      · exact xb_mono h
    · exact xb_mono h
theorem rowN_mono {N T : Nat} {L : List Nat} {n : Nat} : ∀ (f : Nat) (l : List Nat) (st : Nat × Nat), st.2 ≤ T → st.2 ≤ (rowN N T L n f l st).2.2 ∧ (rowN N T L n f l st).2.2 ≤ T
  | 0, _, _, h => ⟨Nat.le_refl _, h⟩
  | f + 1, l, st, h => by
    by_cases hc : st.1 = 0 ∧ l.length < n
    · obtain ⟨en, p⟩ := st
      obtain ⟨h0, hlt⟩ := hc
      simp only at h0; subst h0
      rw [rowN_step N T L n f l p hlt]
      have hf := (readF_facts L (N / 2 ^ p) (T - p)).2.1
      generalize readF L (N / 2 ^ p) (T - p) = r at *
      have hd : p + r.2.2 ≤ T := by simp only at h; omega
      unfold rowStep
      split
      · exact ⟨Nat.le_refl _, h⟩
      · split
        · have := rowN_mono (N := N) (L := L) (n := n) f (l ++ [r.1]) (0, p + r.2.2) hd
          exact ⟨Nat.le_trans (Nat.le_add_right _ _) this.1, this.2⟩
        · have hm := repN_mono (N := N) (a := r.1) (l := l) (st := (0, p + r.2.2)) hd
          generalize repN N T r.1 l (0, p + r.2.2) = m at *
          split
          · show p ≤ (xf 3 m.2.2).2 ∧ (xf 3 m.2.2).2 ≤ T
            rw [xf_place]
            exact ⟨Nat.le_trans (Nat.le_add_right _ _) hm.1, hm.2⟩
          · have := rowN_mono (N := N) (L := L) (n := n) f (l ++ List.replicate m.1 m.2.1) m.2.2 hm.2
            exact ⟨Nat.le_trans (Nat.le_trans (Nat.le_add_right _ _) hm.1) this.1, this.2⟩
    · rw [rowN_stop _ _ _ _ _ _ _ hc]
      exact ⟨Nat.le_refl _, h⟩
theorem dynL_ok {N T a b : Nat} {k : List Nat × (Nat × Nat)} (h : (dynL N T a b k).2.2.1 = 0) (hp : k.2.2 ≤ T) :
    (dynL N T a b k).1.length = 257 + a ∧ (dynL N T a b k).2.1.length = 1 + b ∧ fits2 (dynL N T a b k).1 (dynL N T a b k).2.1 = 0 ∧ k.2.2 ≤ (dynL N T a b k).2.2.2 ∧ (dynL N T a b k).2.2.2 ≤ T ∧ k.2.1 = 0 := by
  unfold dynL at h ⊢
  split at h
  · rename_i h1; exact absurd h h1
  · rename_i h1
    rw [if_neg h1]
    split at h
    · rename_i h2; exact absurd h h2
    · rename_i h2
      rw [if_neg h2]
      split at h
      · rename_i h3; exact absurd h h3
      · rename_i h3
        rw [if_neg h3]
        have hl := rowN_len N T k.1 (257 + a + (1 + b)) (257 + a + (1 + b) + 1) [] k.2 (Nat.zero_le _) (by simp) (by simpa using h3)
        have hm := rowN_mono (N := N) (T := T) (L := k.1) (n := 257 + a + (1 + b)) (257 + a + (1 + b) + 1) [] k.2 hp
        generalize rowN N T k.1 (257 + a + (1 + b)) (257 + a + (1 + b) + 1) [] k.2 = r at *
        refine ⟨?_, ?_, h, hm.1, hm.2, by simpa using h1⟩
        · rw [List.length_take]; omega
        · rw [List.length_drop]; omega
theorem xf3_ne {st : Nat × Nat} : (xf 3 st).1 ≠ 0 := by
  unfold xf; split
  · exact Nat.succ_ne_zero 2
  · assumption
theorem codeK_ok {N T c : Nat} {x : List Nat × (Nat × Nat)} (h : (codeK N T c 19 x).2.1 = 0) : x.2.1 = 0 := by
  apply Classical.byContradiction; intro hn
  rw [codeK_err N T c 19 x hn] at h; exact hn h
theorem dynN_ok {N T p : Nat} (h : (dynN N T (0, p)).2.2.1 = 0) (hp : p ≤ T) :
    257 ≤ (dynN N T (0, p)).1.length ∧ (dynN N T (0, p)).1.length ≤ 286 ∧ 1 ≤ (dynN N T (0, p)).2.1.length ∧ (dynN N T (0, p)).2.1.length ≤ 30 ∧ fits2 (dynN N T (0, p)).1 (dynN N T (0, p)).2.1 = 0 ∧ p ≤ (dynN N T (0, p)).2.2.2 ∧ (dynN N T (0, p)).2.2.2 ≤ T := by
  unfold dynN at h ⊢
  have m1 := xb_mono (N := N) (n := 5) (st := (0, p)) hp
  generalize xb N T 5 (0, p) = r1 at *
  have m2 := xb_mono (N := N) (n := 5) (st := r1.2) m1.2
  generalize xb N T 5 r1.2 = r2 at *
  have m3 := xb_mono (N := N) (n := 4) (st := r2.2) m2.2
  generalize xb N T 4 r2.2 = r3 at *
  unfold dynM at h ⊢
  generalize hst : (if 286 < 257 + r1.1 ∨ 30 < 1 + r2.1 then xf 3 r3.2 else r3.2) = st at *
  have hst2 : st.2 = r3.2.2 := by rw [← hst]; split; exact xf_place _ _; rfl
  have mk := codeK_mono (N := N) (T := T) (c := r3.1) (x := (List.replicate 19 0, st)) (by show st.2 ≤ T; rw [hst2]; exact m3.2) 19
  obtain ⟨a1, a2, a3, a4, a5, a6⟩ := dynL_ok h mk.2
  have h0 := codeK_ok a6
  have hnb : ¬ (286 < 257 + r1.1 ∨ 30 < 1 + r2.1) := fun hc => by
    rw [if_pos hc] at hst
    rw [← hst] at h0
    exact xf3_ne h0
  have mk1 : st.2 ≤ _ := mk.1
  have m1' : p ≤ r1.2.2 := m1.1
  refine ⟨by rw [a1]; omega, by rw [a1]; omega, by rw [a2]; omega, by rw [a2]; omega, a3, ?_, a5⟩
  exact Nat.le_trans m1' (Nat.le_trans m2.1 (Nat.le_trans m3.1 (Nat.le_trans (Nat.le_of_eq hst2.symm) (Nat.le_trans mk1 a4))))
theorem storedN_ok {N T p : Nat} (h : (storedN N T (0, p)).2.1 = 0) (hp : alignN p ≤ T) : p ≤ (storedN N T (0, p)).2.2 ∧ (storedN N T (0, p)).2.2 ≤ T ∧ (storedN N T (0, p)).1 ≤ 65535 := by
  unfold storedN at h ⊢
  dsimp only at h ⊢
  have m1 := xb_mono (N := N) (n := 16) (st := (0, alignN p)) hp
  have l1 := xb_lt N T 16 (0, alignN p)
  generalize xb N T 16 (0, alignN p) = r1 at *
  have m2 := xb_mono (N := N) (n := 16) (st := r1.2) m1.2
  generalize xb N T 16 r1.2 = r2 at *
  have ha : p ≤ alignN p := by unfold alignN; omega
  have m1' : alignN p ≤ r1.2.2 := m1.1
  split at h
  · rename_i hc
    rw [if_pos hc]
    exact ⟨Nat.le_trans ha (Nat.le_trans m1' m2.1), m2.2, by omega⟩
  · rename_i hc
    exfalso
    unfold xf at h
    split at h
    · cases h
    · rename_i h2; exact h2 h
/-- a head that was read -/
theorem headF_ok {N T p : Nat} (h8 : 8 ∣ T) (_hp : p ≤ T) (h : (headF N T p).2.1 = 0) :
    p + 3 ≤ (headF N T p).2.2 ∧ (headF N T p).2.2 ≤ T ∧ mayI ((headF N T p).1.kind : Nat) ((headF N T p).1.size : Nat) (nls (headF N T p).1.lits) (nls (headF N T p).1.dists) = 0 := by
  obtain ⟨r1, h1⟩ : ∃ r1, r1 = bitsA N T p 1 := ⟨_, rfl⟩
  obtain ⟨a, e1, p1⟩ := r1
  obtain ⟨r2, h2⟩ : ∃ r2, r2 = bitsA N T p1 2 := ⟨_, rfl⟩
  obtain ⟨k, e2, p2⟩ := r2
  by_cases hb : e1 ≠ 0 ∨ e2 ≠ 0
  · rw [head_bad h1.symm h2.symm hb] at h; cases h
  · obtain ⟨q1, q2⟩ : e1 = 0 ∧ e2 = 0 := by omega
    subst q1 q2
    have hp1 : p1 = p + 1 ∧ p + 1 ≤ T := by
      unfold bitsA at h1
      split at h1
      · rename_i hc
        injection h1 with _ h1
        injection h1 with _ h1
        exact ⟨h1, hc⟩
      · injection h1 with _ h1
        injection h1 with h1 _
        cases h1
    have hp2 : p2 = p + 3 ∧ p + 3 ≤ T := by
      rw [hp1.1] at h2
      unfold bitsA at h2
      split at h2
      · rename_i hc
        injection h2 with _ h2
        injection h2 with _ h2
        exact ⟨h2, by omega⟩
      · injection h2 with _ h2
        injection h2 with h2 _
        cases h2
    have hal : alignN p2 ≤ T := by unfold alignN; omega
    rw [head_good h1.symm h2.symm] at h ⊢
    unfold kindN at h ⊢
    rw [if_neg (fun z => z rfl)] at h ⊢
    by_cases k0 : k = 0
    · rw [if_pos k0] at h ⊢
      by_cases hs : (storedN N T (0, p2)).2.1 ≠ 0
      · rw [if_pos hs] at h; exact absurd h hs
      · rw [if_neg hs]
        have h0 : (storedN N T (0, p2)).2.1 = 0 := by simpa using hs
        obtain ⟨b1, b2, b3⟩ := storedN_ok h0 hal
        refine ⟨by show p + 3 ≤ (storedN N T (0, p2)).2.2; omega, b2, ?_⟩
        show mayI 0 (((storedN N T (0, p2)).1 : Nat) : Int) _ _ = 0
        unfold mayI
        rw [if_pos rfl, if_neg (by omega)]
    · rw [if_neg k0] at h ⊢
      by_cases k1 : k = 1
      · rw [if_pos k1]
        refine ⟨by show p + 3 ≤ p2; omega, by show p2 ≤ T; omega, ?_⟩
        show mayI 1 0 _ _ = 0
        unfold mayI
        rw [if_neg (by decide), if_pos rfl]
      · rw [if_neg k1] at h ⊢
        by_cases k2 : k = 2
        · rw [if_pos k2] at h ⊢
          by_cases hs : (dynN N T (0, p2)).2.2.1 ≠ 0
          · rw [if_pos hs] at h; exact absurd h hs
          · rw [if_neg hs]
            have h0 : (dynN N T (0, p2)).2.2.1 = 0 := by simpa using hs
            obtain ⟨b1, b2, b3, b4, b5, b6, b7⟩ := dynN_ok h0 (show p2 ≤ T by omega)
            refine ⟨by show p + 3 ≤ (dynN N T (0, p2)).2.2.2; omega, b7, ?_⟩
            show mayI 2 0 (nls (dynN N T (0, p2)).1) (nls (dynN N T (0, p2)).2.1) = 0
            unfold mayI
            rw [if_neg (by decide), if_neg (by decide), if_pos rfl, nls_length, nls_length, if_neg (by omega), fits2_nls, b5]
        · rw [if_neg k2] at h; cases h
end Go.Cm

/- A machine that inflates, step by step, in plain Lean. Conditions: as each says. -/
namespace Go.Cm

/-- a length symbol's base and further bits; a distance symbol's -/
def lenB (s : Nat) : Nat × Nat × Bool := if s = 285 then (258, 0, true) else if 257 ≤ s ∧ s < 285 then (spBase 3 4 (s - 257), spB 4 (s - 257), true) else (0, 0, false)
def dstB (s : Nat) : Nat × Nat × Bool := if s < 30 then (spBase 1 2 s, spB 2 s, true) else (0, 0, false)
/-- where a machine stands: its mode (0 at a head, 1 stored, 2 coded, 3 at the end), the block's own words, the reader's place, the text with what is ahead of it, the blocks' beginnings -/
structure IS where
  md : Nat
  fin : Bool
  left : Nat
  li : List Nat
  di : List Nat
  p : Nat
  h : Byts
  st : List (Nat × Nat)
def closeI (z : IS) : IS := { z with md := if z.fin then 3 else 0 }
def numB (N T p : Nat) (y : Nat × Nat × Bool) : Nat × Nat × Nat := if y.2.2 = false then (0, 9, p) else (y.1 + (bitsA N T p y.2.1).1, (bitsA N T p y.2.1).2.1, (bitsA N T p y.2.1).2.2)
noncomputable def headI (N T pre : Nat) (z : IS) : Nat × IS :=
  if (headF N T z.p).2.1 ≠ 0 then ((headF N T z.p).2.1, z)
  else (0, ⟨if (headF N T z.p).1.kind = 0 then 1 else 2, (headF N T z.p).1.fin, (headF N T z.p).1.size, (headF N T z.p).1.lits, (headF N T z.p).1.dists, (headF N T z.p).2.2, z.h, z.st ++ [(z.p, z.h.length - pre)]⟩)
def storI (T : Nat) (bs : Byts) (z : IS) : Nat × IS :=
  if z.left = 0 then (0, closeI z) else if min z.left ((T - z.p) / 8) = 0 then (2, z)
  else (0, { z with left := z.left - min z.left ((T - z.p) / 8), p := z.p + 8 * min z.left ((T - z.p) / 8), h := z.h ++ (bs.drop (z.p / 8)).take (min z.left ((T - z.p) / 8)) })
def cpyI3 (z : IS) (n : Nat) (y : Nat × Nat × Nat) : Nat × IS :=
  if y.2.1 ≠ 0 then (y.2.1, z) else if min z.h.length 32768 < y.1 then (10, z) else (0, { z with p := y.2.2, h := copyN z.h y.1 n })
noncomputable def cpyI2 (N T : Nat) (z : IS) (n p : Nat) : Nat × IS :=
  if (readF z.di (N / 2 ^ p) (T - p)).2.1 ≠ 0 then ((readF z.di (N / 2 ^ p) (T - p)).2.1, z)
  else cpyI3 z n (numB N T (p + (readF z.di (N / 2 ^ p) (T - p)).2.2) (dstB (readF z.di (N / 2 ^ p) (T - p)).1))
noncomputable def cpyI (N T : Nat) (z : IS) (s p : Nat) : Nat × IS :=
  if (numB N T p (lenB s)).2.1 ≠ 0 then ((numB N T p (lenB s)).2.1, z) else cpyI2 N T z (numB N T p (lenB s)).1 (numB N T p (lenB s)).2.2
noncomputable def codI2 (N T : Nat) (z : IS) (r : Nat × Nat × Nat) : Nat × IS :=
  if r.2.1 ≠ 0 then (r.2.1, z) else if r.1 = 256 then (0, closeI { z with p := z.p + r.2.2 })
  else if 256 < r.1 then cpyI N T z r.1 (z.p + r.2.2)
  else (0, { z with p := z.p + r.2.2, h := z.h ++ [UInt8.ofNat r.1] })
noncomputable def codI (N T : Nat) (z : IS) : Nat × IS := codI2 N T z (readF z.li (N / 2 ^ z.p) (T - z.p))
/-- a step -/
noncomputable def stI (N T pre : Nat) (bs : Byts) (z : IS) : Nat × IS :=
  if z.md = 0 then headI N T pre z else if z.md = 1 then storI T bs z else if z.md = 2 then codI N T z else (0, z)
/-- no more is made than a text may have -/
def bigI (pre : Nat) (y : Nat × IS) : Nat × IS :=
  if y.1 ≠ 0 then y else if 16777216 < y.2.h.length - pre then (3, { y.2 with h := y.2.h.take (pre + 16777216) }) else y
noncomputable def playI (N T pre : Nat) (bs : Byts) (z0 : IS) : Nat → Nat × IS
  | 0 => (0, z0)
  | k + 1 => if (playI N T pre bs z0 k).1 ≠ 0 ∨ (playI N T pre bs z0 k).2.md = 3 then playI N T pre bs z0 k else bigI pre (stI N T pre bs (playI N T pre bs z0 k).2)
/-- what a machine keeps, where nothing is wrong -/
structure IOk (T pre : Nat) (z : IS) : Prop where
  p : z.p ≤ T
  md : z.md ≤ 3
  al : z.md = 1 → z.p % 8 = 0
  left : z.left ≤ 65535
  li : errI (nls z.li) = 0 ∨ z.md ≠ 2
  di : errI (nls z.di) = 0 ∨ z.md ≠ 2
  hpre : pre ≤ z.h.length
  big : z.h.length - pre ≤ 16777216
theorem bitsA_ok {N T p n : Nat} (h : (bitsA N T p n).2.1 = 0) : (bitsA N T p n).2.2 = p + n ∧ p + n ≤ T := by
  unfold bitsA at h ⊢
  split at h
  · rename_i hc
    rw [if_pos hc]; exact ⟨rfl, hc⟩
  · cases h
theorem storedN_al {N T p : Nat} (h : (storedN N T (0, p)).2.1 = 0) : (storedN N T (0, p)).2.2 % 8 = 0 := by
  have ha : alignN p % 8 = 0 := by unfold alignN; omega
  unfold storedN xb xf at h ⊢
  simp only at h ⊢
  generalize alignN p = q at *
  simp only [if_true] at h ⊢
  by_cases h1 : (bitsA N T q 16).2.1 = 0
  · obtain ⟨e1, -⟩ := bitsA_ok h1
    simp only [h1, if_true] at h ⊢
    by_cases h2 : (bitsA N T (bitsA N T q 16).2.2 16).2.1 = 0
    · obtain ⟨e2, -⟩ := bitsA_ok h2
      split at h
      · rename_i hc
        rw [if_pos hc]
        rw [e2, e1]; omega
      · exact absurd h (by simp)
    · split at h
      · exact absurd h h2
      · simp [h2] at h
  · simp only [h1, if_false] at h
    split at h
    · exact absurd h h1
    · exact absurd h h1
theorem head_kinds {N T p : Nat} (h : (headF N T p).2.1 = 0) :
    ((headF N T p).1.kind = 0 ∧ (headF N T p).2.2 % 8 = 0) ∨ ((headF N T p).1.kind = 1 ∧ (headF N T p).1.lits = fixL ∧ (headF N T p).1.dists = fixD) ∨ (headF N T p).1.kind = 2 := by
  unfold headF at h ⊢
  generalize decide ((xb N T 1 (0, p)).1 = 1) = fin at *
  generalize (xb N T 2 (xb N T 1 (0, p)).2).1 = k at *
  generalize (xb N T 2 (xb N T 1 (0, p)).2).2 = st at *
  unfold kindN at h ⊢
  by_cases h0 : st.1 ≠ 0
  · rw [if_pos h0] at h; exact absurd h h0
  rw [if_neg h0] at h ⊢
  obtain ⟨a, b⟩ := st
  obtain rfl : a = 0 := by simpa using h0
  by_cases k0 : k = 0
  · rw [if_pos k0] at h ⊢
    by_cases h1 : (storedN N T (0, b)).2.1 ≠ 0
    · rw [if_pos h1] at h; exact absurd h h1
    · rw [if_neg h1]
      exact .inl ⟨rfl, storedN_al (by simpa using h1)⟩
  rw [if_neg k0] at h ⊢
  by_cases k1 : k = 1
  · rw [if_pos k1]; exact .inr (.inl ⟨rfl, rfl, rfl⟩)
  rw [if_neg k1] at h ⊢
  by_cases k2 : k = 2
  · rw [if_pos k2] at h ⊢
    by_cases h1 : (dynN N T (0, b)).2.2.1 ≠ 0
    · rw [if_pos h1] at h; exact absurd h h1
    · rw [if_neg h1]; exact .inr (.inr rfl)
  · rw [if_neg k2] at h; cases h
theorem fixL_err : errI (nls fixL) = 0 := by decide +kernel
theorem fixD_err : errI (nls fixD) = 0 := by decide +kernel
theorem fitsE_err {l : List Int} {b : Bool} (h : fitsE l b = 0) : errI l = 0 := by
  unfold fitsE at h
  by_cases h1 : errI l ≠ 0
  · rw [if_pos h1] at h; exact absurd h h1
  · simpa using h1
theorem head_err {N T p : Nat} (h8 : 8 ∣ T) (hp : p ≤ T) (h : (headF N T p).2.1 = 0) : (headF N T p).1.kind ≠ 0 → errI (nls (headF N T p).1.lits) = 0 ∧ errI (nls (headF N T p).1.dists) = 0 := by
  intro hk
  obtain ⟨-, -, hm⟩ := headF_ok h8 hp h
  rcases head_kinds h with ⟨h0, -⟩ | ⟨h1, h2, h3⟩ | h2
  · exact absurd h0 hk
  · rw [h2, h3]; exact ⟨fixL_err, fixD_err⟩
  · rw [h2] at hm
    change mayI 2 _ _ _ = 0 at hm
    unfold mayI at hm
    rw [if_neg (by decide), if_neg (by decide), if_pos rfl] at hm
    split at hm
    · cases hm
    · unfold fits2I at hm
      split at hm
      · cases hm
      · split at hm
        · rename_i h4; exact absurd hm h4
        · rename_i h4
          exact ⟨fitsE_err (by simpa using h4), fitsE_err hm⟩
theorem head_size {N T p : Nat} (h8 : 8 ∣ T) (hp : p ≤ T) (h : (headF N T p).2.1 = 0) : (headF N T p).1.size ≤ 65535 := by
  obtain ⟨-, -, hm⟩ := headF_ok h8 hp h
  rcases head_kinds h with ⟨h0, -⟩ | ⟨h1, -⟩ | h2
  · rw [h0] at hm
    change mayI 0 _ _ _ = 0 at hm
    unfold mayI at hm
    rw [if_pos rfl] at hm
    split at hm
    · cases hm
    · omega
  · unfold headF kindN at h1 ⊢
    split
    · exact Nat.zero_le _
    · rename_i h0
      rw [if_neg h0] at h1
      split
      · rename_i k0
        rw [if_pos k0] at h1
        split
        · exact Nat.zero_le _
        · rename_i hs; rw [if_neg hs] at h1; cases h1
      · split
        · exact Nat.zero_le _
        · split
          · split <;> exact Nat.zero_le _
          · exact Nat.zero_le _
  · unfold headF kindN at h2 ⊢
    split
    · exact Nat.zero_le _
    · rename_i h0
      rw [if_neg h0] at h2
      split
      · rename_i k0
        rw [if_pos k0] at h2
        split
        · exact Nat.zero_le _
        · rename_i hs; rw [if_neg hs] at h2; cases h2
      · split
        · exact Nat.zero_le _
        · split
          · split <;> exact Nat.zero_le _
          · exact Nat.zero_le _
end Go.Cm

/- What a step of the machine keeps, and that it comes to an end, in plain Lean. Conditions: as each says. -/
namespace Go.Cm

def muI (T : Nat) (z : IS) : Nat := 2 * (T - z.p) + (if z.md = 1 then 1 else 0)
/-- what a good step does -/
structure StepOk (T pre : Nat) (z z' : IS) : Prop where
  p : z'.p ≤ T
  md : z'.md ≤ 3
  al : z'.md = 1 → z'.p % 8 = 0
  left : z'.left ≤ 65535
  li : errI (nls z'.li) = 0 ∨ z'.md ≠ 2
  di : errI (nls z'.di) = 0 ∨ z'.md ≠ 2
  mu : muI T z' < muI T z
  ap : ∃ c, z'.h = z.h ++ c ∧ c.length ≤ 65535
theorem numB_ok {N T p : Nat} {y : Nat × Nat × Bool} (h : (numB N T p y).2.1 = 0) : y.2.2 = true ∧ (numB N T p y).2.2 = p + y.2.1 ∧ p + y.2.1 ≤ T ∧ (numB N T p y).1 = y.1 + valN N p y.2.1 := by
  unfold numB at h ⊢
  by_cases h1 : y.2.2 = false
  · rw [if_pos h1] at h; cases h
  · rw [if_neg h1] at h ⊢
    obtain ⟨h2, h3⟩ := bitsA_ok h
    refine ⟨by simpa using h1, h2, h3, ?_⟩
    show y.1 + (bitsA N T p y.2.1).1 = _
    unfold bitsA
    rw [if_pos h3]
theorem readF_le (L : List Nat) (V left : Nat) : (readF L V left).2.2 ≤ left := read_le (readF_ok L V left)
theorem readF_pos {L : List Nat} {V left : Nat} (h : (readF L V left).2.1 = 0) : 1 ≤ (readF L V left).2.2 ∧ (readF L V left).1 < L.length ∧ (readF L V left).2.2 = L.getD (readF L V left).1 0 ∧ hitN L V (readF L V left).1 := by
  rcases readF_ok L V left with ⟨h1, h2, h3, h4, h5⟩ | ⟨h1, h2, h3, h4⟩
  · have := h2.1
    exact ⟨by rw [h5]; omega, h1, h5, h2⟩
  · rw [h] at h4; split at h4 <;> cases h4
theorem copyN_app (b : Byts) (d : Nat) : ∀ k, ∃ c, copyN b d k = b ++ c ∧ c.length = k
  | 0 => ⟨[], by simp [copyN], rfl⟩
  | k + 1 => by
    obtain ⟨c, h1, h2⟩ := copyN_app b d k
    refine ⟨c ++ [(copyN b d k).getD ((copyN b d k).length - d) 0], ?_, by simp [h2]⟩
    rw [copyN, h1]
    simp
theorem close_md (z : IS) : (closeI z).md = 3 ∨ (closeI z).md = 0 := by unfold closeI; simp only; split <;> simp
theorem close_ne (z : IS) : (closeI z).md ≠ 1 ∧ (closeI z).md ≠ 2 := by rcases close_md z with h | h <;> rw [h] <;> decide
theorem lenB_le {s : Nat} (h : (lenB s).2.2 = true) : (lenB s).1 ≤ 258 ∧ (lenB s).2.1 ≤ 5 ∧ 3 ≤ (lenB s).1 ∧ (lenB s).1 + 2 ^ (lenB s).2.1 ≤ 259 := by
  unfold lenB at h ⊢
  by_cases h1 : s = 285
  · rw [if_pos h1]; decide
  · rw [if_neg h1] at h ⊢
    by_cases h2 : 257 ≤ s ∧ s < 285
    · rw [if_pos h2]
      have hk : ∀ i, i < 28 → spBase 3 4 i ≤ 258 ∧ spB 4 i ≤ 5 ∧ 3 ≤ spBase 3 4 i ∧ spBase 3 4 i + 2 ^ spB 4 i ≤ 259 := by decide +kernel
      have h3 : s - 257 < 28 := by omega
      generalize s - 257 = i at *
      exact hk i h3
    · rw [if_neg h2] at h; cases h
theorem dstB_le {s : Nat} (h : (dstB s).2.2 = true) : 1 ≤ (dstB s).1 ∧ (dstB s).2.1 ≤ 13 ∧ (dstB s).1 + 2 ^ (dstB s).2.1 ≤ 32769 := by
  unfold dstB at h ⊢
  by_cases h2 : s < 30
  · rw [if_pos h2]
    have hk : ∀ i, i < 30 → 1 ≤ spBase 1 2 i ∧ spB 2 i ≤ 13 ∧ spBase 1 2 i + 2 ^ spB 2 i ≤ 32769 := by decide +kernel
    exact hk s h2
  · rw [if_neg h2] at h; cases h
theorem valN_lt (N p n : Nat) : valN N p n < 2 ^ n := Nat.mod_lt _ (Nat.pow_pos (by decide))
theorem cpyI3_ok {T pre n : Nat} {z : IS} {y : Nat × Nat × Nat} (hi : IOk T pre z) (h2 : z.md = 2) (hn : n ≤ 65535) (hy : y.2.1 = 0 → z.p < y.2.2 ∧ y.2.2 ≤ T) (h : (cpyI3 z n y).1 = 0) : StepOk T pre z (cpyI3 z n y).2 := by
  unfold cpyI3 at h ⊢
  by_cases h0 : y.2.1 ≠ 0
  · rw [if_pos h0] at h; exact absurd h h0
  rw [if_neg h0] at h ⊢
  obtain ⟨y1, y2⟩ := hy (by simpa using h0)
  by_cases h1 : min z.h.length 32768 < y.1
  · rw [if_pos h1] at h; cases h
  rw [if_neg h1]
  obtain ⟨c, c1, c2⟩ := copyN_app z.h y.1 n
  refine ⟨y2, hi.md, fun e => absurd (h2.symm.trans e) (by decide), hi.left, hi.li, hi.di, ?_, c, c1, by omega⟩
  unfold muI
  simp only [h2]
  have := hi.p
  simp
  omega
theorem cpyI_ok {N T pre s p : Nat} {z : IS} (hi : IOk T pre z) (h2 : z.md = 2) (hp : z.p < p) (h : (cpyI N T z s p).1 = 0) : StepOk T pre z (cpyI N T z s p).2 := by
  unfold cpyI at h ⊢
  by_cases h0 : (numB N T p (lenB s)).2.1 ≠ 0
  · rw [if_pos h0] at h; exact absurd h h0
  rw [if_neg h0] at h ⊢
  obtain ⟨n1, n2, n3, n4⟩ := numB_ok (by simpa using h0)
  obtain ⟨l1, l2, l3, l4⟩ := lenB_le n1
  have hv := valN_lt N p (lenB s).2.1
  unfold cpyI2 at h ⊢
  by_cases h3 : (readF z.di (N / 2 ^ (numB N T p (lenB s)).2.2) (T - (numB N T p (lenB s)).2.2)).2.1 ≠ 0
  · rw [if_pos h3] at h; exact absurd h h3
  rw [if_neg h3] at h ⊢
  have hl := readF_le z.di (N / 2 ^ (numB N T p (lenB s)).2.2) (T - (numB N T p (lenB s)).2.2)
  refine cpyI3_ok hi h2 (by rw [n4]; omega) (fun e => ?_) h
  obtain ⟨m1, m2, m3, -⟩ := numB_ok e
  rw [m2]
  exact ⟨by omega, m3⟩
theorem codI_ok {N T pre : Nat} {z : IS} (hi : IOk T pre z) (h2 : z.md = 2) (h : (codI N T z).1 = 0) : StepOk T pre z (codI N T z).2 := by
  unfold codI at h ⊢
  have hl := readF_le z.li (N / 2 ^ z.p) (T - z.p)
  have hpos := readF_pos (L := z.li) (V := N / 2 ^ z.p) (left := T - z.p)
  generalize readF z.li (N / 2 ^ z.p) (T - z.p) = r at *
  have := hi.p
  unfold codI2 at h ⊢
  by_cases h0 : r.2.1 ≠ 0
  · rw [if_pos h0] at h; exact absurd h h0
  rw [if_neg h0] at h ⊢
  obtain ⟨h1, -⟩ := hpos (by simpa using h0)
  by_cases h3 : r.1 = 256
  · rw [if_pos h3]
    obtain ⟨g1, g2⟩ := close_ne { z with p := z.p + r.2.2 }
    refine ⟨by show z.p + r.2.2 ≤ T; omega, by rcases close_md { z with p := z.p + r.2.2 } with e | e <;> rw [e] <;> decide, fun e => absurd e g1, hi.left, .inr g2, .inr g2, ?_, [], by simp [closeI], by simp⟩
    unfold muI
    rw [if_neg g1, if_neg (by rw [h2]; decide)]
    show 2 * (T - (z.p + r.2.2)) + 0 < _
    omega
  rw [if_neg h3] at h ⊢
  by_cases h4 : 256 < r.1
  · rw [if_pos h4] at h ⊢
    exact cpyI_ok hi h2 (by omega) h
  rw [if_neg h4]
  refine ⟨by show z.p + r.2.2 ≤ T; omega, hi.md, fun e => absurd (h2.symm.trans e) (by decide), hi.left, hi.li, hi.di, ?_, _, rfl, by simp⟩
  unfold muI
  simp only [h2]
  simp
  omega
theorem storI_ok {T pre : Nat} {bs : Byts} {z : IS} (hi : IOk T pre z) (h1 : z.md = 1) (h : (storI T bs z).1 = 0) : StepOk T pre z (storI T bs z).2 := by
  unfold storI at h ⊢
  by_cases h0 : z.left = 0
  · rw [if_pos h0]
    obtain ⟨g1, g2⟩ := close_ne z
    refine ⟨hi.p, by rcases close_md z with e | e <;> rw [e] <;> decide, fun e => absurd e g1, hi.left, .inr g2, .inr g2, ?_, [], by simp [closeI], by simp⟩
    unfold muI
    rw [if_neg g1, if_pos h1]
    show 2 * (T - z.p) + 0 < _
    omega
  rw [if_neg h0] at h ⊢
  by_cases h2 : min z.left ((T - z.p) / 8) = 0
  · rw [if_pos h2] at h; cases h
  rw [if_neg h2]
  have hp := hi.p
  have ha := hi.al h1
  have hl := hi.left
  refine ⟨by show z.p + 8 * min z.left ((T - z.p) / 8) ≤ T; omega, hi.md, fun _ => by show (z.p + 8 * min z.left ((T - z.p) / 8)) % 8 = 0; omega, by show z.left - _ ≤ _; omega, hi.li, hi.di, ?_, _, rfl, by rw [List.length_take]; omega⟩
  unfold muI
  simp only [h1]
  simp
  omega
theorem headI_ok {N T pre : Nat} {z : IS} (h8 : 8 ∣ T) (hi : IOk T pre z) (h1 : z.md = 0) (h : (headI N T pre z).1 = 0) : StepOk T pre z (headI N T pre z).2 := by
  unfold headI at h ⊢
  by_cases h0 : (headF N T z.p).2.1 ≠ 0
  · rw [if_pos h0] at h; exact absurd h h0
  rw [if_neg h0]
  have he : (headF N T z.p).2.1 = 0 := by simpa using h0
  obtain ⟨b1, b2, -⟩ := headF_ok h8 hi.p he
  have hk := head_kinds he
  have hr := head_err h8 hi.p he
  have hz := head_size h8 hi.p he
  refine ⟨b2, by show (if _ then 1 else 2) ≤ 3; split <;> decide, fun e => ?_, hz, ?_, ?_, ?_, [], by simp, by simp⟩
  · have e' : (if (headF N T z.p).1.kind = 0 then 1 else 2) = 1 := e
    rcases hk with ⟨-, k2⟩ | ⟨k1, -⟩ | k1
    · exact k2
    · rw [k1] at e'; cases e'
    · rw [k1] at e'; cases e'
  · show errI (nls (headF N T z.p).1.lits) = 0 ∨ (if (headF N T z.p).1.kind = 0 then 1 else 2) ≠ 2
    by_cases k : (headF N T z.p).1.kind = 0
    · rw [if_pos k]; exact .inr (by decide)
    · exact .inl (hr k).1
  · show errI (nls (headF N T z.p).1.dists) = 0 ∨ (if (headF N T z.p).1.kind = 0 then 1 else 2) ≠ 2
    by_cases k : (headF N T z.p).1.kind = 0
    · rw [if_pos k]; exact .inr (by decide)
    · exact .inl (hr k).2
  · unfold muI
    show 2 * (T - (headF N T z.p).2.2) + (if (if (headF N T z.p).1.kind = 0 then 1 else 2) = 1 then 1 else 0) < _
    rw [if_neg (show ¬ z.md = 1 by rw [h1]; decide)]
    have : (if (if (headF N T z.p).1.kind = 0 then 1 else 2) = 1 then 1 else 0) ≤ 1 := by
      generalize (if (headF N T z.p).1.kind = 0 then 1 else 2) = q
      by_cases hq : q = 1
      · rw [if_pos hq]; exact Nat.le_refl _
      · rw [if_neg hq]; exact Nat.zero_le _
    omega
theorem stI_ok {N T pre : Nat} {bs : Byts} {z : IS} (h8 : 8 ∣ T) (hi : IOk T pre z) (hm : z.md ≠ 3) (h : (stI N T pre bs z).1 = 0) : StepOk T pre z (stI N T pre bs z).2 := by
  unfold stI at h ⊢
  by_cases h0 : z.md = 0
  · rw [if_pos h0] at h ⊢; exact headI_ok h8 hi h0 h
  rw [if_neg h0] at h ⊢
  by_cases h1 : z.md = 1
  · rw [if_pos h1] at h ⊢; exact storI_ok hi h1 h
  rw [if_neg h1] at h ⊢
  by_cases h2 : z.md = 2
  · rw [if_pos h2] at h ⊢; exact codI_ok hi h2 h
  · have := hi.md; omega
end Go.Cm

/- The last bytes of a text, and copies from them; a machine's run to its end, in plain Lean. Conditions: as each says. -/
namespace Go.Cm

def lastK (K : Nat) (l : Byts) : Byts := l.drop (l.length - K)
theorem lastK_len (K : Nat) (l : Byts) : (lastK K l).length = min l.length K := by unfold lastK; rw [List.length_drop]; omega
theorem lastK_all {K : Nat} {l : Byts} (h : l.length ≤ K) : lastK K l = l := by unfold lastK; rw [show l.length - K = 0 by omega, List.drop_zero]
theorem lastK_drop {K : Nat} {l : Byts} {k : Nat} (h : k + K ≤ l.length) : lastK K (l.drop k) = lastK K l := by
  unfold lastK
  rw [List.drop_drop, List.length_drop, show k + (l.length - k - K) = l.length - K by omega]
theorem lastK_app (K : Nat) (x c : Byts) : lastK K (x ++ c) = lastK K (lastK K x ++ c) := by
  by_cases h : x.length ≤ K
  · rw [lastK_all h]
  · have e : lastK K x ++ c = (x ++ c).drop (x.length - K) := by
      unfold lastK
      rw [List.drop_append, show x.length - K - x.length = 0 by omega, List.drop_zero]
    rw [e, lastK_drop (by rw [List.length_append]; omega)]
theorem lastK_at {K : Nat} {l : Byts} {d : Nat} (_h1 : 1 ≤ d) (h2 : d ≤ l.length) (h3 : d ≤ K) : l.getD (l.length - d) 0 = (lastK K l).getD ((lastK K l).length - d) 0 := by
  rw [lastK_len]
  unfold lastK
  simp only [List.getD, List.getElem?_drop]
  rw [show l.length - K + (min l.length K - d) = l.length - d by omega]
def lastN (l : Byts) : Byts := lastK 32768 l
theorem lastN_len (l : Byts) : (lastN l).length = min l.length 32768 := lastK_len _ l
theorem lastN_all {l : Byts} (h : l.length ≤ 32768) : lastN l = l := lastK_all h
theorem lastN_idem (l : Byts) : lastN (lastN l) = lastN l := lastN_all (by rw [lastN_len]; omega)
theorem lastN_drop {l : Byts} {k : Nat} (h : k + 32768 ≤ l.length) : lastN (l.drop k) = lastN l := lastK_drop h
theorem lastN_app (x c : Byts) : lastN (x ++ c) = lastN (lastN x ++ c) := lastK_app _ x c
theorem lastN_app2 {b H : Byts} (h : lastN b = lastN H) (c : Byts) : lastN (b ++ c) = lastN (H ++ c) := by rw [lastN_app b, h, ← lastN_app]
theorem lastN_min {b H : Byts} (h : lastN b = lastN H) : min b.length 32768 = min H.length 32768 := by rw [← lastN_len, ← lastN_len, h]
theorem lastN_at {l : Byts} {d : Nat} (h1 : 1 ≤ d) (h2 : d ≤ l.length) (h3 : d ≤ 32768) : l.getD (l.length - d) 0 = (lastN l).getD ((lastN l).length - d) 0 := lastK_at h1 h2 h3
/-- copies depend on the last bytes alone -/
theorem copy_same {b H : Byts} {d : Nat} (h : lastN b = lastN H) (h1 : 1 ≤ d) (h2 : d ≤ H.length) (h3 : d ≤ 32768) : ∀ k, ∃ c, copyN b d k = b ++ c ∧ copyN H d k = H ++ c ∧ c.length = k
  | 0 => ⟨[], by simp [copyN], by simp [copyN], rfl⟩
  | k + 1 => by
    obtain ⟨c, e1, e2, e3⟩ := copy_same h h1 h2 h3 k
    have hm := lastN_min h
    have hc := lastN_app2 h c
    have q1 : (b ++ c).getD ((b ++ c).length - d) 0 = (H ++ c).getD ((H ++ c).length - d) 0 := by
      have a1 := lastN_at (l := b ++ c) h1 (by rw [List.length_append]; omega) h3
      have a2 := lastN_at (l := H ++ c) h1 (by rw [List.length_append]; omega) h3
      rw [a1, a2, hc]
    refine ⟨c ++ [(b ++ c).getD ((b ++ c).length - d) 0], ?_, ?_, by simp [e3]⟩
    · rw [copyN, e1, List.append_assoc]
    · rw [copyN, e2, q1, List.append_assoc]
theorem copyN_add (b : Byts) (d m : Nat) : ∀ k, copyN b d (m + k) = copyN (copyN b d m) d k
  | 0 => rfl
  | k + 1 => by rw [← Nat.add_assoc, copyN, copyN, copyN_add b d m k]
/-- a piece of a copy -/
theorem copy_piece {x : Byts} {d : Nat} (hd : d ≤ x.length) : ∀ m, m ≤ d → copyN x d m = x ++ (x.drop (x.length - d)).take m
  | 0, _ => by simp [copyN]
  | m + 1, hm => by
    have ih := copy_piece hd m (by omega)
    rw [copyN, ih]
    have hl : ((x.drop (x.length - d)).take m).length = m := by rw [List.length_take, List.length_drop]; omega
    have e : (x ++ (x.drop (x.length - d)).take m).getD ((x ++ (x.drop (x.length - d)).take m).length - d) 0 = x.getD (x.length - d + m) 0 := by
      rw [List.length_append, hl]
      simp only [List.getD]
      rw [List.getElem?_append_left (by omega)]
      congr 2; omega
    rw [e, List.append_assoc]
    refine congrArg (x ++ ·) ?_
    have hlt : m < (x.drop (x.length - d)).length := by rw [List.length_drop]; omega
    rw [List.take_succ_eq_append_getElem hlt, List.getElem_drop]
    simp only [List.getD]
    rw [List.getElem?_eq_getElem (by omega), Option.getD_some]
/-! a run to its end -/
theorem stI_err {N T pre : Nat} {bs : Byts} {z : IS} (h : (stI N T pre bs z).1 ≠ 0) : (stI N T pre bs z).2 = z := by
  unfold stI at h ⊢
  by_cases h0 : z.md = 0
  · rw [if_pos h0] at h ⊢
    unfold headI at h ⊢
    split
    · rfl
    · rename_i hc; rw [if_neg hc] at h; exact absurd rfl h
  rw [if_neg h0] at h ⊢
  by_cases h1 : z.md = 1
  · rw [if_pos h1] at h ⊢
    unfold storI at h ⊢
    split
    · rename_i hc; rw [if_pos hc] at h; exact absurd rfl h
    · rename_i hc
      rw [if_neg hc] at h
      split
      · rfl
      · rename_i hd; rw [if_neg hd] at h; exact absurd rfl h
  rw [if_neg h1] at h ⊢
  by_cases h2 : z.md = 2
  · rw [if_pos h2] at h ⊢
    unfold codI codI2 at h ⊢
    split
    · rfl
    · rename_i hc
      rw [if_neg hc] at h
      split
      · rename_i hd; rw [if_pos hd] at h; exact absurd rfl h
      · rename_i hd
        rw [if_neg hd] at h
        split
        · rename_i he
          rw [if_pos he] at h
          unfold cpyI at h ⊢
          split
          · rfl
          · rename_i hf
            rw [if_neg hf] at h
            unfold cpyI2 at h ⊢
            split
            · rfl
            · rename_i hg
              rw [if_neg hg] at h
              unfold cpyI3 at h ⊢
              split
              · rfl
              · rename_i hh
                rw [if_neg hh] at h
                split
                · rfl
                · rename_i hj; rw [if_neg hj] at h; exact absurd rfl h
        · rename_i he; rw [if_neg he] at h; exact absurd rfl h
  · rw [if_neg h2]
section
variable {N T pre : Nat} {bs : Byts} {z0 : IS}
/-- it goes no further -/
abbrev StopI (y : Nat × IS) : Prop := y.1 ≠ 0 ∨ y.2.md = 3
theorem play_next {k : Nat} (h : ¬ StopI (playI N T pre bs z0 k)) : playI N T pre bs z0 (k + 1) = bigI pre (stI N T pre bs (playI N T pre bs z0 k).2) := if_neg h
theorem play_stop {k : Nat} (h : StopI (playI N T pre bs z0 k)) : ∀ m, playI N T pre bs z0 (k + m) = playI N T pre bs z0 k
  | 0 => rfl
  | m + 1 => by
    show (if StopI (playI N T pre bs z0 (k + m)) then playI N T pre bs z0 (k + m) else _) = _
    rw [play_stop h m, if_pos h]
set_option maxHeartbeats 1000000 in
theorem play_keep (h8 : 8 ∣ T) (hi : IOk T pre z0) : ∀ k, (pre ≤ (playI N T pre bs z0 k).2.h.length ∧ (playI N T pre bs z0 k).2.h.length - pre ≤ 16777216) ∧ ((playI N T pre bs z0 k).1 = 0 → IOk T pre (playI N T pre bs z0 k).2 ∧ (StopI (playI N T pre bs z0 k) ∨ muI T (playI N T pre bs z0 k).2 + k ≤ muI T z0)) ∧ ∃ c, (playI N T pre bs z0 (k + 1)).2.h = (playI N T pre bs z0 k).2.h ++ c := by
  have step : ∀ k, ((pre ≤ (playI N T pre bs z0 k).2.h.length ∧ (playI N T pre bs z0 k).2.h.length - pre ≤ 16777216) ∧ ((playI N T pre bs z0 k).1 = 0 → IOk T pre (playI N T pre bs z0 k).2 ∧ (StopI (playI N T pre bs z0 k) ∨ muI T (playI N T pre bs z0 k).2 + k ≤ muI T z0))) →
      ((pre ≤ (playI N T pre bs z0 (k + 1)).2.h.length ∧ (playI N T pre bs z0 (k + 1)).2.h.length - pre ≤ 16777216) ∧ ((playI N T pre bs z0 (k + 1)).1 = 0 → IOk T pre (playI N T pre bs z0 (k + 1)).2 ∧ (StopI (playI N T pre bs z0 (k + 1)) ∨ muI T (playI N T pre bs z0 (k + 1)).2 + (k + 1) ≤ muI T z0))) ∧ ∃ c, (playI N T pre bs z0 (k + 1)).2.h = (playI N T pre bs z0 k).2.h ++ c := by
    intro k ⟨⟨a1, a2⟩, a3⟩
    by_cases hs : StopI (playI N T pre bs z0 k)
    · have e := play_stop hs 1
      rw [e]
      exact ⟨⟨⟨a1, a2⟩, fun h => ⟨(a3 h).1, .inl hs⟩⟩, [], by simp⟩
    · rw [play_next hs]
      generalize playI N T pre bs z0 k = y at *
      obtain ⟨er, z⟩ := y
      simp only at hs a1 a2 a3 ⊢
      obtain rfl : er = 0 := by omega
      obtain ⟨iok, hmu⟩ := a3 rfl
      have hm3 : z.md ≠ 3 := fun e => hs (.inr e)
      have hmu2 : muI T z + k ≤ muI T z0 := by
        rcases hmu with h | h
        · exact absurd h hs
        · exact h
      by_cases he : (stI N T pre bs z).1 = 0
      · obtain ⟨b1, b2, b3, b4, b5, b6, b7, c, b8, b9⟩ := stI_ok (bs := bs) (pre := pre) h8 iok hm3 he
        unfold bigI
        generalize hM : (16777216 : Nat) = M at *
        rw [if_neg (by rw [he]; exact fun h => h rfl)]
        have hl : (stI N T pre bs z).2.h.length = z.h.length + c.length := by rw [b8, List.length_append]
        by_cases hb : M < (stI N T pre bs z).2.h.length - pre
        · rw [if_pos hb]
          refine ⟨⟨⟨by show pre ≤ (List.take _ _).length; rw [List.length_take]; omega, by show (List.take _ _).length - pre ≤ _; rw [List.length_take]; omega⟩, fun h => by cases h⟩, c.take (pre + M - z.h.length), ?_⟩
          show (stI N T pre bs z).2.h.take (pre + M) = _
          rw [b8, List.take_append, List.take_of_length_le (by omega)]
        · rw [if_neg hb]
          refine ⟨⟨⟨by omega, by omega⟩, fun _ => ⟨⟨b1, b2, b3, b4, b5, b6, by omega, by omega⟩, .inr (by omega)⟩⟩, c, b8⟩
      · have e := stI_err he
        unfold bigI
        rw [if_pos he, e]
        exact ⟨⟨⟨a1, a2⟩, fun h => absurd h he⟩, [], by simp⟩
  have all : ∀ k, ((pre ≤ (playI N T pre bs z0 k).2.h.length ∧ (playI N T pre bs z0 k).2.h.length - pre ≤ 16777216) ∧ ((playI N T pre bs z0 k).1 = 0 → IOk T pre (playI N T pre bs z0 k).2 ∧ (StopI (playI N T pre bs z0 k) ∨ muI T (playI N T pre bs z0 k).2 + k ≤ muI T z0))) := by
    intro k
    induction k with
    | zero => exact ⟨⟨hi.hpre, hi.big⟩, fun _ => ⟨hi, .inr (Nat.le_refl _)⟩⟩
    | succ k ih => exact (step k ih).1
  exact fun k => ⟨(all k).1, (all k).2, (step k (all k)).2⟩
/-- where it ends -/
noncomputable def finI (N T pre : Nat) (bs : Byts) (z0 : IS) : Nat × IS := playI N T pre bs z0 (2 * T + 2)
theorem fin_stop (h8 : 8 ∣ T) (hi : IOk T pre z0) : StopI (finI N T pre bs z0) := by
  apply Classical.byContradiction
  intro hn
  obtain ⟨-, h, -⟩ := play_keep (N := N) (bs := bs) h8 hi (2 * T + 2)
  have he : (playI N T pre bs z0 (2 * T + 2)).1 = 0 := by
    apply Classical.byContradiction
    intro h0; exact hn (.inl h0)
  rcases (h he).2 with h1 | h1
  · exact hn h1
  · have : muI T z0 ≤ 2 * T + 1 := by unfold muI; split <;> omega
    omega
theorem fin_of (h8 : 8 ∣ T) (hi : IOk T pre z0) {k : Nat} (h : StopI (playI N T pre bs z0 k)) : finI N T pre bs z0 = playI N T pre bs z0 k := by
  have hf := fin_stop (N := N) (bs := bs) h8 hi
  unfold finI at hf ⊢
  rcases Nat.le_total k (2 * T + 2) with hle | hle
  · obtain ⟨m, hm⟩ := Nat.exists_eq_add_of_le hle
    rw [hm, play_stop h m]
  · obtain ⟨m, hm⟩ := Nat.exists_eq_add_of_le hle
    rw [hm, play_stop hf m]
theorem play_app (h8 : 8 ∣ T) (hi : IOk T pre z0) (k : Nat) : ∀ m, ∃ c, (playI N T pre bs z0 (k + m)).2.h = (playI N T pre bs z0 k).2.h ++ c
  | 0 => ⟨[], by simp⟩
  | m + 1 => by
    obtain ⟨c, h1⟩ := play_app h8 hi k m
    obtain ⟨-, -, d, h2⟩ := play_keep (N := N) (bs := bs) h8 hi (k + m)
    exact ⟨c ++ d, by rw [← Nat.add_assoc, h2, h1, List.append_assoc]⟩
theorem fin_app (h8 : 8 ∣ T) (hi : IOk T pre z0) (k : Nat) : ∃ c, (finI N T pre bs z0).2.h = (playI N T pre bs z0 k).2.h ++ c := by
  have hf := fin_stop (N := N) (bs := bs) h8 hi
  obtain ⟨c, h1⟩ := play_app (N := N) (bs := bs) h8 hi k (2 * T + 2)
  refine ⟨c, ?_⟩
  rw [← h1, Nat.add_comm]
  unfold finI at hf ⊢
  rw [play_stop hf k]
end
end Go.Cm

/- The walks of what finds the best copy, and of the ops of a text. Conditions: the places lie in the text. -/
namespace Go.Cm
open Go.RowKit Go.Proofs

def opV (o : OpN) : List Value := [.int .u8 o.lit, .int .i64 o.len, .int .i64 o.dist]
end Go.Cm

/- 'append(s, x...)', which leaves what stood there as it was; a world in which a row has grown behind its first cells. Conditions: none. -/
namespace Go.Cm
open Go.RowKit Go.Proofs

/-- a world in which the row in block b may have changed, but for its first n cells -/
noncomputable def kept (w : World) (b n : Nat) (x : World) : World := @ite _ (w.grownBy x (some b) ∧ ∀ o, o < n → x.cell? ⟨b, o, none⟩ = w.cell? ⟨b, o, none⟩) (Classical.propDecidable _) x w
theorem kept_grown (w : World) (b n : Nat) (x : World) : w.grownBy (kept w b n x) (some b) := by
  unfold kept; split
  · rename_i h; exact h.1
  · exact grown_refl w _
@[go_sem] theorem cell?_kept_other (w : World) (b n : Nat) (x : World) (k o : Nat) (h : k < w.heap.size) (hr : k ≠ b) : (kept w b n x).cell? ⟨k, o, none⟩ = w.cell? ⟨k, o, none⟩ := World.cell?_of_block ((kept_grown w b n x).block k h (fun e => hr (Option.some.inj e)))
@[go_sem] theorem frozen?_kept_other (w : World) (b n : Nat) (x : World) (k o : Nat) (h : k < w.heap.size) (hr : k ≠ b) : (kept w b n x).frozen? ⟨k, o, none⟩ = w.frozen? ⟨k, o, none⟩ := World.frozen?_of_block ((kept_grown w b n x).block k h (fun e => hr (Option.some.inj e)))
@[go_sem] theorem cell?_kept_same (w : World) (b n : Nat) (x : World) (o : Nat) (h : o < n) : (kept w b n x).cell? ⟨b, o, none⟩ = w.cell? ⟨b, o, none⟩ := by
  unfold kept; split
  · rename_i hh; exact hh.2 o h
  · rfl
end Go.Cm

/- The walk of the program's text: an op. Conditions: the text is there. -/
namespace Go.Cm
open Go.RowKit Go.Proofs

/-- the text that is made, in block g, its bytes a row from block B on -/
structure TxV (w : World) (B g : Nat) (b : Byts) (vb : Value) : Prop where
  box : Own w g 78 (.slice (some ⟨g, 0, none⟩) 1 1) [vb]
  own : Own w B 5 vb (bytesV b)
  ne : vb.ownBlock ≠ some g
  ge : B ≤ g
def Tx (w : World) (B g : Nat) (b : Byts) : Prop := ∃ vb, TxV w B g b vb
theorem TxV.up {w w' : World} {B g : Nat} {b : Byts} {vb : Value} (h : TxV w B g b vb) (hb : Below w.heap.size w w') : TxV w' B g b vb := ⟨h.box.up hb, h.own.up hb, h.ne, h.ge⟩
theorem Tx.up {w w' : World} {B g : Nat} {b : Byts} (h : Tx w B g b) (hb : Below w.heap.size w w') : Tx w' B g b := by obtain ⟨vb, h⟩ := h; exact ⟨vb, h.up hb⟩
theorem byte_u8 (l : Nat) (h : l < 256) : bytesV [UInt8.ofNat l] = [.int .u8 (l : Nat)] := by
  simp only [bytesV, List.map_cons, List.map_nil]
  congr 2
  have : (UInt8.ofNat l).toNat = l := by simp [Nat.mod_eq_of_lt h]
  rw [this]
/-- a byte is laid behind the text -/
theorem TxV.push {w0 w w5 : World} {B B0 g : Nat} {b : Byts} {vb v' : Value} {l : Nat} (hl : l < 256) (h : TxV w B g b vb) (hb : Below B w0 w) (hown : Own w5 B 5 v' (bytesV b ++ [.int .u8 (l : Nat)])) (hg : w.grownBy w5 vb.ownBlock) (hk : ∀ k, v'.ownBlock = some k → vb.ownBlock = some k ∨ w.heap.size ≤ k) (hB : B ≤ w.heap.size) (_hB0 : B0 = B) :
    TxV (w5.setCell ⟨g, 0, none⟩ v') B g (b ++ [UInt8.ofNat l]) v' ∧ Below B w0 (w5.setCell ⟨g, 0, none⟩ v') := by
  have hbx := h.box.keep hg (.inr (fun e => h.ne e.symm))
  have hst := hbx.store 0 v'
  have hne : v'.ownBlock ≠ some g := fun e => by
    rcases hk g e with h1 | h1
    · exact h.ne h1
    · have := h.box.blk.2; omega
  refine ⟨⟨by simpa using hst.1, ?_, hne, h.ge⟩, ?_⟩
  · rw [bytesV_append, byte_u8 l hl]
    exact hown.keep hst.2 (.inr hne)
  · exact (below_grown hb hB h.own hg).grown hst.2 (Nat.le_trans hB hg.size) (fun k e => by cases e; exact h.ge)
end Go.Cm

/- 'append(s, text...)': a text behind bytes of one's own. Conditions: none. -/
namespace Go.Cm
open Go.RowKit Go.Proofs

theorem run_firstCells_str {P : Program} (w : World) (k : Nat) (s : ByteArray) : (Builtin.firstCells k s.size (.string s)).run P w = .ok (bytesV s.data.toList).toArray w := by
  unfold Builtin.firstCells
  rw [Sem.run_pure]
  have h : (s.extract 0 s.size) = s := by simp
  rw [h]
  congr 1
  apply Array.ext'
  simp [bytesV]
theorem run_app_str {P : Program} (w : World) (B : Nat) (t u ty E : TypeId) (z : Value) (bytes : Nat) (ht : P.underlying t = some (.slice E)) (hu : P.underlying u = some .string) (hinf : (P.info? E).map (fun i => (i.zero, i.size, i.bytes)) = some (some z, 1, bytes)) (hz : z.cells.size = 1) (hby : bytes ≤ 24)
    (v : Value) (xs : List Value) (hown : Own w B E v xs) (s : ByteArray) (hlen : xs.length + s.size ≤ 4294967296) (hB : B ≤ w.heap.size) :
    ∃ v' w', (Builtin.append_ #[t, u] ty #[v, .string s]).run P w = .ok v' w' ∧ Own w' B E v' (xs ++ bytesV s.data.toList) ∧ w.grownBy w' v.ownBlock ∧ (∀ k, v'.ownBlock = some k → v.ownBlock = some k ∨ w.heap.size ≤ k) := by
  obtain ⟨i, hi, hz0, hz1, hz2⟩ : ∃ i0, P.info? E = some i0 ∧ i0.zero = some z ∧ i0.size = 1 ∧ i0.bytes = bytes := by
    cases hq : P.info? E with
    | none => simp [hq] at hinf
    | some i0 => simp [hq] at hinf; exact ⟨i0, rfl, hinf.1, hinf.2.1, hinf.2.2⟩
  have hnl : (bytesV s.data.toList).length = s.size := by rw [bytesV_length]; simp
  have h1 := bytesV_one s.data.toList
  have hl1 : xs.length + s.size ≤ maxLen := by simp only [maxLen]; omega
  have hl2 : (xs.length + s.size) * bytes ≤ 140737488355328 := by
    have := Nat.mul_le_mul hlen hby; omega
  have hf := fun w' => run_firstCells_str (P := P) w' 1 s
  generalize bytesV s.data.toList = news at *
  rcases hown with ⟨hrow, hsm⟩
  have hxl := hrow.1
  rw [Nat.mul_one] at hxl
  have grown : ∀ (old : Nat), old < xs.length + s.size → ∀ (row : Option Nat),
      (w.drew.alloc (.cells (xs.toArray ++ news.toArray ++ Builtin.zeroCells z.cells (grownCap w (xs.length + s.size) old E - (xs.length + s.size))) E)).ownsRow B E 1
        (.slice (some ⟨w.heap.size, 0, none⟩) (xs.length + s.size) (grownCap w (xs.length + s.size) old E)) (xs.length + s.size) (xs ++ news) ∧
      w.grownBy (w.drew.alloc (.cells (xs.toArray ++ news.toArray ++ Builtin.zeroCells z.cells (grownCap w (xs.length + s.size) old E - (xs.length + s.size))) E)) row := by
    intro old ho row
    have hge := grownCap_ge w (xs.length + s.size) old E
    have hcm : grownCap w (xs.length + s.size) old E ≤ maxLen := grownCap_le_maxLen w (xs.length + s.size) old E hl1
    refine ⟨⟨by simp [hnl], .inr ⟨w.heap.size, _, _, rfl, hB, heap_alloc_new w.drew _, hge, hcm, ?_, ?_⟩⟩, ⟨rfl, rfl, rfl, by simp, fun k hk _ => Below.heap_alloc w.drew _ k hk⟩⟩
    · simp only [Array.size_append, List.size_toArray, size_zeroCells, hz, hnl]
      omega
    · simp only [Array.toList_append, List.append_assoc]
      rw [← List.append_assoc, Nat.mul_one, ← hnl, ← List.length_append]
      exact List.take_left
  have hlen' : (xs ++ news).length ≤ 140737488351232 := by rw [List.length_append, hnl]; omega
  rcases hrow.2 with ⟨rfl, hx0⟩ | ⟨g, cap, cur, rfl, hbg, hg, hnc, hcm, hcs, htake⟩
  · obtain rfl : xs = [] := List.length_eq_zero_iff.1 hx0
    by_cases hs : s.size = 0
    · have hn : news = [] := List.length_eq_zero_iff.1 (by rw [hnl, hs])
      subst hn
      refine ⟨.slice none 0 0, w, ?_, Own.nil _ _ _, ⟨rfl, rfl, rfl, Nat.le_refl _, fun _ _ _ => rfl⟩, fun k hk => by simp [Value.ownBlock] at hk⟩
      have hf0 := hf w
      rw [hs] at hf0
      simp [Builtin.append_, run_underlying ht, run_underlying hu, sizeOf, typeInfo, hi, hz1, Builtin.lenOf, hs, hf0]
    · obtain ⟨g1, g2⟩ := grown 0 (by simp; omega) (Value.ownBlock (.slice none 0 0))
      simp only [List.length_nil, Nat.zero_add, List.nil_append] at g1 g2 hlen'
      refine ⟨_, _, ?_, ⟨by simpa [hnl] using g1, by simpa using hlen'⟩, g2, fun k hk => .inr (by simp [Value.ownBlock] at hk; omega)⟩
      have h63' : ¬ (9223372036854775807 < (s.size : Int)) := by simp at hlen; omega
      have h48' : ¬ (281474976710656 < Builtin.nextslicecap s.size 0 * i.bytes) := by rw [nextslicecap_zero (by omega), hz2]; simp at hl2; omega
      have hf0 := hf w.drew
      simp [Builtin.append_, run_underlying ht, run_underlying hu, sizeOf, typeInfo, zeroValue, hi, hz0, hz1, Builtin.lenOf, hs, h63', h48', Question.forced, run_firstCells_none, hf0, newRow, grownCap]
  · by_cases hroom : xs.length + s.size ≤ cap
    · have hfit : xs.length * 1 + news.length ≤ cur.size := by rw [hnl, hcs]; omega
      have hst := run_storeCells_at P g (xs.length * 1) E news 0 cur w hg (by simpa using hfit) h1
      simp only [Nat.add_zero, Nat.mul_one] at hst
      generalize hR : (cur.toList.take xs.length ++ news ++ cur.toList.drop (xs.length + news.length)).toArray = R at hst
      refine ⟨.slice (some ⟨g, 0, none⟩) (xs.length + s.size) cap, w.setRow g R, ?_, ⟨⟨by simp [hnl], .inr ⟨g, cap, R, ?_, hbg, setRow_heap w g cur R E _ hg, ?_, hcm, ?_, ?_⟩⟩, hlen'⟩, ⟨rfl, rfl, rfl, by simp, fun k _ hk => setRow_other w g k _ (fun e => hk (by simp [Value.ownBlock, e]))⟩, fun k hk => .inl hk⟩
      · have hf0 := hf w
        simp [Builtin.append_, run_underlying ht, run_underlying hu, sizeOf, typeInfo, hi, hz1, Builtin.lenOf, hroom, hf0, Addr.add_lit, hst]
      · rw [List.length_append, hnl]
      · rw [List.length_append, hnl]; exact hroom
      · rw [← hR]
        simp only [List.size_toArray, List.length_append, List.length_take, List.length_drop, Array.length_toList]
        omega
      · rw [Nat.mul_one] at htake
        rw [Nat.mul_one, ← hR, htake]
        exact List.take_left
    · have holds : ∀ j u, xs[j]? = some u → w.cell? ((⟨g, 0, none⟩ : Addr).add j) = some u := World.ownsRow.cells (g := g) hrow rfl
      obtain ⟨g1, g2⟩ := grown cap (by omega) (Value.ownBlock (.slice (some ⟨g, 0, none⟩) xs.length cap))
      refine ⟨_, _, ?_, ⟨by rw [List.length_append, hnl]; exact g1, hlen'⟩, g2, fun k hk => .inr (by simp [Value.ownBlock] at hk; omega)⟩
      have hn : ¬ (xs.length + s.size ≤ cap) := hroom
      have h63' : ¬ (9223372036854775807 < ((xs.length : Int) + (s.size : Int))) := by omega
      have h48' : ¬ (281474976710656 < Builtin.nextslicecap (xs.length + s.size) cap * i.bytes) := by
        have := growslice_fits (need := xs.length + s.size) (old := cap) (bytes := bytes) (by omega) hl2
        rw [hz2]; omega
      have hf0 := hf w.drew
      have hfo := run_firstCells_some (P := P) w.drew 1 xs.length ⟨g, 0, none⟩ xs.length cap xs (by omega) (by simpa using holds)
      simp [Builtin.append_, run_underlying ht, run_underlying hu, sizeOf, typeInfo, zeroValue, hi, hz0, hz1, Builtin.lenOf, hn, h63', h48', Question.forced, hf0, hfo, newRow, grownCap]
      congr 2
      apply Array.ext'
      simp [List.append_assoc]
theorem wpList_app_str {P : Program} {ops : Array Oper} {rest : List Oper} {o : Oper} {a : Act} {w : World} {Q : Exit → Act → World → Prop} (hgd : o.guard = none) (s x : Operand) (t u : TypeId)
    (ho : o.op = .call { callee := .builtin .append, args := #[s, x], argTypes := #[t, u] })
    (B E : TypeId) (z : Value) (bytes : Nat) (ht : P.underlying t = some (.slice E)) (hu : P.underlying u = some .string) (hinf : (P.info? E).map (fun i => (i.zero, i.size, i.bytes)) = some (some z, 1, bytes)) (hz : z.cells.size = 1) (hby : bytes ≤ 24)
    (v : Value) (xs : List Value) (hs : a.eval s = v) (hown : Own w B E v xs) (tx : ByteArray) (hxe : a.eval x = .string tx) (hlen : xs.length + tx.size ≤ 4294967296) (hB : B ≤ w.heap.size)
    (h : ∀ v' w', Own w' B E v' (xs ++ bytesV tx.data.toList) → w.grownBy w' v.ownBlock → (∀ k, v'.ownBlock = some k → v.ownBlock = some k ∨ w.heap.size ≤ k) → wpList P ops Q rest (a.put o.dst v') w') : wpList P ops Q (o :: rest) a w := by
  obtain ⟨v', w', hr, h2, h3, h4⟩ := run_app_str (P := P) w B t u o.type E z bytes ht hu hinf hz hby v xs hown tx hlen hB
  refine wpList_plain hgd fun K hK => ?_
  unfold Oper.wp execOp
  simp only [ho, resolve, invoke, builtin, Sem.run_bind, Sem.run_pure, Result.andThen_ok, List.map_toArray, List.map_cons, List.map_nil, hs, hxe, hr]
  exact hK _ _ (h v' w' h2 h3 h4)
end Go.Cm

/- The walk of the program's text: a part. Conditions: the text is there, the ops read as a list. -/
namespace Go.Cm
open Go.RowKit Go.Proofs

theorem ops_open {w : World} {v : Value} {l : List OpN} (h : SlK 3 w v (l.map opV)) :
    ∃ oa cap b off, v = .slice oa l.length cap ∧ Hd w oa l.length cap b off ∧ ∀ i (hi : i < l.length), ∀ c, c < 3 → w.cell? ⟨b, off + i * 3 + c, none⟩ = some ((opV (l[i]'hi)).getD c undef) := by
  obtain ⟨oa, cap, b, off, rfl, hd, hc⟩ := h
  rw [List.length_map] at hd hc ⊢
  refine ⟨oa, cap, b, off, rfl, hd, fun i hi c hcl => ?_⟩
  have := hc i hi c hcl
  rw [this]
  simp [List.getD, hi]
theorem TxV.len {w : World} {B g : Nat} {b : Byts} {vb : Value} (h : TxV w B g b vb) : ∃ oa cap q, vb = .slice oa b.length cap ∧ w.cell? ⟨g, 0, none⟩ = some (.slice oa b.length cap) ∧ Hd w oa b.length cap q 0 := by
  obtain ⟨oa, cap, q, hv, hd, -⟩ := h.own.cases
  rw [bytesV_length] at hv hd
  exact ⟨oa, cap, q, hv, by rw [h.box.cell (by simp), ← hv]; rfl, hd⟩
end Go.Cm

/- The walk of the program's Text. Conditions: the parts read as a list. -/
namespace Go.Cm
open Go.RowKit Go.Proofs

def zPt : PtN := ⟨0, ⟨#[]⟩, [], [], []⟩
/-- a part's five cells -/
def PtCells (w : World) (c : List Value) (p : PtN) : Prop := ∃ vo vl vd, c = [.int .i64 p.kind, .string p.text, vo, vl, vd] ∧ SlK 3 w vo (p.ops.map opV) ∧ IntsAt w vl p.lits ∧ IntsAt w vd p.dists
/-- a list of parts -/
def PartsAt (w : World) (v : Value) (l : List PtN) : Prop := ∃ cs, SlK 5 w v cs ∧ cs.length = l.length ∧ ∀ i, i < l.length → PtCells w (cs.getD i []) (l.getD i zPt)
theorem PtCells.up {w w' : World} {c : List Value} {p : PtN} (h : PtCells w c p) (hb : Below w.heap.size w w') : PtCells w' c p := by
  obtain ⟨vo, vl, vd, hc, h1, h2, h3⟩ := h
  exact ⟨vo, vl, vd, hc, h1.up hb, h2.up hb, h3.up hb⟩
theorem PartsAt.up {w w' : World} {v : Value} {l : List PtN} (h : PartsAt w v l) (hb : Below w.heap.size w w') : PartsAt w' v l := by
  obtain ⟨cs, h1, h2, h3⟩ := h
  exact ⟨cs, h1.up hb, h2, fun i hi => (h3 i hi).up hb⟩
theorem PartsAt.open {w : World} {v : Value} {l : List PtN} (h : PartsAt w v l) :
    ∃ oa cap b off, v = .slice oa l.length cap ∧ Hd w oa l.length cap b off ∧ ∀ i, i < l.length →
      ∃ oo oc o1 c1 o2 c2, (∀ c, c < 5 → w.cell? ⟨b, off + i * 5 + c, none⟩ = some ((#[.int .i64 (l.getD i zPt).kind, .string (l.getD i zPt).text, .slice oo (l.getD i zPt).ops.length oc, .slice o1 (l.getD i zPt).lits.length c1, .slice o2 (l.getD i zPt).dists.length c2] : Array Value).getD c undef)) ∧
        SlK 3 w (.slice oo (l.getD i zPt).ops.length oc) ((l.getD i zPt).ops.map opV) ∧ IntsAt w (.slice o1 (l.getD i zPt).lits.length c1) (l.getD i zPt).lits ∧ IntsAt w (.slice o2 (l.getD i zPt).dists.length c2) (l.getD i zPt).dists := by
  obtain ⟨cs, ⟨oa, cap, b, off, rfl, hd, hc⟩, h2, h3⟩ := h
  rw [h2] at hd hc ⊢
  refine ⟨oa, cap, b, off, rfl, hd, fun i hi => ?_⟩
  obtain ⟨vo, vl, vd, he, g1, g2, g3⟩ := h3 i hi
  obtain ⟨oo, oc, ob, of, rfl, -⟩ := ops_open g1
  obtain ⟨o1, c1, b1, f1, rfl, -⟩ := g2.open
  obtain ⟨o2, c2, b2, f2, rfl, -⟩ := g3.open
  refine ⟨oo, oc, o1, c1, o2, c2, fun c hcl => ?_, g1, g2, g3⟩
  rw [hc i hi c hcl, he]
  match c, hcl with
  | 0, _ => rfl
  | 1, _ => rfl
  | 2, _ => rfl
  | 3, _ => rfl
  | 4, _ => rfl
end Go.Cm

/- 'append(s, x)' of an element of several cells, of up to 128 bytes. Conditions: none. -/
namespace Go.Cm
open Go.RowKit Go.Proofs

/-- 'append(s, x)' of one k-cell element x that lies as a slice of one. -/
theorem run_appL {P : Program} {k : Nat} (w : World) (B : Nat) (t ty E : TypeId) (z : Value) (bytes : Nat) (ht : P.underlying t = some (.slice E)) (hinf : (P.info? E).map (fun i => (i.zero, i.size, i.bytes)) = some (some z, k, bytes)) (hz : z.cells.size = k) (hk : 0 < k) (hby : bytes ≤ 128)
    (v : Value) (xs : List (List Value)) (hown : OwnK k w B E v xs) (xv : Value) (news : List (List Value)) (hx : SlK k w xv news) (hnk : ∀ x ∈ news, x.length = k) (h1 : ∀ u ∈ news.flatten, u.oneCell' = true) (hlen : xs.length + news.length ≤ 1000000000) (hB : B ≤ w.heap.size) :
    ∃ v' w', (Builtin.append_ #[t, t] ty #[v, xv]).run P w = .ok v' w' ∧ OwnK k w' B E v' (xs ++ news) ∧ w.grownBy w' v.ownBlock ∧ (∀ q, v'.ownBlock = some q → v.ownBlock = some q ∨ w.heap.size ≤ q) := by
  obtain ⟨i0, hi, hz0, hz1, hz2⟩ : ∃ i0, P.info? E = some i0 ∧ i0.zero = some z ∧ i0.size = k ∧ i0.bytes = bytes := by
    cases hq : P.info? E with
    | none => simp [hq] at hinf
    | some i0 => simp [hq] at hinf; exact ⟨i0, rfl, hinf.1, hinf.2.1, hinf.2.2⟩
  have hl1 : xs.length + news.length ≤ maxLen := by simp only [maxLen]; omega
  have hl2 : (xs.length + news.length) * bytes ≤ 140737488355328 := by
    have := Nat.mul_le_mul hlen hby; omega
  obtain ⟨oa, cx, b, off, rfl, hd, hc⟩ := hx
  obtain ⟨hrow, hsm, hxk⟩ := hown
  have hnewsl : news.flatten.length = news.length * k := flatten_len hnk
  have hall : ∀ x ∈ xs ++ news, x.length = k := fun x hx => by
    rcases List.mem_append.1 hx with h | h
    · exact hxk x h
    · exact hnk x h
  have hlen' : (xs ++ news).length ≤ 140737488351232 := by rw [List.length_append]; omega
  by_cases hn : news = []
  · subst hn
    refine ⟨v, w, ?_, ⟨by simpa using hrow, by simpa using hsm, by simpa using hxk⟩, ⟨rfl, rfl, rfl, Nat.le_refl _, fun _ _ _ => rfl⟩, fun k hk => .inl hk⟩
    rcases hrow.2 with ⟨rfl, hx0⟩ | ⟨g, cap, cur, rfl, _, _, hnc, _⟩
    · cases oa <;> simp [Builtin.append_, run_underlying ht, sizeOf, typeInfo, hi, Builtin.lenOf, Builtin.firstCells, loadCells, loadCellsFrom]
    · cases oa <;> simp [Builtin.append_, run_underlying ht, sizeOf, typeInfo, hi, Builtin.lenOf, Builtin.firstCells, loadCells, loadCellsFrom, hnc, storeCells]
  · have hpos : 0 < news.length := List.length_pos_iff.2 hn
    obtain rfl := hd.hat hpos
    have hnews : ∀ j u, news.flatten[j]? = some u → w.cell? ((⟨b, off, none⟩ : Addr).add j) = some u := fun j u hu => by
      have hj := (List.getElem?_eq_some_iff.1 hu).1
      rw [hnewsl] at hj
      have hdm : j = j / k * k + j % k := by rw [Nat.mul_comm]; exact (Nat.div_add_mod j k).symm
      have hq : j / k < news.length := (Nat.div_lt_iff_lt_mul hk).2 hj
      have hm := Nat.mod_lt j hk
      rw [add_off, hdm, ← Nat.add_assoc, hc (j / k) hq (j % k) hm]
      rw [hdm, flatten_at hnk _ _ hq hm] at hu
      rw [List.getD_eq_getElem?_getD, hu]; rfl
    rcases hrow.2 with ⟨rfl, hx0⟩ | ⟨g, cap, cur, rfl, hbg, hg, hnc, hcm, hcs, htake⟩
    · obtain rfl : xs = [] := List.length_eq_zero_iff.1 hx0
      obtain ⟨v', w', hr, ho, hgr, -⟩ := run_append_own (P := P) w w.heap.size t ty E i0 z k bytes ht hi hz0 hz1 hz2 hz hk (.slice none 0 0) 0 [] (World.ownsRow_nil _ _ _ _) ⟨b, off, none⟩ news.length cx news.flatten hnewsl hnews h1 (by simpa using hl1) (by simpa using hl2) (Nat.le_refl _)
      have hkk := ho.lt
      refine ⟨v', w', hr, ⟨⟨by simpa using hnewsl, ?_⟩, hlen', hall⟩, hgr, fun q hq => .inr (hkk q hq).1⟩
      simp only [Nat.zero_add, List.nil_append] at ho
      rcases ho.2 with ⟨h1, h2⟩ | ⟨g, cap, cur, h1, h2, h3⟩
      · exact .inl ⟨h1, by simpa using h2⟩
      · exact .inr ⟨g, cap, cur, h1, by omega, by simpa using h3⟩
    · by_cases hroom : xs.length + news.length ≤ cap
      · obtain ⟨w', hr, ho, hgr⟩ := run_append_fits (P := P) w B t ty E i0 k ht hi hz1 g xs.length cap xs.flatten ⟨hrow.1, .inr ⟨g, cap, cur, rfl, hbg, hg, hnc, hcm, hcs, htake⟩⟩ ⟨b, off, none⟩ news.length cx news.flatten hnewsl hnews h1 hroom
        exact ⟨_, w', hr, ⟨by rw [List.length_append, List.flatten_append]; exact ho, hlen', hall⟩, hgr, fun k hk => .inl hk⟩
      · have holds : ∀ j u, xs.flatten[j]? = some u → w.cell? ((⟨g, 0, none⟩ : Addr).add j) = some u := World.ownsRow.cells (g := g) hrow rfl
        have hxl : xs.flatten.length = xs.length * k := flatten_len hxk
        have hr := run_append_grow (P := P) w t ty E i0 z ht hi hz0 ⟨g, 0, none⟩ xs.length cap xs.flatten (by rw [hz1]; exact hxl) holds ⟨b, off, none⟩ news.length cx news.flatten (by rw [hz1]; exact hnewsl) hnews (by omega) (by omega) (growslice_fits (by omega) (by rw [hz2]; exact hl2))
        have hge := grownCap_ge w (xs.length + news.length) cap E
        have hcm' : grownCap w (xs.length + news.length) cap E ≤ maxLen := grownCap_le_maxLen w _ cap E hl1
        refine ⟨_, _, hr, ⟨⟨by rw [List.length_append, List.flatten_append, List.length_append, hxl, hnewsl, Nat.add_mul], .inr ⟨w.heap.size, _, _, by rw [List.length_append], hB, heap_alloc_new w.drew _, by rw [List.length_append]; exact hge, hcm', ?_, ?_⟩⟩, hlen', hall⟩, ⟨rfl, rfl, rfl, by simp, fun k hk _ => Below.heap_alloc w.drew _ k hk⟩, fun k hk => .inr (by simp [Value.ownBlock] at hk; omega)⟩
        · simp only [Array.size_append, List.size_toArray, size_zeroCells, hz, hxl, hnewsl, ← Nat.add_mul]
          congr 1; omega
        · simp only [Array.toList_append, List.append_assoc, List.length_append, List.flatten_append]
          rw [← List.append_assoc, Nat.add_mul, ← hxl, ← hnewsl, ← List.length_append]
          exact List.take_left
theorem wpList_appL {P : Program} {ops : Array Oper} {rest : List Oper} {o : Oper} {a : Act} {w : World} {Q : Exit → Act → World → Prop} (k : Nat) (hgd : o.guard = none) (s x : Operand) (t : TypeId)
    (ho : o.op = .call { callee := .builtin .append, args := #[s, x], argTypes := #[t, t] })
    (B E : TypeId) (z : Value) (bytes : Nat) (ht : P.underlying t = some (.slice E)) (hinf : (P.info? E).map (fun i => (i.zero, i.size, i.bytes)) = some (some z, k, bytes)) (hz : z.cells.size = k) (hk : 0 < k) (hby : bytes ≤ 128)
    (v : Value) (xs : List (List Value)) (hs : a.eval s = v) (hown : OwnK k w B E v xs) (xv : Value) (news : List (List Value)) (hxe : a.eval x = xv) (hx : SlK k w xv news) (hnk : ∀ x ∈ news, x.length = k) (h1 : ∀ u ∈ news.flatten, u.oneCell' = true) (hlen : xs.length + news.length ≤ 1000000000) (hB : B ≤ w.heap.size)
    (h : ∀ v' w', OwnK k w' B E v' (xs ++ news) → w.grownBy w' v.ownBlock → (∀ q, v'.ownBlock = some q → v.ownBlock = some q ∨ w.heap.size ≤ q) → wpList P ops Q rest (a.put o.dst v') w') : wpList P ops Q (o :: rest) a w := by
  obtain ⟨v', w', hr, h2, h3, h4⟩ := run_appL (P := P) w B t o.type E z bytes ht hinf hz hk hby v xs hown xv news hx hnk h1 hlen hB
  refine wpList_plain hgd fun K hK => ?_
  unfold Oper.wp execOp
  simp only [ho, resolve, invoke, builtin, Sem.run_bind, Sem.run_pure, Result.andThen_ok, List.map_toArray, List.map_cons, List.map_nil, hs, hxe, hr]
  exact hK _ _ (h v' w' h2 h3 h4)
end Go.Cm

/- A text as parts, in plain Lean; parts of a call's own; a text as bytes. Conditions: as each says. -/
namespace Go.Cm
open Go.RowKit Go.Proofs

/-- a part's cells, its ops in a block beside a row -/
def PtOwn (w : World) (B : Nat) (row : Option Nat) (c : List Value) (p : PtN) : Prop :=
  ∃ vo, c = [.int .i64 p.kind, .string p.text, vo, .slice none 0 0, .slice none 0 0] ∧ OwnK 3 w B 75 vo (p.ops.map opV) ∧ (∀ q, vo.ownBlock = some q → row ≠ some q) ∧ p.lits = [] ∧ p.dists = []
/-- parts of the call's own -/
def PartsOwn (w : World) (B T : Nat) (v : Value) (l : List PtN) : Prop := ∃ cs, OwnK 5 w B T v cs ∧ cs.length = l.length ∧ ∀ i, i < l.length → PtOwn w B v.ownBlock (cs.getD i []) (l.getD i zPt)
theorem PartsOwn.nil (w : World) (B T : Nat) : PartsOwn w B T (.slice none 0 0) [] := ⟨[], OwnK.nil 5 w B T, rfl, fun i hi => absurd hi (Nat.not_lt_zero i)⟩
theorem PtOwn.keep {w w' : World} {B : Nat} {row r2 : Option Nat} {c : List Value} {p : PtN} (h : PtOwn w B row c p) (hg : w.grownBy w' row) (h2 : ∀ q, r2 = some q → row = some q ∨ w.heap.size ≤ q) : PtOwn w' B r2 c p := by
  obtain ⟨vo, hc, ho, hn, h3⟩ := h
  refine ⟨vo, hc, ho.keep hg ?_, fun q hq e => ?_, h3⟩
  · cases hv : vo.ownBlock with
    | none => exact .inl rfl
    | some q => exact .inr (fun e => hn q hv e.symm)
  · rcases h2 q e with h4 | h4
    · exact hn q hq h4
    · have := (ho.lt q hq).2; omega
theorem PartsOwn.up {w w' : World} {B T : Nat} {v : Value} {l : List PtN} (h : PartsOwn w B T v l) (hb : Below w.heap.size w w') : PartsOwn w' B T v l := by
  obtain ⟨cs, h1, h2, h3⟩ := h
  exact ⟨cs, h1.up hb, h2, fun i hi => (h3 i hi).keep (grown_below hb _) (fun q e => .inl e)⟩
theorem PtOwn.cells {w : World} {B : Nat} {row : Option Nat} {c : List Value} {p : PtN} (h : PtOwn w B row c p) : PtCells w c p := by
  obtain ⟨vo, hc, ho, -, h1, h2⟩ := h
  refine ⟨vo, .slice none 0 0, .slice none 0 0, hc, ho.sl, ?_, ?_⟩
  · rw [h1]; exact Sl.nil w
  · rw [h2]; exact Sl.nil w
theorem PartsOwn.at {w : World} {B T : Nat} {v : Value} {l : List PtN} (h : PartsOwn w B T v l) : PartsAt w v l := by
  obtain ⟨cs, h1, h2, h3⟩ := h
  exact ⟨cs, h1.sl, h2, fun i hi => (h3 i hi).cells⟩
theorem bys_extract (s : ByteArray) (a b : Nat) : bys (s.extract a b) = ((bys s).drop a).take (b - a) := by
  have : s = ⟨(bys s).toArray⟩ := by cases s; simp [bys]
  conv => lhs; rw [this]
  rw [ByteArray.extract_mk]
  simp [bys]
theorem bys_mk (t : Byts) : bys ⟨t.toArray⟩ = t := by simp [bys]
end Go.Cm

/- The walk of the program's Split. Conditions: the text is not too long. -/
namespace Go.Cm
open Go.RowKit Go.Proofs

theorem bytesV_take (t : Byts) (n : Nat) : (bytesV t).take n = bytesV (t.take n) := by simp [bytesV, List.map_take]
theorem bytesV_drop (t : Byts) (n : Nat) : (bytesV t).drop n = bytesV (t.drop n) := by simp [bytesV, List.map_drop]
theorem wpList_min_by {P : Program} {ops : Array Oper} {rest : List Oper} {o : Oper} {a : Act} {w : World} {Q : Exit → Act → World → Prop} (hgd : o.guard = none) (x y : Operand) (t1 t2 : TypeId) (ho : o.op = .call { callee := .builtin .min, args := #[x, y], argTypes := #[t1, t2] }) (m n k : Nat) (hx : a.eval x = .int .i64 m) (hy : a.eval y = .int .i64 n) (hk : k = min m n)
    (h : wpList P ops Q rest (a.put o.dst (.int .i64 k)) w) : wpList P ops Q (o :: rest) a w := by
  have hr := run_min_int2 (P := P) (w := w) #[t1, t2] o.type .i64 .i64 (m : Int) (n : Int)
  have hkk : (if (n : Int) < (m : Int) then (n : Int) else (m : Int)) = (k : Int) := by rw [hk]; split <;> omega
  rw [hkk] at hr
  refine wpList_plain hgd fun K hK => ?_
  unfold Oper.wp execOp
  simp only [ho, resolve, invoke, builtin, Sem.run_bind, Sem.run_pure, Result.andThen_ok, List.map_toArray, List.map_cons, List.map_nil, hx, hy, hr]
  exact hK _ _ h
theorem wpList_slice_by {P : Program} {ops : Array Oper} {rest : List Oper} {o : Oper} {a : Act} {w : World} {Q : Exit → Act → World → Prop} (hgd : o.guard = none) (t : TypeId) (x : Operand) (lo hi mx : Option Operand) (ho : o.op = .slice t x lo hi mx) (v : Value) (hr : (Instr.sliceAt t (a.eval x) (lo.map a.eval) (hi.map a.eval) (mx.map a.eval)).run P w = .ok v w)
    (h : wpList P ops Q rest (a.put o.dst v) w) : wpList P ops Q (o :: rest) a w := by
  refine wpList_plain hgd fun K hK => ?_
  unfold Oper.wp execOp
  simp only [ho, Sem.run_bind, Sem.run_pure, Result.andThen_ok, hr]
  exact hK _ _ h
theorem wpList_conv_by {P : Program} {ops : Array Oper} {rest : List Oper} {o : Oper} {a : Act} {w : World} {Q : Exit → Act → World → Prop} (hgd : o.guard = none) (s d : TypeId) (x : Operand) (ho : o.op = .convert s d x) (v : Value) (hr : (convert s d (a.eval x)).run P w = .ok v w)
    (h : wpList P ops Q rest (a.put o.dst v) w) : wpList P ops Q (o :: rest) a w := by
  refine wpList_plain hgd fun K hK => ?_
  unfold Oper.wp execOp
  simp only [ho, Sem.run_bind, Sem.run_pure, Result.andThen_ok, hr]
  exact hK _ _ h
theorem PtOwn.mono {w : World} {B B' : Nat} {row : Option Nat} {c : List Value} {p : PtN} (h : PtOwn w B row c p) (hB : B' ≤ B) : PtOwn w B' row c p := by
  obtain ⟨vo, h1, h2, h3⟩ := h
  exact ⟨vo, h1, h2.mono hB, h3⟩
theorem PartsOwn.mono {w : World} {B B' T : Nat} {v : Value} {l : List PtN} (h : PartsOwn w B T v l) (hB : B' ≤ B) : PartsOwn w B' T v l := by
  obtain ⟨cs, h1, h2, h3⟩ := h
  exact ⟨cs, h1.mono hB, h2, fun i hi => (h3 i hi).mono hB⟩
end Go.Cm

/- The walks of the window that holds a text's last bytes. Conditions: the window is there. -/
namespace Go.Cm
open Go.RowKit Go.Proofs

/-- a window in block gw that holds the bytes b, its bytes a row from block B on -/
structure WinV (w : World) (B gw : Nat) (vb : Value) (b : Byts) : Prop where
  box : Own w B 131 (.slice (some ⟨gw, 0, none⟩) 2 2) [.bool true, vb]
  own : Own w B 5 vb (bytesV b)
  ne : vb.ownBlock ≠ some gw
theorem WinV.up {w w' : World} {B gw : Nat} {vb : Value} {b : Byts} (h : WinV w B gw vb b) (hb : Below w.heap.size w w') : WinV w' B gw vb b := ⟨h.box.up hb, h.own.up hb, h.ne⟩
theorem WinV.fx {S : Nat → Prop} {w w' : World} {B gw : Nat} {vb : Value} {b : Byts} (h : WinV w B gw vb b) (hf : Fx S w w') (h1 : ¬ S gw) (h2 : ∀ k, vb.ownBlock = some k → ¬ S k) : WinV w' B gw vb b :=
  ⟨hf.own h.box (fun k hk => by injection hk with hk; subst hk; exact h1), hf.own h.own h2, h.ne⟩
/-- .. of a text whose last bytes it holds -/
def WinAt (w : World) (B gw : Nat) (vb : Value) (H : Byts) : Prop := ∃ b, WinV w B gw vb b ∧ lastN b = lastN H ∧ b.length ≤ 131072
theorem WinAt.up {w w' : World} {B gw : Nat} {vb : Value} {H : Byts} (h : WinAt w B gw vb H) (hb : Below w.heap.size w w') : WinAt w' B gw vb H := by obtain ⟨b, h1, h2⟩ := h; exact ⟨b, h1.up hb, h2⟩
theorem WinAt.fx {S : Nat → Prop} {w w' : World} {B gw : Nat} {vb : Value} {H : Byts} (h : WinAt w B gw vb H) (hf : Fx S w w') (h1 : ¬ S gw) (h2 : ∀ k, vb.ownBlock = some k → ¬ S k) : WinAt w' B gw vb H := by obtain ⟨b, h3, h4⟩ := h; exact ⟨b, h3.fx hf h1 h2, h4⟩
/-- what a window's call may change -/
abbrev WFx (gw : Nat) (vb : Value) (w w' : World) : Prop := Fx (fun k => k = gw ∨ vb.ownBlock = some k) w w'
/-- the last m elements go to the front, the others go -/
theorem Own.trim {w : World} {B E q n cap m : Nat} {xs : List Value} (h : Own w B E (.slice (some ⟨q, 0, none⟩) n cap) xs) (hm : m ≤ n) :
    ∃ cur, w.heap[q]? = some (.cells cur E (0, 0)) ∧ (∀ (j : Nat) (v : Value), (xs.drop (n - m))[j]? = some v → w.cell? ((⟨q, n - m, none⟩ : Addr).add j) = some v) ∧ m ≤ cur.size ∧ (xs.drop (n - m)).length = m ∧
      Own (w.setRow q ((xs.drop (n - m)) ++ cur.toList.drop m).toArray) B E (.slice (some ⟨q, 0, none⟩) m cap) (xs.drop (n - m)) ∧ w.grownBy (w.setRow q ((xs.drop (n - m)) ++ cur.toList.drop m).toArray) (some q) := by
  have hl := h.len
  have hsm := h.2
  have hc : ∀ i, i < xs.length → w.cell? ⟨q, i, none⟩ = some (xs.getD i undef) := fun i hi => h.cell hi
  obtain ⟨⟨h0, h1⟩, -⟩ := h
  rcases h1 with ⟨e, -⟩ | ⟨g, cap', cur, e, hb, hg, hnc, hcm, hcs, htake⟩
  · cases e
  · injection e with e1 e2 e3
    injection e1 with e1
    injection e1 with e1
    subst e1
    subst e3
    subst hl
    have hdl : (xs.drop (xs.length - m)).length = m := by rw [List.length_drop]; omega
    refine ⟨cur, hg, fun j v hj => ?_, by omega, hdl, ⟨⟨by omega, .inr ⟨q, cap, _, by rw [hdl], hb, setRow_heap w q cur _ E _ hg, by omega, hcm, ?_, ?_⟩⟩, by omega⟩, ?_⟩
    · have hjl := (List.getElem?_eq_some_iff.1 hj).1
      rw [List.length_drop] at hjl
      rw [add_off, hc _ (by omega)]
      rw [List.getElem?_drop] at hj
      rw [List.getD_eq_getElem?_getD, hj]; rfl
    · simp only [List.size_toArray, List.length_append, List.length_drop, Array.length_toList]; omega
    · show List.take _ _ = _
      rw [show (xs.drop (xs.length - m)).length * 1 = (xs.drop (xs.length - m)).length by omega, List.take_append_of_le_length (Nat.le_refl _), List.take_length]
    · exact ⟨rfl, rfl, rfl, by simp [World.setRow], fun k hk hne => setRow_other w q k _ (fun e => hne (by rw [e]))⟩
/-- 'copy' to the front of the row itself -/
theorem wpList_copy_front {P : Program} {w : World} {ops : Array Oper} {rest : List Oper} {o : Oper} {a : Act} {Q : Exit → Act → World → Prop} (hgd : o.guard = none) (d s : Operand) (dT sT : TypeId)
    (ho : o.op = .call { callee := .builtin .copy, args := #[d, s], argTypes := #[dT, sT] }) (elem : TypeId) (hu : P.underlying dT = some (.slice elem)) (hsz : (P.info? elem).map (·.size) = some 1)
    (g dLen dCap : Nat) (ad : Addr) (sLen sCap : Nat) (hd : a.eval d = .slice (some ⟨g, 0, none⟩) dLen dCap) (hs : a.eval s = .slice (some ad) sLen sCap)
    (cur : Array Value) (t : TypeId) (hg : w.heap[g]? = some (.cells cur t (0, 0))) (cs : List Value) (m : Nat) (hm : cs.length = m) (hn : m = Nat.min sLen dLen)
    (hsrc : ∀ (j : Nat) (v : Value), cs[j]? = some v → w.cell? (ad.add j) = some v) (hfit : m ≤ cur.size) (h1 : ∀ v ∈ cs, v.oneCell' = true)
    (h : wpList P ops Q rest (a.put o.dst (.int .i64 (m : Nat))) (w.setRow g (cs ++ cur.toList.drop m).toArray)) : wpList P ops Q (o :: rest) a w := by
  subst hm
  refine wpList_copy_own hgd d s dT sT ho elem hu hsz g 0 dLen dCap ad sLen sCap hd hs cur t hg cs hn hsrc (by omega) h1 ?_
  simpa [goInt] using h
theorem thereWn {w : World} {B gw : Nat} {vb : Value} {b : Byts} (h : WinV w B gw vb b) : Calls Try.prog 89 #[.pointer (some ⟨gw, 0, none⟩)] w fun e w' => e = .returned (.bool true) ∧ w' = w := by
  have c0 : w.cell? ⟨gw, 0, none⟩ = some (.bool true) := h.box.cell (by simp)
  go_enter Try.func89, Try.ntmps89
  go_wp2
  go_ret
  exact ⟨rfl, rfl⟩
theorem lenWn {w : World} {B gw : Nat} {vb : Value} {H : Byts} (h : WinAt w B gw vb H) : Calls Try.prog 115 #[.pointer (some ⟨gw, 0, none⟩)] w fun e w' => e = .returned (.int .i64 (min H.length 32768 : Nat)) ∧ w' = w := by
  obtain ⟨b, hV, hl, hm⟩ := h
  have HT := Lib.hid (thereWn hV)
  obtain ⟨oa, cap, q, hv, hd, -⟩ := hV.own.cases
  rw [bytesV_length] at hv hd
  have c1 : w.cell? ⟨gw, 1, none⟩ = some vb := hV.box.cell (by simp)
  subst hv
  obtain ⟨k, hk⟩ : ∃ k, k = min H.length 32768 := ⟨_, rfl⟩
  have hk2 : k = min b.length 32768 := by rw [hk, ← lastN_min hl]
  rw [← hk]
  have HK := Lib.hid hk2
  clear hk hk2 hd hl
  go_enter Try.func115, Try.ntmps115
  go_wp2_with (first | ((with_reducible go_at_call 89); (with_reducible refine HT.out.mono ?_); rintro e w' ⟨rfl, hw⟩; subst hw) | ((with_reducible show wpList _ _ _ (Oper.mk _ (.call _) _ _ _ _ :: _) _ _); refine wpList_min_by rfl (.tmp 10) (.const (.int .i64 32768)) 3 3 rfl b.length 32768 k rfl rfl HK.out ?_))
  go_ret
  exact ⟨rfl, rfl⟩
set_option maxRecDepth 100000 in
set_option maxHeartbeats 1000000 in
theorem trimWn {w : World} {B gw : Nat} {vb : Value} {b : Byts} (h : WinV w B gw vb b) (hlen : b.length ≤ 100000000) : Calls Try.prog 105 #[.pointer (some ⟨gw, 0, none⟩)] w fun e w' => e = .returned (.tuple #[]) ∧ ∃ vb', WinAt w' B gw vb' b ∧ vb'.ownBlock = vb.ownBlock ∧ WFx gw vb w w' := by
  have c1 : w.cell? ⟨gw, 1, none⟩ = some vb := h.box.cell (by simp)
  have f1 := h.box.free 1
  have hgw := h.box.blk.2
  by_cases hbig : 131072 < b.length
  · have HV := Lib.hid h
    obtain ⟨oa, cap, q, hv, hd, ho, -⟩ := h.own.cases
    rw [bytesV_length] at hv hd ho
    have hoa := hd.hat (by omega)
    subst hoa
    have hcap := hd.hcap
    have hm := hd.len
    subst hv
    have hqb := (h.own.blk).2
    have hne : gw ≠ q := fun e => h.ne (by rw [e]; rfl)
    have hbi : (b.length : Int) > 131072 := by omega
    obtain ⟨n0, hn0⟩ : ∃ n0, n0 = b.length - 32768 := ⟨_, rfl⟩
    have hni : (b.length : Int) - 32768 = (n0 : Nat) := by omega
    have HT := Lib.hid ((h.up (below_drewN w 1)).own.trim (m := 32768) (by omega))
    rw [← World.drew_is_drewN, ← hn0, bytesV_drop] at HT
    have HN0 := Lib.hid hn0
    have HLB : Hid (lastN (b.drop n0) = lastN b ∧ (b.drop n0).length ≤ 131072) := Lib.hid ⟨lastN_drop (by omega), by rw [List.length_drop]; omega⟩
    have hsl : ∀ W : World, (Instr.sliceAt 43 (.slice (some ⟨q, 0, none⟩) b.length cap) (some (.int .i64 (n0 : Int))) none none).run Try.prog W = .ok (.slice (some ⟨q, n0, none⟩) 32768 (cap - n0)) W := fun W => by
      obtain ⟨h1, h2⟩ := run_cut (P := Try.prog) 43 5 Try.underlying43 (by kernel_rfl)
      rw [run_sliceAt_slice (P := Try.prog) (t := 43) (h := h1), run_slice_l (t := 43) (ht := h1) (h0 := by omega) (h1 := by omega), h2]
      simp only [Result.andThen]
      unfold sliced
      rw [Int.toNat_natCast, if_neg (by omega), show b.length - n0 = 32768 by omega]
      simp [add_off]
    have hs2 : ∀ W : World, (Instr.sliceAt 43 (.slice (some ⟨q, 0, none⟩) b.length cap) none (some (.int .i64 ((32768 : Nat) : Int))) none).run Try.prog W = .ok (.slice (some ⟨q, 0, none⟩) 32768 cap) W := fun W => by
      obtain ⟨h1, h2⟩ := run_cut (P := Try.prog) 43 5 Try.underlying43 (by kernel_rfl)
      rw [run_sliceAt_slice (P := Try.prog) (t := 43) (h := h1), run_slice_h (t := 43) (ht := h1) (h0 := by omega) (h2 := by omega), h2]
      simp only [Result.andThen]
      unfold sliced
      rw [Int.toNat_natCast, if_neg (by omega)]
      simp [add_off]
    have HS2 := Lib.hid hs2
    clear h hd ho hbig hn0 hs2
    go_enter Try.func105, Try.ntmps105
    go_wp2
    refine wp_region_tail (fun w' => ∃ x, w' = ext w x) [0,1,2,3,4,5,6,7,8,9,10,11,12,13,14] [] [15,16] (by kernel_rfl) (by kernel_rfl) (ex_ext (below_drewN w 1)) ?_
    simp only [pick, List.map_cons, List.map_nil, List.getD_cons_zero, List.getD_cons_succ]
    repeat (go_big_quiet_step (fail))
    refine wpQuiet_nil ?_
    obtain ⟨cur, hrow, hsrc, hcs, hdl, hnew, hgr⟩ := HT.out
    have HRW := Lib.hid hrow
    have HSR := Lib.hid hsrc
    have HCS := Lib.hid hcs
    have HDL := Lib.hid hdl
    have HNW := Lib.hid hnew
    have HGR := Lib.hid hgr
    clear hrow hsrc hcs hdl hnew hgr HT
    unfold wpAct
    unfold wpAct
    go_wp2_with ((refine wpList_copy_front rfl (.tmp 12) (.tmp 23) 43 43 rfl 5 Try.underlying43 (by kernel_rfl) q b.length cap ⟨q, n0, none⟩ 32768 (cap - n0) rfl rfl cur 5 HRW.out (bytesV (b.drop n0)) 32768 HDL.out (Nat.min_eq_left (by omega)).symm HSR.out HCS.out (bytesV_one _) ?_))
    refine ⟨trivial, ?_⟩
    have HBX := Lib.hid ((HV.out.box.up (below_drewN w 1)))
    rw [← World.drew_is_drewN] at HBX
    have HB2 := Lib.hid (HBX.out.keep HGR.out (.inr (fun e => hne (by injection e))))
    have HNW2 := HNW
    have HF2 : Hid (WFx gw (.slice (some ⟨q, 0, none⟩) b.length cap) w (w.drew.setRow q (bytesV (b.drop n0) ++ cur.toList.drop 32768).toArray)) := Lib.hid (by
      have h1 : w.grownBy w.drew none := grown_drew w none
      exact (fx_grown h1 (by intro k e; cases e)).grown HGR.out (fun k e => .inl (.inr (by rw [← e]; rfl))))
    generalize w.drew.setRow q (bytesV (b.drop n0) ++ cur.toList.drop 32768).toArray = w2 at *
    have c1 : w2.cell? ⟨gw, 1, none⟩ = some (.slice (some ⟨q, 0, none⟩) b.length cap) := HB2.out.cell (by simp)
    have f1 := HB2.out.free 1
    have hgw := HB2.out.blk.2
    have hs2 := HS2.out
    have HST := Lib.hid (HB2.out.store 1 (.slice (some ⟨q, 0, none⟩) 32768 cap))
    clear HV HSR HRW HCS HDL HGR HNW HBX hsl HS2
    (unfold wpAct; go_wp2; refine ⟨trivial, ?_⟩)
    unfold wpAct
    go_wp2
    go_end0
    have hqg : (Value.slice (some ⟨q, 0, none⟩) 32768 cap).ownBlock ≠ some gw := fun e => hne (by injection e with e; exact e.symm)
    exact ⟨rfl, _, ⟨b.drop n0, ⟨by simpa using HST.out.1, HNW2.out.keep HST.out.2 (.inr hqg), hqg⟩, HLB.out.1, HLB.out.2⟩, rfl, HF2.out.grown HST.out.2 (fun k e => .inl (.inl (by injection e with e; exact e.symm)))⟩
  · have hbi : ¬ (b.length : Int) > 131072 := by omega
    obtain ⟨oa, cap, q, hv, hd, -⟩ := h.own.cases
    rw [bytesV_length] at hv hd
    have hm := hd.len
    have HA : Hid (WinAt w B gw vb b) := Lib.hid ⟨b, h, rfl, by omega⟩
    clear h hd
    subst hv
    go_enter Try.func105, Try.ntmps105
    go_wp2
    go_end0
    exact ⟨rfl, _, HA.out, rfl, Fx.refl _ _⟩
theorem WinV.push {w w5 : World} {B gw : Nat} {vb v' : Value} {b c : Byts} (h : WinV w B gw vb b) (hown : Own w5 B 5 v' (bytesV b ++ bytesV c)) (hg : w.grownBy w5 vb.ownBlock) (hk : ∀ k, v'.ownBlock = some k → vb.ownBlock = some k ∨ w.heap.size ≤ k) :
    WinV (w5.setCell ⟨gw, 1, none⟩ v') B gw v' (b ++ c) ∧ WFx gw vb w (w5.setCell ⟨gw, 1, none⟩ v') := by
  have hbx := h.box.keep hg (.inr (fun e => h.ne e.symm))
  have hst := hbx.store 1 v'
  have hne : v'.ownBlock ≠ some gw := fun e => by
    rcases hk gw e with h1 | h1
    · exact h.ne h1
    · have := h.box.blk.2; omega
  refine ⟨⟨by simpa using hst.1, ?_, hne⟩, (fx_grown hg (fun k e => .inr e)).grown hst.2 (fun k e => .inl (.inl (by injection e with e; exact e.symm)))⟩
  rw [bytesV_append]
  exact hown.keep hst.2 (.inr hne)
theorem WFx.next {gw : Nat} {vb vb' : Value} {w w1 w2 : World} (h : WFx gw vb w w1) (hk : ∀ k, vb'.ownBlock = some k → vb.ownBlock = some k ∨ w.heap.size ≤ k) (k : WFx gw vb' w1 w2) : WFx gw vb w w2 :=
  ⟨k.os.trans h.os, k.tape.trans h.tape, k.output.trans h.output, Nat.le_trans h.size k.size, fun i hi h1 => by
    rw [k.block i (Nat.lt_of_lt_of_le hi h.size) (fun e => ?_), h.block i hi h1]
    rcases e with e | e
    · exact h1 (.inl e)
    · rcases hk i e with h2 | h2
      · exact h1 (.inr h2)
      · omega⟩
set_option maxRecDepth 100000 in
set_option maxHeartbeats 1000000 in
theorem putWn {w : World} {B gw : Nat} {vb : Value} {H : Byts} (h : WinAt w B gw vb H) (hB : B ≤ w.heap.size) (s : ByteArray) (hs : s.size ≤ 50000000) : Calls Try.prog 84 #[.pointer (some ⟨gw, 0, none⟩), .string s] w fun e w' => e = .returned (.tuple #[]) ∧ ∃ vb', WinAt w' B gw vb' (H ++ bys s) ∧ (∀ k, vb'.ownBlock = some k → vb.ownBlock = some k ∨ w.heap.size ≤ k) ∧ WFx gw vb w w' := by
  obtain ⟨b, hV, hl, hm⟩ := h
  have HT := Lib.hid (thereWn hV)
  have HV := Lib.hid hV
  have c1 : w.cell? ⟨gw, 1, none⟩ = some vb := hV.box.cell (by simp)
  have f1 := hV.box.free 1
  have hgw := hV.box.blk.2
  have HL := Lib.hid hl
  have HB := Lib.hid hB
  have HLN : Hid ((bytesV b).length + s.size ≤ 4294967296) := Lib.hid (by rw [bytesV_length]; omega)
  have HLM : Hid ((b ++ s.data.toList).length ≤ 100000000) := Lib.hid (by rw [List.length_append]; have := bys_len s; unfold bys at this; omega)
  clear hV hl hB hm hs
  go_enter Try.func84, Try.ntmps84
  go_wp2_with (first | ((with_reducible go_at_call 89); (with_reducible refine HT.out.mono ?_); rintro e w' ⟨rfl, hw⟩; subst hw) | (at_builtin; go_loud (refine wpList_app_str rfl (.tmp 10) (.tmp 11) 43 9 rfl B 5 (.int .u8 0) 1 Try.underlying43 Try.underlying9 (by kernel_rfl) rfl (by decide) vb (bytesV b) rfl HV.out.own s rfl HLN.out HB.out ?_); intro v' w5 hown1 hg1 hk1; obtain ⟨hW, hF⟩ := HV.out.push hown1 hg1 hk1; have hb5 := HV.out.box.keep hg1 (.inr (fun e => HV.out.ne e.symm)); have c5 : w5.cell? ⟨gw, 1, none⟩ = some vb := hb5.cell (by simp); have f5 := hb5.free 1; have g5 := hb5.blk.2; obtain ⟨o5, k5, q5, hv5, -⟩ := hown1.cases; obtain ⟨l5, hl5⟩ : ∃ l5, l5 = (bytesV b ++ bytesV s.data.toList).length := ⟨_, rfl⟩; rw [← hl5] at hv5; subst hv5; have HW := Lib.hid hW; have HF := Lib.hid hF; have HK := Lib.hid hk1; clear hown1 hg1 hk1 hb5 hl5 hW hF) | ((with_reducible go_at_call 105); (with_reducible refine (trimWn HW.out HLM.out).mono ?_); rintro e w7 ⟨rfl, v7, hw7, ho7, hf7⟩; have HW7 := Lib.hid hw7; have HO7 := Lib.hid ho7; have HF7 := Lib.hid hf7; clear hw7 ho7 hf7))
  go_end0
  obtain ⟨b7, h1, h2, h3⟩ := HW7.out
  refine ⟨rfl, v7, ⟨b7, h1, h2.trans (lastN_app2 HL.out _), h3⟩, fun k e => HK.out k (by rw [← HO7.out]; exact e), HF.out.next HK.out HF7.out⟩
end Go.Cm

/- The walks of the window: a new one, a copy, the last bytes, a twin. Conditions: the window is there. -/
namespace Go.Cm
open Go.RowKit Go.Proofs

theorem WinV.B {w : World} {B gw : Nat} {vb : Value} {b : Byts} (h : WinV w B gw vb b) : B ≤ gw ∧ gw < w.heap.size := h.box.blk
/-- a new window -/
theorem newWn (s : ByteArray) (hs : s.size ≤ 50000000) (w : World) : Calls Try.prog 57 #[.string s] w fun e w' => ∃ gw vb, e = .returned (.pointer (some ⟨gw, 0, none⟩)) ∧ WinAt w' w.heap.size gw vb (bys s) ∧ w.heap.size ≤ gw ∧ gw < w'.heap.size ∧ Below w.heap.size w w' := by
  have hw1 : WinAt (w.alloc (.cells #[.bool true, .slice none 0 0] 131)) w.heap.size w.heap.size (.slice none 0 0) [] := by
    have h := own_lit w w.heap.size #[.bool true, .slice none 0 0] 131 (by simp) (Nat.le_refl _)
    exact ⟨[], ⟨by simpa using h, Own.nil _ _ _, by simp [Value.ownBlock]⟩, rfl, by simp⟩
  have HP := Lib.hid (putWn hw1 (below_alloc w _).size s hs)
  have HA := Lib.hid (below_alloc w (.cells #[.bool true, .slice none 0 0] 131))
  clear hw1
  go_enter Try.func57, Try.ntmps57
  go_wp2_with (first | ((with_reducible go_at_call 84); (with_reducible refine HP.out.mono ?_); rintro e w7 ⟨rfl, v7, hw7, ho7, hf7⟩; have HW7 := Lib.hid hw7; have HO7 := Lib.hid ho7; have HF7 := Lib.hid hf7; clear hw7 ho7 hf7))
  go_ret
  refine ⟨_, v7, rfl, by simpa using HW7.out, Nat.le_refl _, ?_, ?_⟩
  · obtain ⟨b, h, -⟩ := HW7.out
    exact h.B.2
  · exact HF7.out.below HA.out HA.out.size (fun k e => by
      rcases e with e | e
      · omega
      · simp [Value.ownBlock] at e)
/-- what a copy answers -/
def RetCopy (B gw : Nat) (vb : Value) (H : Byts) (d n : Nat) (w : World) (e : Ending) (w' : World) : Prop :=
  if min H.length 32768 < d then e = .returned (.tuple #[.string ⟨#[]⟩, .int .i64 10]) ∧ w' = w
  else ∃ c vb', e = .returned (.tuple #[.string ⟨c.toArray⟩, .int .i64 0]) ∧ copyN H d n = H ++ c ∧ c.length = n ∧ WinAt w' B gw vb' (H ++ c) ∧ (∀ k, vb'.ownBlock = some k → vb.ownBlock = some k ∨ w.heap.size ≤ k) ∧ WFx gw vb w w'
set_option maxRecDepth 100000 in
set_option maxHeartbeats 4000000 in
theorem copyWn {w : World} {B gw : Nat} {vb : Value} {H : Byts} (h : WinAt w B gw vb H) (hB : B ≤ w.heap.size) (d n : Nat) (hd1 : 1 ≤ d) (hd2 : d ≤ 40000) (hn : n ≤ 65536) : Calls Try.prog 143 #[.pointer (some ⟨gw, 0, none⟩), .int .i64 (d : Nat), .int .i64 (n : Nat)] w (RetCopy B gw vb H d n w) := by
  have HL0 := Lib.hid (lenWn h)
  obtain ⟨b, hV, hl, hm⟩ := h
  have HT := Lib.hid (thereWn hV)
  have HV := Lib.hid hV
  have HL := Lib.hid hl
  have HB := Lib.hid hB
  have HN := Lib.hid hn
  have hn1 : decide ((n : Int) < 0) = false := by rw [decide_eq_false_iff_not]; omega
  have hn2 : decide ((n : Int) > 65536) = false := by rw [decide_eq_false_iff_not]; omega
  have hd3 : decide ((d : Int) < 1) = false := by rw [decide_eq_false_iff_not]; omega
  unfold RetCopy
  by_cases hbig : min H.length 32768 < d
  · simp only [if_pos hbig]
    generalize min H.length 32768 = k at *
    have hbi : (d : Int) > (k : Int) := by omega
    clear hV hl hB hn hd2 hm hbig
    go_enter Try.func143, Try.ntmps143
    go_wp2_with (first | ((with_reducible go_at_call 89); (with_reducible refine HT.out.mono ?_); rintro e w' ⟨rfl, hw⟩; rw [hw]; clear hw) | ((with_reducible go_at_call 115); (with_reducible refine HL0.out.mono ?_); rintro e w' ⟨rfl, hw⟩; rw [hw]; clear hw))
    go_ret2
    exact ⟨rfl, rfl⟩
  · simp only [if_neg hbig]
    have hdH : d ≤ H.length ∧ d ≤ 32768 := by omega
    have hdb : d ≤ b.length := by have := lastN_min hl; omega
    obtain ⟨C, hc1, hc2, hc3⟩ := copy_same hl hd1 hdH.1 hdH.2 n
    have HC1 := Lib.hid hc1
    have HC2 := Lib.hid hc2
    have HC3 := Lib.hid hc3
    have HDB := Lib.hid hdb
    have HM := Lib.hid hm
    generalize min H.length 32768 = k at *
    have hbi : decide (k < d) = false := by rw [decide_eq_false_iff_not]; omega
    obtain ⟨o0, k0, q0, hv0, -⟩ := hV.own.cases
    rw [bytesV_length] at hv0
    have c1 : w.cell? ⟨gw, 1, none⟩ = some vb := hV.box.cell (by simp)
    have hgw := hV.box.blk.2
    have HVB := Lib.hid hv0
    rw [hv0] at c1
    clear hV hl hB hdb hdH hbig hc1 hc2 hc3 hm hv0 hn hd2
    go_enter Try.func143, Try.ntmps143
    go_wp2_with (first | ((with_reducible go_at_call 89); (with_reducible refine HT.out.mono ?_); rintro e w' ⟨rfl, hw⟩; rw [hw]; clear hw) | ((with_reducible go_at_call 115); (with_reducible refine HL0.out.mono ?_); rintro e w' ⟨rfl, hw⟩; rw [hw]; clear hw))
    go_loopg [9] (n + 1) (fun gk lv wr => ∃ (i : Nat) (vi : Value), lv = .int .i64 ((n - i : Nat) : Int) ∧ i ≤ n ∧ WinV wr B gw vi (copyN b d i) ∧ (∀ k, vi.ownBlock = some k → vb.ownBlock = some k ∨ w.heap.size ≤ k) ∧ WFx gw vb w wr ∧ gk = n - i + 1)
    case atStart => exact ⟨0, vb, rfl, Nat.zero_le _, HV.out, fun k e => .inl e, Fx.refl _ _, rfl⟩
    case round =>
      obtain ⟨i, vi, rfl, hi, hvi, hki, hfi, rfl⟩ := hrel
      have HVI := Lib.hid hvi
      have HKI := Lib.hid hki
      have HFI := Lib.hid hfi
      have HSZ : Hid (B ≤ wr.heap.size) := Lib.hid (Nat.le_trans HB.out hfi.size)
      obtain ⟨ci, hci1, hci2⟩ := copyN_app b d i
      have hxl : (copyN b d i).length = b.length + i := by rw [hci1, List.length_append, hci2]
      obtain ⟨ox, kx, qx, hvx, hdx, -⟩ := hvi.own.cases
      rw [bytesV_length] at hvx hdx
      have hmx := hdx.len
      have c1 : wr.cell? ⟨gw, 1, none⟩ = some vi := hvi.box.cell (by simp)
      have f1 := hvi.box.free 1
      have g1 := hvi.box.blk.2
      have HPC : Hid (∀ m, m ≤ d → m ≤ n - i → copyN b d (i + m) = copyN b d i ++ ((copyN b d i).drop ((copyN b d i).length - d)).take m) := Lib.hid (fun m h1 _ => by
        rw [copyN_add, copy_piece (by rw [hxl]; have := HDB.out; omega) m h1])
      have hdx' : d ≤ (copyN b d i).length := by rw [hxl]; have := HDB.out; omega
      have HXL : Hid ((copyN b d i).length ≤ 131072 + 65536) := Lib.hid (by rw [hxl]; have := HM.out; have := HN.out; omega)
      clear hki hfi hci1 hci2 hxl
      obtain ⟨x, hx⟩ : ∃ x, x = copyN b d i := ⟨_, rfl⟩
      rw [← hx] at HPC hdx' hvi HVI hvx hdx hmx HXL
      have HX := Lib.hid hx
      clear hx
      subst hvx
      by_cases hlt : i < n
      · obtain ⟨r, hr⟩ : ∃ r, r = n - i := ⟨_, rfl⟩
        rw [← hr] at HPC ⊢
        have hr0 : 0 < r := by omega
        obtain ⟨n1, hn1⟩ : ∃ n1, n1 = x.length - d := ⟨_, rfl⟩
        have hni : (x.length : Int) - (d : Int) = (n1 : Nat) := by omega
        obtain ⟨m, hm⟩ : ∃ m, m = min r d := ⟨_, rfl⟩
        have hm2 : m ≤ r := by omega
        obtain ⟨u, hu, huS⟩ := hvi.own.sl.high (P := Try.prog) 43 5 Try.underlying43 (by kernel_rfl) n1 (by rw [bytesV_length]; omega)
        rw [bytesV_drop] at huS
        obtain ⟨u2, hu2, hu2S⟩ := huS.low (P := Try.prog) 43 5 Try.underlying43 (by kernel_rfl) m (by rw [bytesV_length, List.length_drop]; omega)
        rw [bytesV_take] at hu2S
        have hpl : ((x.drop n1).take m).length = m := by rw [List.length_take, List.length_drop]; omega
        obtain ⟨o2, k2, b2, f2, hv2, hd2, -⟩ := id hu2S
        rw [bytesV_length, hpl] at hv2 hd2
        have hml := hd2.len
        have HSL := Lib.hid hu2S
        obtain ⟨ou, ku, bu, fu, hvu, -⟩ := id huS
        rw [bytesV_length, List.length_drop, show x.length - n1 = d by omega] at hvu
        have HE : Hid (x ++ (x.drop n1).take m = copyN b d (i + m)) := Lib.hid (by rw [hn1]; exact (HPC.out m (by omega) hm2).symm)
        have HLP : Hid ((bytesV x).length + (bytesV ((x.drop n1).take m)).length ≤ 4294967296) := Lib.hid (by rw [bytesV_length, bytesV_length, hpl]; have := HXL.out; have := HN.out; omega)
        have HMM := Lib.hid hm
        have hrm : (r : Int) - (m : Int) = ((r - m : Nat) : Int) := by omega
        have HM1 : Hid (1 ≤ m) := Lib.hid (by omega)
        have HR := Lib.hid hr
        have HPL := Lib.hid hpl
        clear hu2S huS hdx hd2 HPC hn1 hm hr hpl hvi hdx'
        subst hv2
        subst hvu
        have HU2 := Lib.hid hu2
        clear hu2
        go_wp2_with (fail)
        refine wp_region_ext (by kernel_rfl) (by kernel_rfl) ?_
        repeat (go_big_quiet_step (fail))
        refine wpQuiet_nil ?_
        rintro w1 ⟨y, rfl⟩
        have HB1 := Lib.hid (ext_below wr y)
        have HV1 := Lib.hid (HVI.out.up HB1.out)
        have HS1 := Lib.hid (HSL.out.up HB1.out)
        have HZ1 : Hid (B ≤ (ext wr y).heap.size) := Lib.hid (Nat.le_trans HSZ.out HB1.out.size)
        generalize ext wr y = w1 at *
        have c1 : w1.cell? ⟨gw, 1, none⟩ = some (.slice ox x.length kx) := HV1.out.box.cell (by simp)
        have g1 := HV1.out.box.blk.2
        go_wp2_with (first | ((with_reducible show wpList _ _ _ (Oper.mk _ (.call _) _ _ _ _ :: _) _ _); refine wpList_min_by rfl (.tmp 54) (.tmp 55) 3 3 rfl r d m rfl rfl HMM.out ?_) | ((with_reducible show wpList _ _ _ (Oper.mk _ (.slice _ _ _ _ _) _ _ _ _ :: _) _ _); refine wpList_slice_by rfl 43 (.tmp 53) none (some (.tmp 56)) none rfl _ (HU2.out _) ?_) | (at_builtin; go_loud (refine wpList_app rfl (.tmp 62) (.tmp 63) 43 rfl B 5 (.int .u8 0) 1 Try.underlying43 (by kernel_rfl) rfl (by decide) _ (bytesV x) rfl HV1.out.own _ _ rfl HS1.out (bytesV_one _) HLP.out HZ1.out ?_); intro v' w5 hown1 hg1 hk1; obtain ⟨hW, hF⟩ := HV1.out.push hown1 hg1 hk1; have hb5 := HV1.out.box.keep hg1 (.inr (fun e => HV1.out.ne e.symm)); have c5 : w5.cell? ⟨gw, 1, none⟩ = some (.slice ox x.length kx) := hb5.cell (by simp); have f5 := hb5.free 1; have g5 := hb5.blk.2; obtain ⟨o5, k5, q5, hv5, -⟩ := hown1.cases; obtain ⟨l5, hl5⟩ : ∃ l5, l5 = (bytesV x ++ bytesV ((x.drop n1).take m)).length := ⟨_, rfl⟩; rw [← hl5] at hv5; subst hv5; have HW := Lib.hid hW; have HF := Lib.hid hF; have HK := Lib.hid hk1; clear hown1 hg1 hk1 hb5 hl5 hW hF))
        have hNI : n - (i + m) = r - m := by have := HR.out; omega
        have hr6 : r - m ≤ 100000 := by have := HR.out; have := HN.out; omega
        have HW2 : Hid (WinV (w5.setCell ⟨gw, 1, none⟩ (.slice o5 l5 k5)) B gw (.slice o5 l5 k5) (copyN b d (i + m))) := Lib.hid (by rw [← HE.out]; exact HW.out)
        have HKK : Hid (∀ k, (Value.slice o5 l5 k5).ownBlock = some k → vb.ownBlock = some k ∨ w.heap.size ≤ k) := Lib.hid (fun k e => by
          rcases HK.out k e with h | h
          · exact HKI.out k h
          · exact .inr (Nat.le_trans HFI.out.size (Nat.le_trans HB1.out.size h)))
        have HFF : Hid (WFx gw vb w (w5.setCell ⟨gw, 1, none⟩ (.slice o5 l5 k5))) := Lib.hid (HFI.out.next HKI.out ((fx_below HB1.out).trans (HF.out.mono (fun k hk => hk))))
        have hmm := HM1.out
        have HE64 : Hid (wrap64 ((r - m : Nat) : Int) = ((n - (i + m) : Nat) : Int)) := Lib.hid (by rw [hNI, IntWalk.wrap64_in _ ⟨by omega, by omega⟩])
        go_roundg (n - (i + m) + 1)
        case measure => have := HR.out; omega
        case rel => exact ⟨i + m, _, by rw [HE64.out], by have := HR.out; omega, HW2.out, HKK.out, HFF.out, rfl⟩
      · obtain rfl : i = n := by omega
        have HCX : Hid (x = b ++ C) := Lib.hid (by rw [HX.out, HC1.out])
        obtain ⟨u, hu, huS⟩ := hvi.own.sl.high (P := Try.prog) 43 5 Try.underlying43 (by kernel_rfl) b.length (by rw [bytesV_length, HCX.out, List.length_append]; omega)
        rw [bytesV_drop, show x.drop b.length = C by rw [HCX.out, List.drop_left]] at huS
        have HCV := Lib.hid (run_bytes_string (P := Try.prog) wr 43 9 5 Try.underlying43 Try.underlying5 Try.underlying9 u C huS)
        have HU := Lib.hid hu
        have HTR := Lib.hid (trimWn HVI.out (by have := HXL.out; omega))
        have hz : ((i - i : Nat) : Int) = 0 := by rw [Nat.sub_self]; rfl
        rw [hz]
        clear hu huS hvi hdx HPC hdx'
        go_wp2_with (first | ((with_reducible show wpList _ _ _ (Oper.mk _ (.slice _ _ _ _ _) _ _ _ _ :: _) _ _); refine wpList_slice_by rfl 43 (.tmp 74) (some (.tmp 75)) none none rfl _ (HU.out _) ?_) | ((with_reducible show wpList _ _ _ (Oper.mk _ (.convert _ _ _) _ _ _ _ :: _) _ _); refine wpList_conv_by rfl 43 9 (.tmp 76) rfl _ HCV.out ?_) | ((with_reducible go_at_call 105); (with_reducible refine HTR.out.mono ?_); rintro e w7 ⟨rfl, v7, hw7, ho7, hf7⟩; have HW7 := Lib.hid hw7; have HO7 := Lib.hid ho7; have HF7 := Lib.hid hf7; clear hw7 ho7 hf7))
        go_ret2
        obtain ⟨b7, h1, h2, h3⟩ := HW7.out
        refine ⟨C, v7, rfl, HC2.out, HC3.out, ⟨b7, h1, h2.trans (by rw [HCX.out]; exact lastN_app2 HL.out _), h3⟩, fun k e => HKI.out k (by rw [← HO7.out]; exact e), HFI.out.next HKI.out HF7.out⟩
end Go.Cm

/- The walks of the window's last bytes, and of its twin; of a reader's bytes. Conditions: they are there. -/
namespace Go.Cm
open Go.RowKit Go.Proofs

theorem quiet_min {P : Program} {C : World → Prop} {o : Oper} {a : Act} {K : Act → Prop} (x y : Operand) (t1 t2 : TypeId) (ho : o.op = .call { callee := .builtin .min, args := #[x, y], argTypes := #[t1, t2] }) (m n k : Nat) (hx : a.eval x = .int .i64 m) (hy : a.eval y = .int .i64 n) (hk : k = min m n) (h : K (a.put o.dst (.int .i64 k))) : o.quiet P a C K := by
  refine ⟨.int .i64 k, fun w' _ => ?_, h⟩
  have hr := run_min_int2 (P := P) (w := w') #[t1, t2] o.type .i64 .i64 (m : Int) (n : Int)
  have hkk : (if (n : Int) < (m : Int) then (n : Int) else (m : Int)) = (k : Int) := by rw [hk]; split <;> omega
  rw [hkk] at hr
  unfold Oper.quietAt execOp
  simp only [ho, resolve, invoke, builtin, Sem.run_bind, Sem.run_pure, Result.andThen_ok, List.map_toArray, List.map_cons, List.map_nil, hx, hy, hr, Oper.quietUpon]
  exact ⟨trivial, trivial⟩
theorem quiet_slice {P : Program} {C : World → Prop} {o : Oper} {a : Act} {K : Act → Prop} (t : TypeId) (x : Operand) (lo hi mx : Option Operand) (ho : o.op = .slice t x lo hi mx) (v : Value) (hr : ∀ w', C w' → (Instr.sliceAt t (a.eval x) (lo.map a.eval) (hi.map a.eval) (mx.map a.eval)).run P w' = .ok v w') (h : K (a.put o.dst v)) : o.quiet P a C K := by
  refine ⟨v, fun w' hw' => ?_, h⟩
  unfold Oper.quietAt execOp
  simp only [ho, Sem.run_bind, Sem.run_pure, Result.andThen_ok, hr w' hw', Oper.quietUpon]
  exact ⟨trivial, trivial⟩
end Go.Cm

/- The walks of the program's symbols of lengths and distances. Conditions: none. -/
namespace Go.Cm
open Go.RowKit Go.Proofs

def z30 : Array Value := (ints (List.replicate 30 0)).toArray
theorem zero_30 (W : World) : (zeroValue 180).run Try.prog W = .ok (.agg z30) W := by kernel_rfl
theorem z30_list : z30.toList = ints (nls (List.replicate 30 0)) := rfl
theorem box30 (w : World) (A : Array Value) (hA : A = z30) : BoxA (w.alloc (.cells A 180)) 180 30 w.heap.size (nls (List.replicate 30 0)) := by
  subst hA
  exact boxA_new w 180 z30 (nls (List.replicate 30 0)) z30_list (by decide)
/-- the bases, as far as they have been laid -/
def basL (base each k : Nat) : List Nat := (List.range 30).map fun i => if i < k then spBase base each i else 0
theorem basL_len (base each k : Nat) : (basL base each k).length = 30 := by simp [basL]
theorem basL_getD (base each k i : Nat) (h : i < 30) : (basL base each k).getD i 0 = if i < k then spBase base each i else 0 := by simp [basL, List.getD, h]
theorem basL_zero (base each : Nat) : basL base each 0 = List.replicate 30 0 := by simp [basL, List.map_const']
theorem basL_set (base each k : Nat) : (basL base each k).set k (spBase base each k) = basL base each (k + 1) := by
  refine List.ext_getElem (by simp [basL]) fun i h1 h2 => ?_
  simp only [basL, List.length_set, List.length_map, List.length_range] at h1
  simp only [basL, List.getElem_set, List.getElem_map, List.getElem_range]
  by_cases h : k = i
  · subst h; rw [if_pos rfl, if_pos (by omega)]
  · rw [if_neg h]
    by_cases h3 : i < k
    · rw [if_pos h3, if_pos (by omega)]
    · rw [if_neg h3, if_neg (by omega)]
def kdV4 : Array Value := #[.int .i64 257, .int .i64 28, .int .i64 3, .int .i64 4]
theorem kd4 (w : World) : Calls Try.prog 118 #[] w fun e w' => e = .returned (.agg kdV4) ∧ ∃ x, w' = ext w x := by
  have HO := Lib.hid (own_lit w w.heap.size #[Value.int .i64 257, .int .i64 28, .int .i64 3, .int .i64 4] 166 (by simp) (Nat.le_refl _))
  go_enter Try.func118, Try.ntmps118
  go_wp2
  refine ret_cell rfl rfl rfl (own_load HO.out _ Try.underlying166 rfl (by kernel_rfl)) ?_
  exact ⟨rfl, (ex_ext (by repeat (first | exact Below.refl _ _ | assumption | refine b_drewN ?_ _ | refine Below.drew ?_ | refine b_ext' ?_ _ | refine b_alloc' ?_ _)))⟩
theorem bits4 (i : Nat) (hi : i < 100) (w : World) : Calls Try.prog 135 #[.agg kdV4, .int .i64 i] w fun e w' => e = .returned (.int .i64 (spB 4 i : Nat)) ∧ ∃ x, w' = ext w x := by
  have h1 : (i : Int).tdiv 4 = ((i / 4 : Nat) : Int) := by norm_cast
  have hl : i / 4 < 100 := by omega
  unfold kdV4 spB
  go_enter Try.func135, Try.ntmps135
  go_wp2
  all_goals
    go_ret
    refine ⟨?_, (ex_ext (by repeat (first | exact Below.refl _ _ | assumption | refine b_drewN ?_ _ | refine Below.drew ?_ | refine b_ext' ?_ _ | refine b_alloc' ?_ _)))⟩
    first
      | (rw [show ((i / 4 - 1 : Nat) : Int) = (i : Int) / 4 - 1 by omega]; rfl)
      | (rw [show ((i / 4 - 1 : Nat) : Int) = 0 by omega]; rfl)
theorem spB4_le (i : Nat) (h : i < 30) : spB 4 i ≤ 13 := by unfold spB; omega
theorem spBase4_le : ∀ i, i ≤ 30 → spBase 3 4 i ≤ 40000 := by
  intro i hi
  exact Nat.le_trans (spBase_mono 3 4 hi) (by decide)
set_option maxRecDepth 100000 in
theorem bases4 (w : World) : Calls Try.prog 134 #[.agg kdV4] w fun e w' => e = .returned (.agg (ints (nls (basL 3 4 28))).toArray) ∧ ∃ x, w' = ext w x := by
  have HBI := Lib.hid (fun (i : Nat) (hi : i < 100) (W : World) => bits4 i hi W)
  unfold kdV4 at HBI ⊢
  obtain ⟨w1, hw1⟩ : ∃ w1, w1 = w.alloc (.cells #[.int .i64 257, .int .i64 28, .int .i64 3, .int .i64 4] 166) := ⟨_, rfl⟩
  have hz := zero_30
  obtain ⟨Z, hZ⟩ : ∃ Z, Z = z30 := ⟨_, rfl⟩
  rw [← hZ] at hz
  have hk := own_lit w w.heap.size #[Value.int .i64 257, .int .i64 28, .int .i64 3, .int .i64 4] 166 (by simp) (Nat.le_refl _)
  rw [← hw1] at hk
  have hs1 : w1.heap.size = w.heap.size + 1 := by rw [hw1]; simp
  have hb1 := box30 w1 Z hZ
  have hb2 := box30 (w1.alloc (.cells Z 180)) Z hZ
  rw [show (w1.alloc (.cells Z 180)).heap.size = w.heap.size + 2 by simp [hs1]] at hb2
  rw [hs1] at hb1
  rw [← basL_zero 3 4] at hb2
  obtain ⟨O, hO⟩ : ∃ O : List Int, O = nls (List.replicate 30 0) := ⟨_, rfl⟩
  rw [← hO] at hb1
  have HB1 := Lib.hid (hb1.up (below_alloc _ (.cells Z 180)))
  have HB2 := Lib.hid hb2
  have HK := Lib.hid ((hk.up (below_alloc w1 (.cells Z 180))).up (below_alloc _ (.cells Z 180)))
  have HBL : Hid (Below w.heap.size w ((w1.alloc (.cells Z 180)).alloc (.cells Z 180))) := Lib.hid (by rw [hw1]; exact (by repeat (first | exact Below.refl _ _ | assumption | refine b_drewN ?_ _ | refine Below.drew ?_ | refine b_ext' ?_ _ | refine b_alloc' ?_ _)))
  have HW1 := Lib.hid hw1
  have HS1 := Lib.hid hs1
  clear hw1 hZ hb1 hb2 hk hO hs1
  go_enter Try.func134, Try.ntmps134
  go_wp2
  rw [← HW1.out]
  generalize (w1.alloc (.cells Z 180)).alloc (.cells Z 180) = w3 at *
  go_loopg [4, 10] (28 + 1) (fun gk nv iv wr => ∃ k : Nat, nv = .int .i64 (spBase 3 4 k : Nat) ∧ iv = .int .i64 k ∧ k ≤ 28 ∧ BoxA wr 180 30 (w.heap.size + 2) (nls (basL 3 4 k)) ∧ BoxA wr 180 30 (w.heap.size + 1) O ∧ Own wr w.heap.size 166 (.slice (some ⟨w.heap.size, 0, none⟩) 4 4) [.int .i64 257, .int .i64 28, .int .i64 3, .int .i64 4] ∧ Below w.heap.size w wr ∧ gk = 28 + 1 - k)
  case atStart => exact ⟨0, rfl, rfl, Nat.zero_le _, HB2.out, HB1.out, HK.out, HBL.out, rfl⟩
  case round =>
    clear HB2 HB1 HK HBL
    obtain ⟨k, rfl, rfl, hk, hb2, hb1, hkk, hbel, rfl⟩ := hrel
    have HB2 := Lib.hid hb2
    have HB1 := Lib.hid hb1
    have HK := Lib.hid hkk
    have HBL := Lib.hid hbel
    have hsz := hbel.size
    have hl2 := hb2.lt
    by_cases hlt : k < 28
    · have hlti : (k : Int) < 28 := by omega
      have hc := hb2.cell (c := k) (by omega)
      rw [nls_getD] at hc
      have hf := hb2.free k
      have hst := hb2.set k (spBase 3 4 k : Nat)
      rw [nls_set, basL_set] at hst
      have HST := Lib.hid hst
      have hbs := spBase4_le k (by omega)
      have hb13 := spB4_le k (by omega)
      have hnx := spBase_step 3 4 k
      have HNX := Lib.hid hnx
      clear hb2 hb1 hkk hbel hst hnx
      obtain ⟨A, hgA, hsA, hA⟩ := (HK.out.keep HST.out.2 (.inr (by simp [Value.ownBlock]))).whole
      have hA' : A = #[.int .i64 257, .int .i64 28, .int .i64 3, .int .i64 4] := by rw [← Array.toArray_toList (xs := A), hA]
      subst hA'
      clear hA hsA
      generalize (basL 3 4 k).getD k 0 = z at *
      have HBK := Lib.hid (fun W => HBI.out k (by omega) W)
      have HN1 : Hid (((spBase 3 4 (k + 1) : Nat) : Int) = ((spBase 3 4 k : Nat) : Int) + 2 ^ (spB 4 k)) := Lib.hid (by rw [HNX.out]; norm_cast)
      have hp := Nat.pow_le_pow_right (n := 2) (by decide) hb13
      have hpi : (2 : Int) ^ (spB 4 k) ≤ 8192 := by
        have h : ((2 ^ spB 4 k : Nat) : Int) ≤ 8192 := by omega
        simpa using h
      have hpi0 : (0 : Int) ≤ (2 : Int) ^ (spB 4 k) := Int.pow_nonneg (by decide)
      generalize spBase 3 4 k = q at *
      generalize spB 4 k = b at *
      go_wp2_with (first | (refine load_box rfl 166 4 _ rfl w.heap.size rfl #[.int .i64 257, .int .i64 28, .int .i64 3, .int .i64 4] rfl hgA _ Try.underlying166 rfl (by kernel_rfl) ?_) | (go_at_call 135; (with_reducible refine (HBK.out _).mono ?_); rintro e w4 ⟨rfl, x4, rfl⟩))
      go_roundg (28 + 1 - (k + 1))
      case measure => omega
      case rel => exact ⟨k + 1, by rw [HN1.out], by go_num, by omega, HST.out.1.up (ext_below _ x4), (HB1.out.keep HST.out.2 (by simp)).up (ext_below _ x4), (HK.out.keep HST.out.2 (.inr (by simp [Value.ownBlock]))).up (ext_below _ x4), (HBL.out.grown HST.out.2 hsz (fun q hq => by cases hq; omega)).trans ((ext_below _ x4).mono (Nat.le_trans hsz HST.out.2.size)), rfl⟩
    · obtain rfl : k = 28 := by omega
      obtain ⟨A, hgA, hsA, hA⟩ := hb2.open
      have HA := Lib.hid (congrArg List.toArray hA)
      clear hb2 hb1 hkk hbel HB2 HK hA hlt
      go_wp2_with (first | (refine load_box rfl 180 30 _ rfl (w.heap.size + 2) rfl A hsA hgA _ Try.underlying180 rfl (by kernel_rfl) ?_) | (refine store_box rfl 180 30 _ _ rfl (w.heap.size + 1) rfl O (nls (basL 3 4 28)) (congrArg Value.agg HA.out) (by rw [nls_length, basL_len]) (by kernel_rfl) HB1.out ?_; intro w4 hB4 hg4; have HB4 := Lib.hid hB4; have HG4 := Lib.hid hg4; clear hB4 hg4))
      refine ret_cell rfl rfl rfl (HB4.out.load _ Try.underlying180 rfl (by kernel_rfl)) ?_
      exact ⟨rfl, ex_ext (HBL.out.grown HG4.out hsz (fun q hq => by cases hq; omega))⟩
def kdV2 : Array Value := #[.int .i64 0, .int .i64 30, .int .i64 1, .int .i64 2]
theorem kd2 (w : World) : Calls Try.prog 120 #[] w fun e w' => e = .returned (.agg kdV2) ∧ ∃ x, w' = ext w x := by
  have HO := Lib.hid (own_lit w w.heap.size #[Value.int .i64 0, .int .i64 30, .int .i64 1, .int .i64 2] 166 (by simp) (Nat.le_refl _))
  go_enter Try.func120, Try.ntmps120
  go_wp2
  refine ret_cell rfl rfl rfl (own_load HO.out _ Try.underlying166 rfl (by kernel_rfl)) ?_
  exact ⟨rfl, (ex_ext (by repeat (first | exact Below.refl _ _ | assumption | refine b_drewN ?_ _ | refine Below.drew ?_ | refine b_ext' ?_ _ | refine b_alloc' ?_ _)))⟩
theorem bits2 (i : Nat) (hi : i < 100) (w : World) : Calls Try.prog 135 #[.agg kdV2, .int .i64 i] w fun e w' => e = .returned (.int .i64 (spB 2 i : Nat)) ∧ ∃ x, w' = ext w x := by
  have h1 : (i : Int).tdiv 2 = ((i / 2 : Nat) : Int) := by norm_cast
  have hl : i / 2 < 100 := by omega
  unfold kdV2 spB
  go_enter Try.func135, Try.ntmps135
  go_wp2
  all_goals
    go_ret
    refine ⟨?_, (ex_ext (by repeat (first | exact Below.refl _ _ | assumption | refine b_drewN ?_ _ | refine Below.drew ?_ | refine b_ext' ?_ _ | refine b_alloc' ?_ _)))⟩
    first
      | (rw [show ((i / 2 - 1 : Nat) : Int) = (i : Int) / 2 - 1 by omega]; rfl)
      | (rw [show ((i / 2 - 1 : Nat) : Int) = 0 by omega]; rfl)
theorem spB2_le (i : Nat) (h : i < 30) : spB 2 i ≤ 13 := by unfold spB; omega
theorem spBase2_le : ∀ i, i ≤ 30 → spBase 1 2 i ≤ 40000 := by
  intro i hi
  exact Nat.le_trans (spBase_mono 1 2 hi) (by decide)
set_option maxRecDepth 100000 in
theorem bases2 (w : World) : Calls Try.prog 134 #[.agg kdV2] w fun e w' => e = .returned (.agg (ints (nls (basL 1 2 30))).toArray) ∧ ∃ x, w' = ext w x := by
  have HBI := Lib.hid (fun (i : Nat) (hi : i < 100) (W : World) => bits2 i hi W)
  unfold kdV2 at HBI ⊢
  obtain ⟨w1, hw1⟩ : ∃ w1, w1 = w.alloc (.cells #[.int .i64 0, .int .i64 30, .int .i64 1, .int .i64 2] 166) := ⟨_, rfl⟩
  have hz := zero_30
  obtain ⟨Z, hZ⟩ : ∃ Z, Z = z30 := ⟨_, rfl⟩
  rw [← hZ] at hz
  have hk := own_lit w w.heap.size #[Value.int .i64 0, .int .i64 30, .int .i64 1, .int .i64 2] 166 (by simp) (Nat.le_refl _)
  rw [← hw1] at hk
  have hs1 : w1.heap.size = w.heap.size + 1 := by rw [hw1]; simp
  have hb1 := box30 w1 Z hZ
  have hb2 := box30 (w1.alloc (.cells Z 180)) Z hZ
  rw [show (w1.alloc (.cells Z 180)).heap.size = w.heap.size + 2 by simp [hs1]] at hb2
  rw [hs1] at hb1
  rw [← basL_zero 1 2] at hb2
  obtain ⟨O, hO⟩ : ∃ O : List Int, O = nls (List.replicate 30 0) := ⟨_, rfl⟩
  rw [← hO] at hb1
  have HB1 := Lib.hid (hb1.up (below_alloc _ (.cells Z 180)))
  have HB2 := Lib.hid hb2
  have HK := Lib.hid ((hk.up (below_alloc w1 (.cells Z 180))).up (below_alloc _ (.cells Z 180)))
  have HBL : Hid (Below w.heap.size w ((w1.alloc (.cells Z 180)).alloc (.cells Z 180))) := Lib.hid (by rw [hw1]; exact (by repeat (first | exact Below.refl _ _ | assumption | refine b_drewN ?_ _ | refine Below.drew ?_ | refine b_ext' ?_ _ | refine b_alloc' ?_ _)))
  have HW1 := Lib.hid hw1
  have HS1 := Lib.hid hs1
  clear hw1 hZ hb1 hb2 hk hO hs1
  go_enter Try.func134, Try.ntmps134
  go_wp2
  rw [← HW1.out]
  generalize (w1.alloc (.cells Z 180)).alloc (.cells Z 180) = w3 at *
  go_loopg [4, 10] (30 + 1) (fun gk nv iv wr => ∃ k : Nat, nv = .int .i64 (spBase 1 2 k : Nat) ∧ iv = .int .i64 k ∧ k ≤ 30 ∧ BoxA wr 180 30 (w.heap.size + 2) (nls (basL 1 2 k)) ∧ BoxA wr 180 30 (w.heap.size + 1) O ∧ Own wr w.heap.size 166 (.slice (some ⟨w.heap.size, 0, none⟩) 4 4) [.int .i64 0, .int .i64 30, .int .i64 1, .int .i64 2] ∧ Below w.heap.size w wr ∧ gk = 30 + 1 - k)
  case atStart => exact ⟨0, rfl, rfl, Nat.zero_le _, HB2.out, HB1.out, HK.out, HBL.out, rfl⟩
  case round =>
    clear HB2 HB1 HK HBL
    obtain ⟨k, rfl, rfl, hk, hb2, hb1, hkk, hbel, rfl⟩ := hrel
    have HB2 := Lib.hid hb2
    have HB1 := Lib.hid hb1
    have HK := Lib.hid hkk
    have HBL := Lib.hid hbel
    have hsz := hbel.size
    have hl2 := hb2.lt
    by_cases hlt : k < 30
    · have hlti : (k : Int) < 30 := by omega
      have hc := hb2.cell (c := k) (by omega)
      rw [nls_getD] at hc
      have hf := hb2.free k
      have hst := hb2.set k (spBase 1 2 k : Nat)
      rw [nls_set, basL_set] at hst
      have HST := Lib.hid hst
      have hbs := spBase2_le k (by omega)
      have hb13 := spB2_le k (by omega)
      have hnx := spBase_step 1 2 k
      have HNX := Lib.hid hnx
      clear hb2 hb1 hkk hbel hst hnx
      obtain ⟨A, hgA, hsA, hA⟩ := (HK.out.keep HST.out.2 (.inr (by simp [Value.ownBlock]))).whole
      have hA' : A = #[.int .i64 0, .int .i64 30, .int .i64 1, .int .i64 2] := by rw [← Array.toArray_toList (xs := A), hA]
      subst hA'
      clear hA hsA
      generalize (basL 1 2 k).getD k 0 = z at *
      have HBK := Lib.hid (fun W => HBI.out k (by omega) W)
      have HN1 : Hid (((spBase 1 2 (k + 1) : Nat) : Int) = ((spBase 1 2 k : Nat) : Int) + 2 ^ (spB 2 k)) := Lib.hid (by rw [HNX.out]; norm_cast)
      have hp := Nat.pow_le_pow_right (n := 2) (by decide) hb13
      have hpi : (2 : Int) ^ (spB 2 k) ≤ 8192 := by
        have h : ((2 ^ spB 2 k : Nat) : Int) ≤ 8192 := by omega
        simpa using h
      have hpi0 : (0 : Int) ≤ (2 : Int) ^ (spB 2 k) := Int.pow_nonneg (by decide)
      generalize spBase 1 2 k = q at *
      generalize spB 2 k = b at *
      go_wp2_with (first | (refine load_box rfl 166 4 _ rfl w.heap.size rfl #[.int .i64 0, .int .i64 30, .int .i64 1, .int .i64 2] rfl hgA _ Try.underlying166 rfl (by kernel_rfl) ?_) | (go_at_call 135; (with_reducible refine (HBK.out _).mono ?_); rintro e w4 ⟨rfl, x4, rfl⟩))
      go_roundg (30 + 1 - (k + 1))
      case measure => omega
      case rel => exact ⟨k + 1, by rw [HN1.out], by go_num, by omega, HST.out.1.up (ext_below _ x4), (HB1.out.keep HST.out.2 (by simp)).up (ext_below _ x4), (HK.out.keep HST.out.2 (.inr (by simp [Value.ownBlock]))).up (ext_below _ x4), (HBL.out.grown HST.out.2 hsz (fun q hq => by cases hq; omega)).trans ((ext_below _ x4).mono (Nat.le_trans hsz HST.out.2.size)), rfl⟩
    · obtain rfl : k = 30 := by omega
      obtain ⟨A, hgA, hsA, hA⟩ := hb2.open
      have HA := Lib.hid (congrArg List.toArray hA)
      clear hb2 hb1 hkk hbel HB2 HK hA hlt
      go_wp2_with (first | (refine load_box rfl 180 30 _ rfl (w.heap.size + 2) rfl A hsA hgA _ Try.underlying180 rfl (by kernel_rfl) ?_) | (refine store_box rfl 180 30 _ _ rfl (w.heap.size + 1) rfl O (nls (basL 1 2 30)) (congrArg Value.agg HA.out) (by rw [nls_length, basL_len]) (by kernel_rfl) HB1.out ?_; intro w4 hB4 hg4; have HB4 := Lib.hid hB4; have HG4 := Lib.hid hg4; clear hB4 hg4))
      refine ret_cell rfl rfl rfl (HB4.out.load _ Try.underlying180 rfl (by kernel_rfl)) ?_
      exact ⟨rfl, ex_ext (HBL.out.grown HG4.out hsz (fun q hq => by cases hq; omega))⟩
theorem results_tmp4 {fn : Func} {t u v x : Tmp} (h : fn.results = #[.tmp t, .tmp u, .tmp v, .tmp x]) (tmps : Array Value) (P : Program) (w : World) :
    (results fn tmps).run P w = .ok (.tuple #[tmps.getD t undef, tmps.getD u undef, tmps.getD v undef, tmps.getD x undef]) w := by
  simp [results, h]
end Go.Cm

/- The walk of the document's Split. Conditions: the text is not too long. -/
namespace Go.Cm
open Go.RowKit Go.Proofs

theorem slice_to (s : ByteArray) (k : Nat) (h : k ≤ s.size) : ∃ x : ByteArray, bys x = (bys s).take k ∧ ∀ W : World, (Instr.sliceAt 9 (.string s) none (some (.int .i64 (k : Int))) none).run Try.prog W = .ok (.string x) W := by
  refine ⟨s.extract 0 k, by rw [bys_extract]; simp, fun W => ?_⟩
  rw [run_sliceAt_string (P := Try.prog) (t := 9) (h := Try.underlying9), run_slice_string_h (P := Try.prog) (ht := Try.underlying9) (h0 := by omega) (h2 := by omega)]
  simp
theorem slice_from (s : ByteArray) (k : Nat) (h : k ≤ s.size) : ∃ x : ByteArray, bys x = (bys s).drop k ∧ ∀ W : World, (Instr.sliceAt 9 (.string s) (some (.int .i64 (k : Int))) none none).run Try.prog W = .ok (.string x) W := by
  refine ⟨s.extract k s.size, by rw [bys_extract, List.take_of_length_le (by rw [List.length_drop, bys_len]; omega)], fun W => ?_⟩
  rw [run_sliceAt_string (P := Try.prog) (t := 9) (h := Try.underlying9), run_slice_string_l (P := Try.prog) (ht := Try.underlying9) (h0 := by omega) (h1 := by omega)]
  simp
/-- ..-/
theorem txt_bys (x : ByteArray) : x = ⟨(bys x).toArray⟩ := by cases x; simp [bys]
theorem extract_from (s : ByteArray) (k : Nat) : bys (s.extract k s.size) = (bys s).drop k := by rw [bys_extract, List.take_of_length_le (by rw [List.length_drop, bys_len]; omega)]
end Go.Cm
