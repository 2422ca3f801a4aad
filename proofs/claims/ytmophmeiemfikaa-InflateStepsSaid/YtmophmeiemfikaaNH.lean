/- Texts of this claim, joined: walks of small functions and plain facts about them. Conditions: as each says. -/
import Derived.Test.YtmophmeiemfikaaNG
import Derived.Test.YtmophmeiemfikaaRows
import Derived.WalkKit
import Derived.WalkSpells
import Derived.WalkLawsBesides
import Derived.Deep.QuietTactic
import Derived.BigQuiet
import Derived.Lib.Hide
import Derived.Laws.Small
import Derived.Deep.LoopGhost
import Derived.Laws.BitsLemmas
import Derived.Deep.DeepCutAuto
import Derived.Deep.CutBlock
import Derived.Deep.CutRange
import Derived.Laws.IdiomStrings
import Derived.Laws.CopyOwn
import Derived.Laws.EntriesVeiled
import Derived.Shelf.Abstract
import Derived.WalkMore
import Derived.SizedLaws
import Derived.ProofKit
import Derived.OpenShut
import Derived.Deep.Slices
import Derived.ChangeSlices
import Derived.WideKeyArgs
import Derived.ChangeMaps5
/- From the beginning of a block on, with the text ahead of it as preset, the rest of the text is made, in plain Lean. Conditions: nothing is wrong with the whole. -/
namespace Go.Cm

attribute [local irreducible] lastN
section
variable {N T pre : Nat} {bs : Byts} {z0 : IS}
theorem codI_st {z : IS} : (codI N T z).2.st = z.st := codI_keep.1
/-- a step: no block begins, but at a head -/
theorem stI_begins {z : IS} (h : (stI N T pre bs z).1 = 0) : (z.md = 0 ∧ (stI N T pre bs z).2.st = z.st ++ [(z.p, z.h.length - pre)]) ∨ (stI N T pre bs z).2.st = z.st := by
  unfold stI at h ⊢
  by_cases h0 : z.md = 0
  · rw [if_pos h0] at h ⊢
    left
    unfold headI at h ⊢
    split
    · rename_i hc; rw [if_pos hc] at h; exact absurd h hc
    · exact ⟨h0, rfl⟩
  · rw [if_neg h0] at h ⊢
    right
    split
    · rename_i h1; exact (storI_keep h1).1
    · split
      · exact codI_st
      · rfl
theorem play_zero {k : Nat} (h : (playI N T pre bs z0 (k + 1)).1 = 0) : (playI N T pre bs z0 k).1 = 0 := by
  apply Classical.byContradiction
  intro hn
  have e := play_stop (N := N) (T := T) (pre := pre) (bs := bs) (z0 := z0) (k := k) (.inl hn) 1
  rw [e] at h
  exact hn h
theorem play_good {k : Nat} (h : (playI N T pre bs z0 (k + 1)).1 = 0) (hs : ¬ StopI (playI N T pre bs z0 k)) :
    (stI N T pre bs (playI N T pre bs z0 k).2).1 = 0 ∧ playI N T pre bs z0 (k + 1) = stI N T pre bs (playI N T pre bs z0 k).2 ∧ (stI N T pre bs (playI N T pre bs z0 k).2).2.h.length - pre ≤ 16777216 := by
  rw [play_next hs] at h ⊢
  generalize stI N T pre bs (playI N T pre bs z0 k).2 = y at *
  unfold bigI at h ⊢
  generalize (16777216 : Nat) = M at *
  by_cases h1 : y.1 ≠ 0
  · rw [if_pos h1] at h; exact absurd h h1
  · rw [if_neg h1] at h ⊢
    by_cases h2 : M < y.2.h.length - pre
    · rw [if_pos h2] at h; cases h
    · rw [if_neg h2]
      exact ⟨by simpa using h1, rfl, by omega⟩
theorem play_begins (hz : z0.st = []) : ∀ k, (playI N T pre bs z0 k).1 = 0 → ∀ i, (hi : i < (playI N T pre bs z0 k).2.st.length) → ∃ j, j < k ∧ (playI N T pre bs z0 j).1 = 0 ∧ (playI N T pre bs z0 j).2.md = 0 ∧ (playI N T pre bs z0 j).2.st.length = i ∧ (playI N T pre bs z0 k).2.st[i] = ((playI N T pre bs z0 j).2.p, (playI N T pre bs z0 j).2.h.length - pre)
  | 0, _, i, hi => by
    have hi' : i < z0.st.length := hi
    rw [hz] at hi'; exact absurd hi' (Nat.not_lt_zero _)
  | k + 1, h, i, hi => by
    have h0 := play_zero h
    have ih := play_begins hz k h0
    by_cases hs : StopI (playI N T pre bs z0 k)
    · have e := play_stop hs 1
      simp only [e] at hi ⊢
      obtain ⟨j, a, b⟩ := ih i hi
      exact ⟨j, by omega, b⟩
    · obtain ⟨e1, e2, -⟩ := play_good h hs
      simp only [e2] at hi ⊢
      rcases stI_begins e1 with ⟨m0, e3⟩ | e3
      · by_cases hlt : i < (playI N T pre bs z0 k).2.st.length
        · obtain ⟨j, a, b, c, d, e⟩ := ih i hlt
          refine ⟨j, by omega, b, c, d, ?_⟩
          rw [← e]
          simp only [e3]
          rw [List.getElem_append_left hlt]
        · have hil : i = (playI N T pre bs z0 k).2.st.length := by
            rw [e3, List.length_append, List.length_singleton] at hi; omega
          refine ⟨k, by omega, h0, m0, hil.symm, ?_⟩
          simp only [e3]
          rw [List.getElem_append_right (by omega)]
          simp
      · simp only [e3] at hi ⊢
        obtain ⟨j, a, b⟩ := ih i hi
        exact ⟨j, by omega, b⟩
end
/-- two machines at one place, of which one has more behind it -/
structure Sim (H H' : Byts) (i : Nat) (z z' : IS) : Prop where
  md : z'.md = z.md
  p : z'.p = z.p
  fin : z.md ≠ 0 → z'.fin = z.fin
  left : z.md ≠ 0 → z'.left = z.left
  li : z.md ≠ 0 → z'.li = z.li
  di : z.md ≠ 0 → z'.di = z.di
  h : ∃ c, z.h = H ++ c ∧ z'.h = H' ++ c
  st : z.st.length = i + z'.st.length
section
variable {N T pre pre' : Nat} {bs H H' : Byts} {i : Nat} {z z' : IS}
theorem Sim.close (hs : Sim H H' i z z') (h0 : z.md ≠ 0) (q : Nat) : Sim H H' i (closeI { z with p := q }) (closeI { z' with p := q }) := by
  have e := hs.fin h0
  exact ⟨by show (if z'.fin then 3 else 0) = if z.fin then 3 else 0; rw [e], rfl, fun _ => e, fun _ => hs.left h0, fun _ => hs.li h0, fun _ => hs.di h0, hs.h, hs.st⟩
theorem Sim.next (hs : Sim H H' i z z') (h0 : z.md ≠ 0) (q l : Nat) (c : Byts) : Sim H H' i { z with left := l, p := q, h := z.h ++ c } { z' with left := l, p := q, h := z'.h ++ c } := by
  obtain ⟨d, e1, e2⟩ := hs.h
  exact ⟨hs.md, rfl, fun _ => hs.fin h0, fun _ => rfl, fun _ => hs.li h0, fun _ => hs.di h0, ⟨d ++ c, by rw [e1, List.append_assoc], by rw [e2, List.append_assoc]⟩, hs.st⟩
theorem Sim.cpy (hH : lastN H = lastN H') (hs : Sim H H' i z z') (h0 : z.md ≠ 0) {s p : Nat} (he : (cpyI N T z s p).1 = 0) : (cpyI N T z' s p).1 = 0 ∧ Sim H H' i (cpyI N T z s p).2 (cpyI N T z' s p).2 := by
  obtain ⟨c, e1, e2⟩ := hs.h
  have hl : lastN z.h = lastN z'.h := by rw [e1, e2]; exact lastN_app2 hH c
  have hm := lastN_min hl
  unfold cpyI at he ⊢
  by_cases h1 : (numB N T p (lenB s)).2.1 ≠ 0
  · rw [if_pos h1] at he; exact absurd he h1
  rw [if_neg h1] at he ⊢
  rw [if_neg h1]
  generalize (numB N T p (lenB s)).1 = n at *
  generalize (numB N T p (lenB s)).2.2 = q at *
  unfold cpyI2 at he ⊢
  rw [hs.di h0]
  by_cases h2 : (readF z.di (N / 2 ^ q) (T - q)).2.1 ≠ 0
  · rw [if_pos h2] at he; exact absurd he h2
  rw [if_neg h2] at he ⊢
  rw [if_neg h2]
  have hd := fun e => (numB_ok (N := N) (T := T) (p := q + (readF z.di (N / 2 ^ q) (T - q)).2.2) (y := dstB (readF z.di (N / 2 ^ q) (T - q)).1) e)
  have hd2 := dstB_le (s := (readF z.di (N / 2 ^ q) (T - q)).1)
  generalize numB N T (q + (readF z.di (N / 2 ^ q) (T - q)).2.2) (dstB (readF z.di (N / 2 ^ q) (T - q)).1) = y at *
  unfold cpyI3 at he ⊢
  by_cases h3 : y.2.1 ≠ 0
  · rw [if_pos h3] at he; exact absurd he h3
  rw [if_neg h3] at he ⊢
  rw [if_neg h3]
  rw [← hm]
  by_cases h4 : min z.h.length 32768 < y.1
  · rw [if_pos h4] at he; cases he
  rw [if_neg h4] at he ⊢
  rw [if_neg h4]
  obtain ⟨k1, -, -, k2⟩ := hd (by simpa using h3)
  obtain ⟨k3, -, -⟩ := hd2 k1
  obtain ⟨d, f1, f2, -⟩ := copy_same (b := z.h) (H := z'.h) (d := y.1) hl (by omega) (by omega) (by omega) n
  refine ⟨rfl, ?_⟩
  simp only [f1, f2]
  have := hs.next h0 y.2.2 z.left d
  have e3 := hs.left h0
  exact ⟨this.md, this.p, fun _ => hs.fin h0, fun _ => e3, fun _ => hs.li h0, fun _ => hs.di h0, this.h, hs.st⟩
theorem Sim.step (hH : lastN H = lastN H') (hs : Sim H H' i z z') (he : (stI N T pre bs z).1 = 0) : (stI N T pre' bs z').1 = 0 ∧ Sim H H' i (stI N T pre bs z).2 (stI N T pre' bs z').2 := by
  unfold stI at he ⊢
  rw [hs.md]
  by_cases h0 : z.md = 0
  · rw [if_pos h0] at he ⊢
    rw [if_pos h0]
    unfold headI at he ⊢
    rw [hs.p]
    by_cases h1 : (headF N T z.p).2.1 ≠ 0
    · rw [if_pos h1] at he; exact absurd he h1
    rw [if_neg h1]
    rw [if_neg h1]
    exact ⟨rfl, rfl, rfl, fun _ => rfl, fun _ => rfl, fun _ => rfl, fun _ => rfl, hs.h, by simp only [List.length_append, List.length_singleton]; have := hs.st; omega⟩
  rw [if_neg h0] at he ⊢
  rw [if_neg h0]
  by_cases h1 : z.md = 1
  · rw [if_pos h1] at he ⊢
    rw [if_pos h1]
    unfold storI at he ⊢
    rw [hs.left h0, hs.p]
    by_cases h2 : z.left = 0
    · rw [if_pos h2]
      rw [if_pos h2]
      have := hs.close h0 z.p
      have e : ({ z' with p := z.p } : IS) = z' := by rw [← hs.p]
      rw [e] at this
      exact ⟨rfl, this⟩
    rw [if_neg h2] at he ⊢
    rw [if_neg h2]
    by_cases h3 : min z.left ((T - z.p) / 8) = 0
    · rw [if_pos h3] at he; cases he
    rw [if_neg h3]
    rw [if_neg h3]
    exact ⟨rfl, hs.next h0 _ _ _⟩
  rw [if_neg h1] at he ⊢
  rw [if_neg h1]
  by_cases h2 : z.md = 2
  · rw [if_pos h2] at he ⊢
    rw [if_pos h2]
    unfold codI at he ⊢
    rw [hs.li h0, hs.p]
    generalize readF z.li (N / 2 ^ z.p) (T - z.p) = r at *
    unfold codI2 at he ⊢
    rw [hs.p]
    by_cases h3 : r.2.1 ≠ 0
    · rw [if_pos h3] at he; exact absurd he h3
    rw [if_neg h3] at he ⊢
    rw [if_neg h3]
    by_cases h4 : r.1 = 256
    · rw [if_pos h4]
      rw [if_pos h4]
      exact ⟨rfl, hs.close h0 _⟩
    rw [if_neg h4] at he ⊢
    rw [if_neg h4]
    by_cases h5 : 256 < r.1
    · rw [if_pos h5] at he ⊢
      rw [if_pos h5]
      exact hs.cpy hH h0 he
    rw [if_neg h5]
    rw [if_neg h5]
    have := hs.next h0 (z.p + r.2.2) z.left [UInt8.ofNat r.1]
    have e : ({ z' with left := z.left, p := z.p + r.2.2, h := z'.h ++ [UInt8.ofNat r.1] } : IS) = { z' with p := z.p + r.2.2, h := z'.h ++ [UInt8.ofNat r.1] } := by rw [← hs.left h0]
    rw [e] at this
    exact ⟨rfl, this⟩
  · rw [if_neg h2]
    rw [if_neg h2]
    exact ⟨rfl, hs⟩
end
theorem play_sim {N T pre pre' k : Nat} {bs H H' : Byts} {i : Nat} {z0 z0' : IS} (hH : lastN H = lastN H') (hp : pre ≤ H.length) (hp' : H'.length ≤ pre') (hs : Sim H H' i (playI N T pre bs z0 k).2 z0') :
    ∀ m, (playI N T pre bs z0 (k + m)).1 = 0 → (playI N T pre' bs z0' m).1 = 0 ∧ Sim H H' i (playI N T pre bs z0 (k + m)).2 (playI N T pre' bs z0' m).2
  | 0, _ => ⟨rfl, hs⟩
  | m + 1, h => by
    have h' : (playI N T pre bs z0 ((k + m) + 1)).1 = 0 := h
    have h0 := play_zero h'
    obtain ⟨i1, i2⟩ := play_sim hH hp hp' hs m h0
    by_cases hst : StopI (playI N T pre bs z0 (k + m))
    · have e := play_stop hst 1
      have hst' : StopI (playI N T pre' bs z0' m) := .inr (by rw [i2.md]; exact hst.resolve_left (fun e => e h0))
      have e' := play_stop hst' 1
      rw [e']
      show _ ∧ Sim H H' i (playI N T pre bs z0 ((k + m) + 1)).2 _
      rw [e]
      exact ⟨i1, i2⟩
    · have hst' : ¬ StopI (playI N T pre' bs z0' m) := fun e => e.elim (fun e => e i1) (fun e => hst (.inr (by rw [← i2.md]; exact e)))
      obtain ⟨e1, e2, e3⟩ := play_good h' hst
      obtain ⟨j1, j2⟩ := i2.step (pre' := pre') hH e1
      show _ ∧ Sim H H' i (playI N T pre bs z0 ((k + m) + 1)).2 _
      rw [e2]
      have e4 : playI N T pre' bs z0' (m + 1) = stI N T pre' bs (playI N T pre' bs z0' m).2 := by
        rw [play_next hst']
        obtain ⟨c, c1, c2⟩ := j2.h
        generalize stI N T pre' bs (playI N T pre' bs z0' m).2 = y' at *
        generalize stI N T pre bs (playI N T pre bs z0 (k + m)).2 = y at *
        unfold bigI
        generalize (16777216 : Nat) = M at *
        rw [if_neg (by rw [j1]; exact fun h => h rfl), if_neg]
        rw [c2, List.length_append]
        rw [c1, List.length_append] at e3
        omega
      rw [e4]
      exact ⟨j1, j2⟩
/-- the law of a block's beginning -/
theorem from_law {s : ByteArray} {t : Byts} (hE : erI s t 0 = 0) {i : Nat} (hi : i < (bgI s t 0).length) :
    (bgI s t 0)[i].1 ≤ 8 * s.size ∧ (bgI s t 0)[i].2 ≤ (txI s t 0).length ∧ erI s (t ++ (txI s t 0).take (bgI s t 0)[i].2) (bgI s t 0)[i].1 = 0 ∧
    txI s (t ++ (txI s t 0).take (bgI s t 0)[i].2) (bgI s t 0)[i].1 = (txI s t 0).drop (bgI s t 0)[i].2 ∧ enI s (t ++ (txI s t 0).take (bgI s t 0)[i].2) (bgI s t 0)[i].1 = enI s t 0 ∧
    (bgI s t (0 : Nat)).length = i + (bgI s (t ++ (txI s t 0).take (bgI s t 0)[i].2) (bgI s t 0)[i].1).length := by
  have h8 := t8 s
  have hok : IOk (8 * s.size) (lastN t).length (zNew t 0) := zNew_ok (Nat.zero_le _)
  obtain ⟨K, hK⟩ : ∃ K, K = 2 * (8 * s.size) + 2 := ⟨_, rfl⟩
  have hfin : finS s (lastN t).length (zNew t 0) = playI (numS s) (8 * s.size) (lastN t).length (bys s) (zNew t 0) K := by rw [hK]; rfl
  have hstop := fin_stop (N := numS s) (bs := bys s) h8 hok
  change StopI (finS s (lastN t).length (zNew t 0)) at hstop
  unfold erI at hE
  have hbg : bgI s t 0 = (playI (numS s) (8 * s.size) (lastN t).length (bys s) (zNew t 0) K).2.st := by unfold bgI; rw [hfin]
  have htx : txI s t 0 = (playI (numS s) (8 * s.size) (lastN t).length (bys s) (zNew t 0) K).2.h.drop (lastN t).length := by unfold txI textS; rw [hfin]
  have hen : enI s t 0 = (playI (numS s) (8 * s.size) (lastN t).length (bys s) (zNew t 0) K).2.p := by unfold enI; rw [hfin]
  rw [hfin] at hE hstop
  clear hfin
  have hmd := hstop.resolve_left (fun e => e hE)
  rw [hbg] at hi
  obtain ⟨j, hjk, hj0, hjm, hjl, hje⟩ := play_begins (z0 := zNew t 0) rfl K hE i hi
  obtain ⟨c, hc⟩ := play_app (N := numS s) (bs := bys s) h8 hok j (K - j)
  rw [show j + (K - j) = K by omega] at hc
  obtain ⟨⟨q1, -⟩, q3, -⟩ := play_keep (N := numS s) (bs := bys s) h8 hok j
  have hpj := (q3 hj0).1.p
  have hgi : (bgI s t 0)[i]'(by rw [hbg]; exact hi) = ((playI (numS s) (8 * s.size) (lastN t).length (bys s) (zNew t 0) j).2.p, (playI (numS s) (8 * s.size) (lastN t).length (bys s) (zNew t 0) j).2.h.length - (lastN t).length) := by
    rw [← hje]; congr 1
  rw [hgi]
  obtain ⟨b, hb⟩ := play_app (N := numS s) (bs := bys s) h8 hok 0 j
  rw [Nat.zero_add] at hb
  have hb' : (playI (numS s) (8 * s.size) (lastN t).length (bys s) (zNew t 0) j).2.h = lastN t ++ b := hb
  have htb : txI s t 0 = b ++ c := by rw [htx, hc, hb', List.append_assoc, List.drop_left]
  have hbl : (playI (numS s) (8 * s.size) (lastN t).length (bys s) (zNew t 0) j).2.h.length - (lastN t).length = b.length := by rw [hb', List.length_append]; omega
  simp only [hbl]
  have htk : (txI s t 0).take b.length = b := by rw [htb, List.take_left]
  have htd : (txI s t 0).drop b.length = c := by rw [htb, List.drop_left]
  rw [htk, htd]
  obtain ⟨z, hz⟩ : ∃ z, z = (playI (numS s) (8 * s.size) (lastN t).length (bys s) (zNew t 0) j).2 := ⟨_, rfl⟩
  rw [← hz] at hjm hjl hpj hb' ⊢
  have hH : lastN (lastN t ++ b) = lastN (lastN (t ++ b)) := by rw [lastN_idem, ← lastN_app]
  have hsim : Sim (lastN t ++ b) (lastN (t ++ b)) i z (zNew (t ++ b) z.p) :=
    ⟨hjm.symm, rfl, fun e => absurd hjm e, fun e => absurd hjm e, fun e => absurd hjm e, fun e => absurd hjm e, ⟨[], by rw [hb', List.append_nil], by rw [List.append_nil]; rfl⟩, hjl⟩
  have hsim' := hsim
  rw [hz] at hsim'
  obtain ⟨r1, r2⟩ := play_sim (pre' := (lastN (t ++ b)).length) hH (by rw [List.length_append]; omega) (Nat.le_refl _) hsim' (K - j) (by rw [show j + (K - j) = K by omega]; exact hE)
  rw [show j + (K - j) = K by omega] at r2
  rw [← hz] at r1 r2
  have hf' : finS s (lastN (t ++ b)).length (zNew (t ++ b) z.p) = playI (numS s) (8 * s.size) (lastN (t ++ b)).length (bys s) (zNew (t ++ b) z.p) (K - j) := fin_of h8 (zNew_ok hpj) (.inr (by rw [r2.md]; exact hmd))
  obtain ⟨d, d1, d2⟩ := r2.h
  rw [hc, ← hz, hb'] at d1
  have hcd : c = d := List.append_cancel_left d1
  refine ⟨hpj, by rw [htb, List.length_append]; omega, ?_, ?_, ?_, ?_⟩
  · unfold erI; rw [hf']; exact r1
  · unfold txI textS; rw [hf', d2, List.drop_left, hcd]
  · unfold enI; rw [hf', r2.p]; exact hen.symm
  · rw [hbg, r2.st]; unfold bgI; rw [hf']
end Go.Cm

/- The walk of the law of a block's beginning. Conditions: the number is a byte. -/
namespace Go.Cm
open Go.RowKit Go.Proofs

attribute [local irreducible] lastN
theorem bys_app3 (a b : ByteArray) : bys (a ++ b) = bys a ++ bys b := by
  cases a; cases b; simp [bys]
/-- a machine that is done began a block -/
theorem play_some {N T pre : Nat} {bs : Byts} {z0 : IS} (h0 : z0.md = 0) : ∀ k, (playI N T pre bs z0 k).1 = 0 → (playI N T pre bs z0 k).2.md = 0 ∨ (playI N T pre bs z0 k).2.st ≠ []
  | 0, _ => .inl h0
  | k + 1, h => by
    have hz := play_zero h
    have ih := play_some (N := N) (T := T) (pre := pre) (bs := bs) h0 k hz
    by_cases hs : StopI (playI N T pre bs z0 k)
    · rw [play_stop hs 1]; exact ih
    · obtain ⟨e1, e2, -⟩ := play_good h hs
      rw [e2]
      rcases stI_begins e1 with ⟨-, e3⟩ | e3
      · right; rw [e3]; simp
      · rcases ih with h1 | h1
        · right
          unfold stI at e1 ⊢
          rw [if_pos h1] at e1 ⊢
          unfold headI at e1 ⊢
          split
          · rename_i hc; rw [if_pos hc] at e1; exact absurd e1 hc
          · simp
        · right; rw [e3]; exact h1
theorem bgI_ne {s : ByteArray} {t : Byts} (hE : erI s t 0 = 0) : bgI s t 0 ≠ [] := by
  have hok : IOk (8 * s.size) (lastN t).length (zNew t 0) := zNew_ok (Nat.zero_le _)
  have hst := fin_stop (N := numS s) (bs := bys s) (t8 s) hok
  unfold erI at hE
  have h1 : (finI (numS s) (8 * s.size) (lastN t).length (bys s) (zNew t 0)).1 = 0 := hE
  have hmd := hst.resolve_left (fun e => e h1)
  rcases play_some (N := numS s) (T := 8 * s.size) (pre := (lastN t).length) (bs := bys s) (z0 := zNew t 0) rfl _ h1 with h | h
  · exact absurd (hmd.symm.trans h) (by decide)
  · exact h
theorem bgI_len (s : ByteArray) (t : Byts) (p : Nat) : (bgI s t p).length ≤ 16 * s.size + 2 := by
  have h := playS_st (s := s) (pre := (lastN t).length) (z0 := zNew t p) rfl (2 * (8 * s.size) + 2)
  have e : (bgI s t p).length = (playS s (lastN t).length (zNew t p) (2 * (8 * s.size) + 2)).2.st.length := rfl
  omega
set_option maxRecDepth 100000 in
set_option maxHeartbeats 4000000 in
theorem fromI (s p : ByteArray) (k : Nat) (hk : k < 256) (w : World) : Calls Try.prog 7 #[.string s, .string p, .int .u8 k] w fun e w' => e = .returned (.bool true) ∧ Below w.heap.size w w' := by
  have HK := Lib.hid knownI
  have HSM := Lib.hid (smallI s p w)
  by_cases hsm : (s.size ≤ 600 ∧ p.size ≤ 40000)
  · rw [decide_eq_true hsm] at HSM
    obtain ⟨hs, hps⟩ := hsm
    have HA : Hid (∀ W, Calls Try.prog 28 #[.string s, .int .i64 0, .string p] W (RetAll s (bys p) 0 W)) := Lib.hid (fun W => allI s p 0 (by omega) (Nat.zero_le _) (by omega) W)
    have HLW := Lib.hid (fun h => @from_law s (bys p) h)
    have HNE := Lib.hid (fun h => @bgI_ne s (bys p) h)
    have HLL := Lib.hid (bgI_len s (bys p) 0)
    have HBG := Lib.hid (txI_big (s := s) (t := bys p) (p := 0) (Nat.zero_le _))
    have HB : Hid (∀ (q : Nat) (t : ByteArray) W, q ≤ 8 * s.size → t.size ≤ 50000000 → Calls Try.prog 28 #[.string s, .int .i64 q, .string t] W (RetAll s (bys t) q W)) := Lib.hid (fun q t W h1 h2 => allI s t q (by omega) h1 h2 W)
    unfold RetAll at HA
    obtain ⟨F, hF⟩ : ∃ F, F = txI s (bys p) 0 := ⟨_, rfl⟩
    obtain ⟨E, hE⟩ : ∃ E, E = erI s (bys p) 0 := ⟨_, rfl⟩
    obtain ⟨Q, hQ⟩ : ∃ Q, Q = enI s (bys p) 0 := ⟨_, rfl⟩
    obtain ⟨L, hL⟩ : ∃ L, L = bgI s (bys p) 0 := ⟨_, rfl⟩
    rw [← hF] at HA HLW HBG
    rw [← hE] at HA HLW HNE
    rw [← hQ] at HA HLW
    rw [← hL] at HA HLW HNE HLL
    clear hF hE hQ hL
    go_enter Try.func7, Try.ntmps7
    go_upto_region 4 with (first
      | ((with_reducible go_at_call 26); (with_reducible refine HSM.out.mono ?_); rintro e w' ⟨rfl, hw⟩; rw [hw]; clear hw)
      | ((with_reducible go_at_call 28); (with_reducible refine (HA.out _).mono ?_); rintro e w1 ⟨c1, v1, q1, rfl, hb, h1, h2⟩; have HB1 := Lib.hid hb; have H1 := Lib.hid h1; clear hb h1 h2))
    by_cases hE : E = 0
    · subst hE
      obtain ⟨hc1, hsl, hq1⟩ := H1.out rfl
      subst hq1
      have hne := HNE.out rfl
      have hl0 : 0 < L.length := List.length_pos_iff.2 hne
      have hll := HLL.out
      obtain ⟨i, hi⟩ : ∃ i, i = k % L.length := ⟨_, rfl⟩
      have hil : i < L.length := by rw [hi]; exact Nat.mod_lt _ hl0
      obtain ⟨f1, f2, f3, f4, f5, f6⟩ := HLW.out rfl hil
      obtain ⟨X, hX⟩ : ∃ X, X = L[i] := ⟨_, rfl⟩
      rw [← hX] at f1 f2 f3 f4 f5 f6
      obtain ⟨xb, xo⟩ := X
      simp only at f1 f2 f3 f4 f5 f6
      have hrem : ((k : Int)).tmod ((L.length : Nat) : Int) = (i : Nat) := by rw [hi]; rfl
      obtain ⟨oa, cap, bl, off, hv1, hd, hc⟩ := hsl
      rw [List.length_map] at hv1 hd hc
      subst hv1
      have hix := index_anyK (P := Try.prog) 2 45 59 Try.underlying45 (by kernel_rfl) hd
      have hbl := hd.hblk (by omega)
      have hm := hd.len
      have hcell : ∀ c, c < 2 → w1.cell? ⟨bl, off + i * 2 + c, none⟩ = some (([.int .i64 xb, .int .i64 xo] : List Value).getD c undef) := fun c hcc => by
        rw [hc i (by omega) c hcc]
        have : (L.map stC).getD i [] = [.int .i64 xb, .int .i64 xo] := by simp [List.getD, hil, ← hX, stC]
        rw [this]
      have e0 : w1.cell? ⟨bl, off + i * 2, none⟩ = some (.int .i64 xb) := hcell 0 (by decide)
      have e1 : w1.cell? ⟨bl, off + i * 2 + 1, none⟩ = some (.int .i64 xo) := hcell 1 (by decide)
      have hix2 := fun W kd => hix W kd (i : Int) (by omega) (by omega)
      simp only [Int.toNat_natCast] at hix2
      have HQ3 := Lib.hid f3
      have HQ4 := Lib.hid f4
      have HQ5 := Lib.hid f5
      have HQ6 := Lib.hid f6
      have hc1s : c1.size = F.length := by rw [← hc1, bys_len]
      have hxo : xo ≤ c1.size := by omega
      obtain ⟨ca, hca, hsa⟩ := slice_to c1 xo hxo
      obtain ⟨cb, hcb, hsb⟩ := slice_from c1 xo hxo
      have hpre : bys (p ++ ca) = bys p ++ F.take xo := by rw [bys_app3, hca, hc1]
      have hps2 : (p ++ ca).size ≤ 50000000 := by
        rw [← bys_len, hpre, List.length_append, List.length_take, bys_len]
        have := HBG.out
        omega
      have HA2 : Hid (∀ W, Calls Try.prog 28 #[.string s, .int .i64 xb, .string (p ++ ca)] W (RetAll s (bys (p ++ ca)) xb W)) := Lib.hid (fun W => HB.out xb (p ++ ca) W f1 hps2)
      rw [hpre] at HA2
      unfold RetAll at HA2
      rw [f3, f4, f5] at HA2
      have hxb : xb ≤ 4800 := by omega
      have hl1 : ((L.length : Int) == 0) = false := by
        rw [beq_eq_false_iff_ne]; omega
      have hcas : ca.size ≤ 16777216 := by
        rw [← bys_len, hca, List.length_take, bys_len]
        have := HBG.out
        omega
      have HC1 := Lib.hid hc1
      have HCA := Lib.hid hsa
      have HCB := Lib.hid hsb
      have HIL : Hid (i < L.length ∧ i = k % L.length) := Lib.hid ⟨hil, hi⟩
      have HCB2 : Hid (bys cb = F.drop xo) := Lib.hid (by rw [hcb, hc1])
      have hxo2 : decide (((xo : Nat) : Int) < 0) = false := decide_eq_false (by omega)
      have hxo3 : decide (((xo : Nat) : Int) > (c1.size : Nat)) = false := decide_eq_false (by omega)
      clear hc1 hne hi f1 f2 f3 f4 f5 f6 hX hd hc hix hcell hca hcb hsa hsb hpre hps2 hc1s
      go_upto_region 7 with (fail)
      obtain ⟨w2, hw2⟩ : ∃ w2, w2 = w1.alloc (.cells #[.int .i64 (xb : Nat), .int .i64 (xo : Nat)] 59) := ⟨_, rfl⟩
      obtain ⟨g, hg⟩ : ∃ g, g = w1.heap.size := ⟨_, rfl⟩
      have HB2 : Hid (Below w.heap.size w w2) := Lib.hid (by rw [hw2]; exact HB1.out.alloc HB1.out.size _)
      have g0 : w2.cell? ⟨g, 0, none⟩ = some (.int .i64 (xb : Nat)) := by rw [hw2, hg, World.cell?_alloc_new]; rfl
      have g1 : w2.cell? ⟨g, 1, none⟩ = some (.int .i64 (xo : Nat)) := by rw [hw2, hg, World.cell?_alloc_new]; rfl
      have hgl : g < w2.heap.size := by rw [hw2, hg]; simp
      rw [← hw2, ← hg]
      clear hw2 hg e0 e1 hbl
      go_upto_region 9 with (fail)
      refine wp_region_phases (fun w' => ∃ x, w' = ext w2 x) [([0,1,2,3,4,5,6,7],[8,9]), ([10,11,12,13,14,15,16,17,18],[])] (by kernel_rfl) (by kernel_rfl) (ex_ext (b_drew1 (Below.refl _ _))) ?_
      (unfold wpPhases; simp only [pick, List.map_cons, List.map_nil, List.getD_cons_zero, List.getD_cons_succ])
      (repeat (first
        | (go_big_quiet_want; (with_reducible show Oper.quiet _ (Oper.mk _ (.slice _ _ _ _ _) _ _ _ _) _ _ _); refine quiet_slice 9 (.tmp 64) none (some (.tmp 66)) none rfl (.string ca) (fun w' _ => HCA.out w') ?_; go_simp; go_big_quiet_on)
        | go_big_quiet_step (fail)))
      refine wpQuiet_nil ?_
      have HB3 : Hid (Below w2.heap.size w2 w2.drew) := Lib.hid (b_drew1 (Below.refl _ _))
      generalize w2.drew = w3 at *
      (unfold wpAct; go_wp2; refine ⟨ex_ext HB3.out, ?_⟩)
      unfold wpAct
      go_wp2_with (fail)
      (with_reducible refine (HA2.out _).mono ?_)
      rintro e w4 ⟨c2, v2, q2, rfl, hb, h1, h2⟩
      have HB4 : Hid (Below w2.heap.size w2 w4) := Lib.hid (HB3.out.trans (hb.mono HB3.out.size))
      have H2 := Lib.hid (h1 trivial)
      clear hb h1 h2
      go_wp2
      refine ⟨ex_ext HB4.out, ?_⟩
      unfold wpAct
      (unfold wpPhases; simp only [pick, List.map_cons, List.map_nil, List.getD_cons_zero, List.getD_cons_succ])
      repeat (go_big_quiet_step (fail))
      refine wpQuiet_nil ?_
      unfold wpAct
      unfold wpPhases
      intro hz hz2; clear hz2 hz
      obtain ⟨hc2, hs2, hq2⟩ := H2.out
      subst hq2
      obtain ⟨oa2, cap2, bl2, off2, hv2, hd2, -⟩ := hs2
      rw [List.length_map] at hv2 hd2
      subst hv2
      have k1 : w4.cell? ⟨g, 1, none⟩ = some (.int .i64 (xo : Nat)) := by rw [HB4.out.cell (p := ⟨g, 1, none⟩) hgl]; exact g1
      have h24 := HB4.out.size
      have hg4 : g < w4.heap.size := Nat.lt_of_lt_of_le hgl h24
      have hceq : c2.toList = (c1.extract xo c1.size).toList := by
        rw [show c2 = c1.extract xo c1.size from bys_inj (by rw [hc2, extract_from, HC1.out])]
      obtain ⟨n2, hn2⟩ : ∃ n2, n2 = (bgI s (bys p ++ List.take xo F) xb).length := ⟨_, rfl⟩
      have hleq : (n2 : Int) = (L.length : Nat) - (i : Nat) := by
        have := HQ6.out
        rw [hn2]; omega
      rw [← hn2]
      clear hn2 hc2 hd2
      go_wp2_with ((with_reducible go_at_call 27); (with_reducible refine (HK.out _).mono ?_); rintro e w' ⟨rfl, hb⟩; have HB5 := Lib.hid hb; clear hb)
      go_ret
      exact ⟨rfl, (HB2.out.trans (HB4.out.mono HB2.out.size)).trans (HB5.out.mono (Nat.le_trans HB2.out.size HB4.out.size))⟩
    · have hE' : ((E : Int) == 0) = false := by simpa using hE
      go_wp2_with ((with_reducible go_at_call 27); (with_reducible refine (HK.out _).mono ?_); rintro e w' ⟨rfl, hb⟩; have HB2 := Lib.hid hb; clear hb)
      go_ret
      exact ⟨by simp [hE], HB1.out.trans (HB2.out.mono HB1.out.size)⟩
  · rw [decide_eq_false hsm] at HSM
    go_enter Try.func7, Try.ntmps7
    go_wp2_with (first | ((with_reducible go_at_call 26); (with_reducible refine HSM.out.mono ?_); rintro e w' ⟨rfl, hw⟩; rw [hw]; clear hw) | ((with_reducible go_at_call 27); (with_reducible refine (HK.out _).mono ?_); rintro e w' ⟨rfl, hb⟩; have HB2 := Lib.hid hb; clear hb))
    go_ret
    exact ⟨rfl, HB2.out⟩
end Go.Cm

/- The walks of what tells whether ops, and parts, are alike. Conditions: both read as the same list. -/
namespace Go.Cm
open Go.RowKit Go.Proofs

theorem part_i64 (W : World) (A : Array Value) (o : Nat) (v : Int) (h : A[o]? = some (.int .i64 v)) : (part 3 A o).run Try.prog W = .ok (.int .i64 v) W := by
  unfold part
  have h1 : (isAgg 3).run Try.prog W = .ok false W := by unfold isAgg; rw [Sem.run_bind, run_underlying Try.underlying3]; rfl
  rw [Sem.run_bind, h1]
  simp only [Result.andThen_ok, h]; rfl
end Go.Cm

/- The walks of what turns beginnings to the document's make, and of what tells whether they are alike. Conditions: the lists read as one. -/
namespace Go.Cm
open Go.RowKit Go.Proofs

set_option maxRecDepth 100000 in
set_option maxHeartbeats 1000000 in
/-- beginnings, as the document has them -/
theorem startsLn {w : World} {v : Value} {l : List (Nat × Nat)} (h : SlK 2 w v (l.map stC)) (hlen : l.length ≤ 100000000) : Calls Try.prog 34 #[v] w fun e w' => ∃ v', e = .returned v' ∧ OwnK 2 w' w.heap.size 106 v' (l.map stC) ∧ Below w.heap.size w w' := by
  obtain ⟨cs, hcs⟩ : ∃ cs, cs = l.map stC := ⟨_, rfl⟩
  have hrw0 : ∀ i (hi : i < cs.length), ∃ a b : Nat, cs[i] = [.int .i64 a, .int .i64 b] := fun i hi => by
    subst hcs
    rw [List.getElem_map]
    exact ⟨_, _, rfl⟩
  have hlen' : cs.length ≤ 100000000 := by rw [hcs, List.length_map]; exact hlen
  rw [← hcs] at h ⊢
  clear hcs hlen
  obtain ⟨oa, cap, bl, off, rfl, hd, hc⟩ := h
  have hix := index_anyK (P := Try.prog) 2 45 59 Try.underlying45 (by kernel_rfl) hd
  have HC := Lib.hid hc
  have HBL := Lib.hid hd.hblk
  have hm := hd.len
  have HCS := Lib.hid hrw0
  clear hd hc hrw0
  go_enter Try.func34, Try.ntmps34
  go_wp2
  go_loopg [3, 4] (cs.length + 1) (fun gk vo iv wr => ∃ k : Nat, iv = .int .i64 k ∧ k ≤ cs.length ∧ OwnK 2 wr w.heap.size 106 vo (cs.take k) ∧ Below w.heap.size w wr ∧ gk = cs.length + 1 - k)
  case atStart => exact ⟨0, rfl, Nat.zero_le _, OwnK.nil _ _ _ _, Below.refl _ _, rfl⟩
  case round =>
    obtain ⟨k, rfl, hk, hown, hbel, rfl⟩ := hrel
    have HO := Lib.hid hown
    have HW := Lib.hid hbel
    have hsz := hbel.size
    clear hown hbel
    by_cases hlt : k < cs.length
    · have hlti : decide (k < cs.length) = true := by rw [decide_eq_true_iff]; omega
      have hbl := HBL.out (by omega)
      have hblr : bl < wr.heap.size := by omega
      obtain ⟨p, q, hrow⟩ := HCS.out k hlt
      have hix2 := fun W kd => hix W kd (k : Int) (by omega) (by omega)
      simp only [Int.toNat_natCast] at hix2
      have hgd : cs.getD k [] = [.int .i64 p, .int .i64 q] := by
        rw [← hrow]; simp [List.getD, hlt]
      have hcell : ∀ c, c < 2 → wr.cell? ⟨bl, off + k * 2 + c, none⟩ = some (([.int .i64 p, .int .i64 q] : List Value).getD c undef) := fun c hc => by
        rw [HW.out.cell (p := ⟨bl, off + k * 2 + c, none⟩) hbl, HC.out k hlt c hc, hgd]
      have e0 : wr.cell? ⟨bl, off + k * 2, none⟩ = some (.int .i64 p) := hcell 0 (by decide)
      have e1 : wr.cell? ⟨bl, off + k * 2 + 1, none⟩ = some (.int .i64 q) := hcell 1 (by decide)
      have HTK : Hid (cs.take (k + 1) = cs.take k ++ [[.int .i64 p, .int .i64 q]]) := Lib.hid (by rw [List.take_succ_eq_append_getElem hlt, hrow])
      obtain ⟨row, hrw⟩ : ∃ row, row = u3.ownBlock := ⟨_, rfl⟩
      have HROW := Lib.hid hrw
      have hne : some bl ≠ row := fun e => by have := (HO.out.lt bl (by rw [← hrw, ← e])).1; omega
      have hw0 : w.heap.size ≤ wr.drew.heap.size := hsz
      have HT4 : Hid (w.heap.size ≤ (wr.drew.alloc (.cells #[.int .i64 p, .int .i64 q] 106)).heap.size) := Lib.hid (Nat.le_trans hw0 (below_alloc wr.drew _).size)
      have HTO := Lib.hid ((HO.out.up (b_drew1 (Below.refl _ _))).up (below_alloc wr.drew (.cells #[.int .i64 p, .int .i64 q] 106)))
      have hsl := slK_lit 2 wr.drew #[.int .i64 p, .int .i64 q] 106 [[.int .i64 p, .int .i64 q]] rfl (by intro x hx; simp at hx; subst hx; rfl) (by simp)
      have HSL : Hid (SlK 2 (wr.drew.alloc (.cells #[.int .i64 p, .int .i64 q] 106)) (.slice (some ⟨wr.heap.size, 0, none⟩) 1 1) [[.int .i64 p, .int .i64 q]]) := Lib.hid (by simpa using hsl)
      have HK5 : Hid (∀ x ∈ [[Value.int .i64 p, .int .i64 q]], x.length = 2) := Lib.hid (by intro x hx; simp at hx; subst hx; rfl)
      have H1C : Hid (∀ u ∈ [[Value.int .i64 p, .int .i64 q]].flatten, u.oneCell' = true) := Lib.hid (by intro u hu; simp at hu; rcases hu with rfl | rfl <;> rfl)
      have HLN : Hid ((cs.take k).length + [[Value.int .i64 p, .int .i64 q]].length ≤ 1000000000) := Lib.hid (by rw [List.length_take, List.length_singleton]; omega)
      clear hcell hgd hrow hix hrw hsl hw0
      go_wp2
      refine wp_region_tail (fun w' => ∃ x, w' = chg wr row x) [0,1,2,3,4,5,6,7,8,9,10,11] [12,13] [14] (by kernel_rfl) (by kernel_rfl) (ex_chg (grown_drew _ _)) ?_
      simp only [pick, List.map_cons, List.map_nil, List.getD_cons_zero, List.getD_cons_succ]
      repeat (go_big_quiet_step (fail))
      refine wpQuiet_nil ?_
      (unfold wpAct; go_wp2; refine ⟨ex_chg (grown_below (by repeat (first | exact Below.refl _ _ | assumption | refine b_drewN ?_ _ | refine Below.drew ?_ | refine b_ext' ?_ _ | refine b_alloc' ?_ _)) _), ?_⟩)
      unfold wpAct
      go_wp2_with (at_builtin; refine wpList_appL 2 rfl (.tmp 11) (.tmp 23) 54 rfl w.heap.size 106 (.agg #[.int .i64 0, .int .i64 0]) 16 Try.underlying54 (by kernel_rfl) rfl (by decide) (by decide) u3 _ rfl HTO.out _ _ rfl HSL.out HK5.out H1C.out HLN.out HT4.out ?_; intro v' w5 hown1 hg1 hk1; rw [← HROW.out] at hg1; have HO1 := Lib.hid hown1; have HG1 := Lib.hid hg1; clear hown1 hg1 hk1)
      refine ⟨ex_chg (grown_trans (grown_below (by repeat (first | exact Below.refl _ _ | assumption | refine b_drewN ?_ _ | refine Below.drew ?_ | refine b_ext' ?_ _ | refine b_alloc' ?_ _)) _) HG1.out), ?_⟩
      unfold wpAct
      have HB5 : Hid (Below w.heap.size w w5) := Lib.hid ((b_drew1 (HW.out.alloc hsz (.cells #[.int .i64 p, .int .i64 q] 106))).grown HG1.out HT4.out (fun q e => (HO.out.lt q (by rw [← HROW.out]; exact e)).1))
      unfold wpAct
      go_wp2
      refine ⟨trivial, ?_⟩
      unfold wpAct
      go_wp2
      go_roundg (cs.length + 1 - (k + 1))
      case measure => omega
      case rel => exact ⟨k + 1, by go_num, by omega, by rw [HTK.out]; exact HO1.out, HB5.out, rfl⟩
    · have hlti : decide (k < cs.length) = false := by rw [decide_eq_false_iff_not]; omega
      obtain rfl : k = cs.length := by omega
      go_wp2
      go_ret
      refine ⟨u3, rfl, ?_, HW.out⟩
      have h := HO.out
      rwa [List.take_length] at h
def sA (a b : Int) : Array Value := #[.int .i64 a, .int .i64 b]
theorem run_equal_st (W : World) (a n a' n' : Int) : (Op.equalIn 10000 106 (.agg (sA a n)) (.agg (sA a' n'))).run Try.prog W = .ok (decide (a = a' ∧ n = n')) W := by
  have hu : Try.prog.underlying 106 = some (.struct (Try.prog.fieldsOf 106)) := by simp only [Program.fieldsOf, Try.underlying106]
  rw [run_equalIn_struct W 9999 106 _ _ hu (by kernel_rfl)]
  simp only [Program.fieldsOf, Try.underlying106]
  have p0 := fun (W : World) (a n : Int) => part_i64 W (sA a n) 0 a rfl
  have p1 := fun (W : World) (a n : Int) => part_i64 W (sA a n) 1 n rfl
  have ei : ∀ (a b : Int) (W : World), (Op.equalIn 9999 3 (.int .i64 a) (.int .i64 b)).run Try.prog W = .ok (a == b) W := fun a b W => run_equalIn_int W 9998 3 .i64 .i64 a b Try.underlying3
  simp only [Op.eqFields, ne_eq, String.reduceEq, not_false_eq_true, if_true, Sem.run_bind, Sem.run_ite, Sem.run_pure, p0, p1, Result.andThen_ok, ei]
  have hd : decide (a = a' ∧ n = n') = (a == a' && n == n') := by
    rw [Bool.eq_iff_iff, decide_eq_true_iff]
    simp only [Bool.and_eq_true, beq_iff_eq]
  rw [hd]
  generalize (a == a') = b1
  generalize (n == n') = b2
  cases b1 <;> cases b2 <;> rfl
theorem cmp_st (W : World) (a n a' n' : Int) : (binOp .neq 106 (.agg #[.int .i64 a, .int .i64 n]) (.agg #[.int .i64 a', .int .i64 n'])).run Try.prog W = .ok (.bool (!decide (a = a' ∧ n = n'))) W := by
  have h := run_equal_st W a n a' n'
  rw [run_neq_struct]
  unfold sA at h
  rw [h]; rfl
theorem eqGuard_st (W : World) (o : BinOp) (x y : Operand) (X Y : Array Value) : (eqGuard o 106 x y (.agg X) (.agg Y)).run Try.prog W = .ok () W := run_eqGuard_agg W o 106 x y X Y (by kernel_rfl)
set_option maxRecDepth 100000 in
set_option maxHeartbeats 4000000 in
theorem startsSame {w : World} {v1 v2 : Value} {l : List (Nat × Nat)} (h1 : SlK 2 w v1 (l.map stC)) (h2 : SlK 2 w v2 (l.map stC)) : Calls Try.prog 33 #[v1, v2] w fun e w' => e = .returned (.bool true) ∧ ∃ x, w' = ext w x := by
  obtain ⟨oa, ca, ba, fa, rfl, hda, hca⟩ := h1
  obtain ⟨ob, cb, bb, fb, rfl, hdb, hcb⟩ := h2
  rw [List.length_map] at hda hca hdb hcb
  have hm := hda.len
  have hgd : ∀ i (hi : i < l.length), ∃ a b : Nat, (l.map stC).getD i [] = [.int .i64 a, .int .i64 b] := fun i hi => ⟨(l[i]).1, (l[i]).2, by simp [List.getD, hi, stC]⟩
  have HCA := Lib.hid hca
  have HCB := Lib.hid hcb
  have HDA := Lib.hid hda
  have HDB := Lib.hid hdb
  have HGD := Lib.hid hgd
  have cm := cmp_st
  have eg := eqGuard_st
  rw [List.length_map]
  clear hda hca hdb hcb hgd
  generalize l.map stC = cs at *
  go_enter Try.func33, Try.ntmps33
  go_wp2
  go_loopg [5] (l.length + 1) (fun gk iv wr => ∃ k : Nat, iv = .int .i64 k ∧ k ≤ l.length ∧ (∃ x, wr = ext w x) ∧ gk = l.length + 1 - k)
  case atStart => exact ⟨0, rfl, Nat.zero_le _, (ex_ext (by repeat (first | exact Below.refl _ _ | assumption | refine b_drewN ?_ _ | refine Below.drew ?_ | refine b_ext' ?_ _ | refine b_alloc' ?_ _))), rfl⟩
  case round =>
    obtain ⟨k, rfl, hk, hbl, rfl⟩ := hrel
    have HBL := Lib.hid (below_ext hbl)
    clear hbl
    by_cases hlt : k < l.length
    · have hlti : decide (k < l.length) = true := by rw [decide_eq_true_iff]; omega
      have hixa := fun W kd => index_anyK (P := Try.prog) 2 54 106 Try.underlying54 (by kernel_rfl) HDA.out W kd (k : Int) (by omega) (by omega)
      have hixb := fun W kd => index_anyK (P := Try.prog) 2 54 106 Try.underlying54 (by kernel_rfl) HDB.out W kd (k : Int) (by omega) (by omega)
      simp only [Int.toNat_natCast] at hixa hixb
      have HBA := Lib.hid (HDA.out.hblk (by omega))
      have HBB := Lib.hid (HDB.out.hblk (by omega))
      have HKA := Lib.hid (HCA.out k hlt)
      have HKB := Lib.hid (HCB.out k hlt)
      obtain ⟨a, n, hg⟩ := HGD.out k hlt
      rw [hg] at HKA HKB
      clear hg
      have HQA : Hid (∀ w', (∃ x, w' = ext wr x) → ∀ c, c < 2 → w'.cell? ⟨ba, fa + k * 2 + c, none⟩ = some ((#[.int .i64 a, .int .i64 n] : Array Value).getD c undef)) := Lib.hid (fun w' hw' c hc => by
        rw [(HBL.out.trans ((below_ext hw').mono HBL.out.size)).cell (p := ⟨ba, fa + k * 2 + c, none⟩) HBA.out, HKA.out c hc]
        rcases (show c = 0 ∨ c = 1 by omega) with rfl | rfl <;> rfl)
      have HQB : Hid (∀ w', (∃ x, w' = ext wr x) → ∀ c, c < 2 → w'.cell? ⟨bb, fb + k * 2 + c, none⟩ = some ((#[.int .i64 a, .int .i64 n] : Array Value).getD c undef)) := Lib.hid (fun w' hw' c hc => by
        rw [(HBL.out.trans ((below_ext hw').mono HBL.out.size)).cell (p := ⟨bb, fb + k * 2 + c, none⟩) HBB.out, HKB.out c hc]
        rcases (show c = 0 ∨ c = 1 by omega) with rfl | rfl <;> rfl)
      go_wp2_with (fail)
      refine wp_region_ext (by kernel_rfl) (by kernel_rfl) ?_
      repeat (first
        | (go_big_quiet_want; refine quiet_load_cells 106 2 _ rfl ba (fa + k * 2) rfl #[.int .i64 a, .int .i64 n] rfl HQA.out _ Try.underlying106 rfl (by kernel_rfl) ?_; go_simp; go_big_quiet_on)
        | (go_big_quiet_want; refine quiet_load_cells 106 2 _ rfl bb (fb + k * 2) rfl #[.int .i64 a, .int .i64 n] rfl HQB.out _ Try.underlying106 rfl (by kernel_rfl) ?_; go_simp; go_big_quiet_on)
        | go_big_quiet_step (fail))
      refine wpQuiet_nil ?_
      intro w7 hw7
      have HB7 := Lib.hid (HBL.out.trans ((below_ext hw7).mono HBL.out.size))
      clear hw7 HQA HQB
      go_wp2
      go_roundg (l.length + 1 - (k + 1))
      case measure => omega
      case rel => exact ⟨k + 1, by go_num, by omega, ex_ext HB7.out, rfl⟩
    · have hlti : decide (k < l.length) = false := by rw [decide_eq_false_iff_not]; omega
      go_wp2
      go_ret
      exact ⟨rfl, ex_ext HBL.out⟩
end Go.Cm

/- The walk of the law of steps. Conditions: the list of bytes reads as one. -/
namespace Go.Cm
open Go.RowKit Go.Proofs

theorem bys_app2 (a b : ByteArray) : bys (a ++ b) = bys a ++ bys b := by
  cases a; cases b; simp [bys]
/-- what was told, and what is told next -/
theorem told_next {F : Byts} {got c : Byts} {n : Nat} (h : got = F.take got.length) (hc : c = (F.drop got.length).take n) : got ++ c = F.take (got ++ c).length := by
  obtain ⟨k, hk⟩ : ∃ k, k = got.length := ⟨_, rfl⟩
  rw [← hk] at h hc
  have hkl : k ≤ F.length := by
    have := congrArg List.length h
    rw [List.length_take] at this; omega
  have e : (got ++ c).length = k + min n (F.length - k) := by rw [List.length_append, hc, List.length_take, List.length_drop]; omega
  rw [e, List.take_add, ← h, hc]
  congr 1
  by_cases h1 : n ≤ F.length - k
  · rw [Nat.min_eq_left h1]
  · rw [Nat.min_eq_right (by omega), List.take_of_length_le (by rw [List.length_drop]; omega), List.take_of_length_le (by rw [List.length_drop]; omega)]
theorem told_all {F got c : Byts} {M : Nat} {n : Int} (hM : M = 16777216) (hn : n = (M : Int)) (h : got = F.take got.length) (hc : c = (F.drop got.length).take n.toNat) (hF : F.length ≤ M) : got ++ c = F := by
  rw [hc, List.take_of_length_le (by rw [List.length_drop]; omega)]
  conv => lhs; lhs; rw [h]
  exact List.take_append_drop _ _
theorem SlK.up2 {k B : Nat} {w0 w w' : World} {v : Value} {l : List (List Value)} (h : SlK k w0 v l) (hB : w0.heap.size ≤ B) (hb : Below B w0 w) (hB2 : B ≤ w.heap.size) (hf : MFx B (fun _ => False) w w') : SlK k w' v l :=
  h.up ((MFx.below hf hb hB2).mono hB)
theorem steps_end {w w1 w2 w8 w9 : World} {B : Nat} (h1 : Below w.heap.size w w1) (hB : w1.heap.size ≤ B) (h2 : Below B w1 w2) (hB2 : B ≤ w2.heap.size) (h3 : MFx B (fun _ => False) w2 w8) (h4 : Below w8.heap.size w8 w9) : Below w.heap.size w w9 := by
  have a : Below w1.heap.size w1 w8 := (MFx.below h3 h2 hB2).mono hB
  have b : Below w1.heap.size w1 w9 := a.trans (h4.mono a.size)
  exact h1.trans (b.mono h1.size)
set_option maxRecDepth 100000 in
set_option maxHeartbeats 4000000 in
theorem stepsI (s : ByteArray) (v : Value) (sw : List UInt8) (w : World) (hv : Sl w v (bytesV sw)) : Calls Try.prog 6 #[.string s, v] w fun e w' => e = .returned (.bool true) ∧ Below w.heap.size w w' := by
  have HK := Lib.hid knownI
  have HSM := Lib.hid (smallI s ⟨#[]⟩ w)
  by_cases hsm : (s.size ≤ 600 ∧ (⟨#[]⟩ : ByteArray).size ≤ 40000)
  · rw [decide_eq_true hsm] at HSM
    have hs := hsm.1
    clear hsm
    obtain ⟨oa, cap, bl, off, rfl, hd, hc⟩ := hv
    have HIX := Lib.hid (index_any (P := Try.prog) 43 5 Try.underlying43 (by kernel_rfl) hd)
    rw [bytesV_length] at hd hc HIX ⊢
    have hm := hd.len
    have HBL := Lib.hid hd.hblk
    have HC : Hid (∀ i, i < sw.length → w.cell? ⟨bl, off + i, none⟩ = some (.int .u8 ((sw.getD i 0).toNat : Int))) := Lib.hid (fun i hi => by
      rw [hc i hi]; simp [bytesV, List.getD, hi])
    clear hd hc
    have HA : Hid (∀ W, Calls Try.prog 28 #[.string s, .int .i64 0, .string ⟨#[]⟩] W (RetAll s (bys ⟨#[]⟩) 0 W)) := Lib.hid (fun W => allI s ⟨#[]⟩ 0 (by omega) (Nat.zero_le _) (by decide) W)
    have HNW : Hid (∀ W, Calls Try.prog 29 #[.string s, .int .i64 0, .string ⟨#[]⟩] W fun e w' => ∃ gm, e = .returned (.tuple #[.pointer (some ⟨gm, 0, none⟩), .int .i64 0]) ∧ Mac w' W.heap.size gm (fun _ => False) s (bys ⟨#[]⟩) 0 0 ∧ Below W.heap.size W w') := Lib.hid (fun W => newC s ⟨#[]⟩ 0 (by omega) (Nat.zero_le _) (by decide) W)
    have HBG := Lib.hid (txI_big (s := s) (t := bys ⟨#[]⟩) (p := 0) (Nat.zero_le _))
    have hs4 : s.size ≤ 4000000 := by omega
    unfold RetAll at HA
    generalize bys ⟨#[]⟩ = t at *
    obtain ⟨F, hF⟩ : ∃ F, F = txI s t 0 := ⟨_, rfl⟩
    obtain ⟨E, hE⟩ : ∃ E, E = erI s t 0 := ⟨_, rfl⟩
    obtain ⟨Q, hQ⟩ : ∃ Q, Q = enI s t 0 := ⟨_, rfl⟩
    obtain ⟨L, hL⟩ : ∃ L, L = bgI s t 0 := ⟨_, rfl⟩
    have HST := Lib.hid (fun (W : World) (B gm told : Nat) (h : Mac W B gm (fun _ => False) s t 0 told) n => stepC h (Nat.zero_le _) hs4 (fun _ e => e.elim) n)
    have HDN := Lib.hid (fun (W : World) (B gm told : Nat) (h : Mac W B gm (fun _ => False) s t 0 told) => doneC h (Nat.zero_le _) hs4 (fun _ e => e.elim))
    have HSR := Lib.hid (fun (W : World) (B gm told : Nat) (h : Mac W B gm (fun _ => False) s t 0 told) => startsC h (Nat.zero_le _) hs4 (fun _ e => e.elim))
    have HEN := Lib.hid (fun (W : World) (B gm told : Nat) (h : Mac W B gm (fun _ => False) s t 0 told) => endC h (Nat.zero_le _) hs4 (fun _ e => e.elim))
    rw [← hF] at HST HDN HSR HEN HBG HA
    rw [← hE] at HST HDN HSR HEN HA
    rw [← hQ] at HEN HA
    rw [← hL] at HSR HA
    have HLL : Hid (L.length ≤ 100000000) := Lib.hid (by have := bgI_len s t 0; rw [← hL] at this; omega)
    clear hF hE hQ hL
    go_enter Try.func6, Try.ntmps6
    go_upto_region 5 with (first
      | ((with_reducible go_at_call 26); (with_reducible refine HSM.out.mono ?_); rintro e w' ⟨rfl, hw⟩; rw [hw]; clear hw)
      | ((with_reducible go_at_call 28); (with_reducible refine (HA.out _).mono ?_); rintro e w1 ⟨c1, v1, q1, rfl, hb, h1, h2⟩; have HB1 := Lib.hid hb; have H1 := Lib.hid h1; have H2 := Lib.hid h2; clear hb h1 h2)
      | ((with_reducible go_at_call 29); (with_reducible refine (HNW.out _).mono ?_); rintro e w2 ⟨gm, rfl, hm2, hb⟩; have HM2 := Lib.hid hm2; have HB2 := Lib.hid (HB1.out.trans (hb.mono HB1.out.size)); have HBX := Lib.hid hb; clear hm2 hb))
    have HB2' := Lib.hid HB2.out.size
    obtain ⟨B, hBB⟩ : ∃ B, B = w1.heap.size := ⟨_, rfl⟩
    have HBW : Hid (w.heap.size ≤ B) := Lib.hid (by rw [hBB]; exact HB1.out.size)
    have HV1 : Hid (E = 0 → SlK 2 w1 v1 (L.map stC)) := Lib.hid (fun h => (H1.out h).2.1)
    rw [← hBB] at HM2
    have HBY : Hid (Below B w1 w2) := Lib.hid (by rw [hBB]; exact HBX.out)
    have HBZ : Hid (B ≤ w2.heap.size) := Lib.hid (by rw [hBB]; exact HBX.out.size)
    have HBS : Hid (w1.heap.size ≤ B ∧ B ≤ w1.heap.size) := Lib.hid (by rw [hBB]; exact ⟨Nat.le_refl _, Nat.le_refl _⟩)
    clear hBB HBX
    go_wp2
    go_loopg [11, 12, 13, 14] (sw.length + 1) (fun gk gv iv tv ev wr => ∃ (k : Nat) (got : ByteArray), gv = .string got ∧ iv = .int .i64 k ∧ k ≤ sw.length ∧ Mac wr B gm (fun _ => False) s t 0 (bys got).length ∧ bys got = F.take (bys got).length ∧ MFx B (fun _ => False) w2 wr ∧ gk = sw.length + 1 - k)
    case atStart => exact ⟨0, ⟨#[]⟩, rfl, rfl, Nat.zero_le _, HM2.out, rfl, Fx.refl _ _, rfl⟩
    case round =>
      obtain ⟨k, got, rfl, rfl, hk, hmac, hgot, hfx, rfl⟩ := hrel
      have HM := Lib.hid hmac
      have HG := Lib.hid hgot
      have HFX := Lib.hid hfx
      have HWR : Hid (Below w1.heap.size w1 wr) := Lib.hid ((MFx.below hfx HBY.out HBZ.out).mono HBS.out.1)
      have HW := Lib.hid (HB1.out.trans (HWR.out.mono HB1.out.size))
      have hgl : got.size ≤ 16777216 := by
        have h1 := congrArg List.length hgot
        rw [List.length_take, bys_len] at h1
        have := HBG.out
        omega
      clear hmac hgot hfx
      by_cases hlt : k < sw.length ∧ k < 60
      · obtain ⟨hk1, hk2⟩ := hlt
        have hlti : decide (k < sw.length) = true := by rw [decide_eq_true_iff]; omega
        have hl60 : decide ((k : Int) < 60) = true := by rw [decide_eq_true_iff]; omega
        have hix := fun W kd => HIX.out W kd (k : Int) (by omega) (by omega)
        simp only [Int.toNat_natCast] at hix
        have hbl := HBL.out (by omega)
        have hcell : wr.cell? ⟨bl, off + k, none⟩ = some (.int .u8 ((sw.getD k 0).toNat : Int)) := by
          rw [HW.out.cell (p := ⟨bl, off + k, none⟩) hbl]; exact HC.out k hk1
        have hx : (sw.getD k 0).toNat < 256 := (sw.getD k 0).toNat_lt
        generalize (sw.getD k 0).toNat = x at *
        go_upto_region 12 with ((with_reducible go_at_call 30); (refine (HST.out _ _ _ _ HM.out _).mono ?_); rintro e w5 ⟨c, er, rfl, -, h2, hm, hb⟩; have HC5 := Lib.hid h2; have HM5 := Lib.hid hm; have HB5 := Lib.hid hb; clear h2 hm hb)
        obtain ⟨hc, her⟩ := HC5.out (by omega)
        have HCC := Lib.hid hc
        have hcl : got.size + c.size ≤ 16777216 := by
          have h1 := congrArg List.length hc
          have h2 := congrArg List.length HG.out
          have h3 := HBG.out
          rw [List.length_take] at h2
          rw [List.length_take, List.length_drop, bys_len, bys_len] at h1
          rw [bys_len] at h2
          omega
        have HREL : Hid (Mac w5 B gm (fun _ => False) s t 0 (bys (got ++ c)).length ∧ bys (got ++ c) = F.take (bys (got ++ c)).length ∧ MFx B (fun _ => False) w2 w5) := Lib.hid (by
          rw [bys_app2, List.length_append]
          refine ⟨HM5.out, ?_, HFX.out.trans HB5.out⟩
          rw [← List.length_append]
          exact told_next HG.out HCC.out)
        have hcase : er = 0 ∨ (er = E ∧ E ≠ 0) := by
          by_cases h0 : er = 0
          · exact .inl h0
          · right
            by_cases hf : F.length ≤ (bys got).length
            · rw [if_pos hf] at her; exact ⟨her, by omega⟩
            · rw [if_neg hf] at her; exact absurd her h0
        clear hc her
        rcases hcase with h0 | ⟨h0, h1⟩
        · subst h0
          go_wp2
          go_roundg (sw.length + 1 - (k + 1))
          case measure => omega
          case rel => exact ⟨k + 1, got ++ c, rfl, by go_num, hk1, HREL.out.1, HREL.out.2.1, HREL.out.2.2, rfl⟩
        · subst h0
          have h1' : ((er : Int) == 0) = false := by simpa using h1
          go_wp2
          go_roundg (sw.length + 1 - (k + 1))
          case measure => omega
          case rel => exact ⟨k + 1, got ++ c, rfl, by go_num, hk1, HREL.out.1, HREL.out.2.1, HREL.out.2.2, rfl⟩
      · have hcond : (decide (k < sw.length) = true ∧ decide ((k : Int) < 60) = false) ∨ (decide (k < sw.length) = false) := by
          by_cases h1 : k < sw.length
          · exact .inl ⟨by rw [decide_eq_true_iff]; exact h1, by rw [decide_eq_false_iff_not]; omega⟩
          · exact .inr (by rw [decide_eq_false_iff_not]; omega)
        clear hlt
        have HE0 : Hid (E = 0 → bys c1 = F ∧ q1 = Q) := Lib.hid (fun h => ⟨(H1.out h).1, (H1.out h).2.2⟩)
        rcases hcond with ⟨hcd1, hcd2⟩ | hcd1
        all_goals
          go_upto_region 16 with ((with_reducible go_at_call 30); (refine (HST.out _ _ _ _ HM.out _).mono ?_); rintro e w5 ⟨c, er, rfl, -, h2, hm, hb⟩; have HC5 := Lib.hid h2; have HM5 := Lib.hid hm; have HB5 := Lib.hid (HFX.out.trans hb); clear h2 hm hb)
          obtain ⟨hc, her⟩ := HC5.out (by decide)
          obtain ⟨M, hM⟩ : ∃ M : Nat, M = 16777216 := ⟨_, rfl⟩
          have hFM := HBG.out
          rw [← hM] at hFM
          have hall := told_all hM (by rw [hM]; rfl) HG.out hc hFM
          have HALL : Hid (bys (got ++ c) = F) := Lib.hid (by rw [bys_app2]; exact hall)
          have hcl : got.size + c.size ≤ 16777216 := by
            have h1 := congrArg List.length hall
            rw [List.length_append, bys_len, bys_len] at h1
            omega
          have HM6 : Hid (Mac w5 B gm (fun _ => False) s t 0 F.length) := Lib.hid (by
            have h1 := HM5.out
            rw [← hall, List.length_append]
            exact h1)
          have HER := Lib.hid her
          clear hc her hM hFM hall HM5 HC5
          go_upto_region 17 with (fail)
          by_cases hE : E = 0
          · have her : er = 0 := by rw [HER.out, hE]; split <;> rfl
            have HE := Lib.hid hE
            subst her
            subst hE
            have hceq : (got ++ c).toList = c1.toList := by rw [show got ++ c = c1 from bys_inj (by rw [HALL.out, (HE0.out rfl).1])]
            obtain ⟨-, hq1⟩ := HE0.out rfl
            subst hq1
            clear HE0 HER H1 H2
            go_wp2_with (first
              | ((with_reducible go_at_call 31); (refine (HDN.out _ _ _ _ HM6.out).mono ?_); rintro e w6 ⟨b, rfl, hb, hm, hbl⟩; have hbt : b = true := hb.2 ⟨Nat.le_refl _, rfl⟩; subst hbt; have HM7 := Lib.hid hm; have HB7 := Lib.hid (HB5.out.trans hbl); clear hb hm hbl)
              | ((with_reducible go_at_call 32); (refine (HEN.out _ _ _ _ HM7.out).mono ?_); rintro e w7 ⟨q, rfl, h1, -, hm, hb⟩; have hqe : q = q1 := h1 ⟨Nat.le_refl _, by trivial⟩; subst hqe; have HM8 := Lib.hid hm; have HB8 := Lib.hid (HB7.out.trans hb); clear h1 hm hb)
              | ((with_reducible go_at_call 35); (refine (HSR.out _ _ _ _ HM8.out).mono ?_); rintro e w8 ⟨v8, rfl, h1, -, hm, hb⟩; have HV8 := Lib.hid (h1 ⟨Nat.le_refl _, by trivial⟩).sl; have HB9 := Lib.hid (HB8.out.trans hb); clear h1 hm hb)
              | ((with_reducible go_at_call 34); first | ((with_reducible refine (startsLn HV8.out HLL.out).mono ?_); rintro e w9 ⟨v9, rfl, ho, hb⟩; have HV9 := Lib.hid ho.sl; have HB10 := Lib.hid hb; have HV1b := Lib.hid (((HV1.out (by trivial)).up2 HBS.out.1 HBY.out HBZ.out HB9.out).up hb); clear ho hb) | ((with_reducible refine (startsLn HV1b.out HLL.out).mono ?_); rintro e w10 ⟨v10, rfl, ho, hb⟩; have HV10 := Lib.hid ho.sl; have HV9b := Lib.hid (HV9.out.up hb); have HB11 := Lib.hid (HB10.out.trans (hb.mono HB10.out.size)); clear ho hb))
              | ((with_reducible go_at_call 33); (with_reducible refine (startsSame HV9b.out HV10.out).mono ?_); rintro e w11 ⟨rfl, hx⟩; have HB12 := Lib.hid (HB11.out.trans ((below_ext hx).mono HB11.out.size)); clear hx)
              | ((with_reducible go_at_call 27); (with_reducible refine (HK.out _).mono ?_); rintro e w12 ⟨rfl, hb⟩; have HB13 := Lib.hid (HB12.out.trans (hb.mono HB12.out.size)); clear hb))
            go_ret
            exact ⟨rfl, steps_end HB1.out HBS.out.1 HBY.out HBZ.out HB9.out HB13.out⟩
          · have HEN0 := Lib.hid hE
            clear HE0 H1 H2
            have hE' : ((E : Int) == 0) = false := by simpa using hE
            go_upto_region 19 with ((with_reducible go_at_call 30); (refine (HST.out _ _ _ _ HM6.out _).mono ?_); rintro e w6 ⟨c6, e6, rfl, -, h2, hm, hb⟩; have HC6 := Lib.hid h2; have HM7 := Lib.hid hm; have HB7 := Lib.hid (HB5.out.trans hb); clear h2 hm hb)
            have he6 := (HC6.out (by decide)).2
            rw [if_pos (Nat.le_refl _)] at he6
            subst he6
            have hc6 : bys c6 = [] := by
              have := (HC6.out (by decide)).1
              rw [List.drop_length] at this
              simpa using this
            have HM8 : Hid (Mac w6 B gm (fun _ => False) s t 0 F.length) := Lib.hid (by have h := HM7.out; rw [hc6] at h; exact h)
            have hcase : er = e6 ∨ er = 0 := by rw [HER.out]; split; exact .inl rfl; exact .inr rfl
            clear hc6 HC6 HER
            rcases hcase with h0 | h0
            all_goals
              subst h0
              go_wp2_with (first
                | ((with_reducible go_at_call 31); (refine (HDN.out _ _ _ _ HM8.out).mono ?_); rintro e w7 ⟨b, rfl, hb, hm, hbl⟩; have hbt : b = false := (by cases b with | false => rfl | true => exact absurd (hb.1 rfl).2 HEN0.out); subst hbt; have HB8 := Lib.hid (HB7.out.trans hbl); clear hb hm hbl)
                | ((with_reducible go_at_call 27); (with_reducible refine (HK.out _).mono ?_); rintro e w12 ⟨rfl, hb⟩; have HB9 := Lib.hid hb; clear hb))
              go_ret
              exact ⟨rfl, steps_end HB1.out HBS.out.1 HBY.out HBZ.out HB8.out HB9.out⟩
  · rw [decide_eq_false hsm] at HSM
    go_enter Try.func6, Try.ntmps6
    go_wp2_with (first | ((with_reducible go_at_call 26); (with_reducible refine HSM.out.mono ?_); rintro e w' ⟨rfl, hw⟩; rw [hw]; clear hw) | ((with_reducible go_at_call 27); (with_reducible refine (HK.out _).mono ?_); rintro e w' ⟨rfl, hb⟩; have HB2 := Lib.hid hb; clear hb))
    go_ret
    exact ⟨rfl, HB2.out⟩
end Go.Cm

/- Arguments that a law is handed: a list of bytes. Conditions: none. -/
namespace Go.Cm
open Go.RowKit Go.Proofs Go.WideShapes Go.ChangeShapes Go.Deep
set_option maxRecDepth 100000 in
theorem open_bytes {H : Type} {enc : TypeId × Value → H} {w : World} {base : Nat} {held : Bool} {v : Value} {x : DataW H} {p : List MemPlace} {r : Reach} {b0 : Nat} (hv : Value.okWide Try.prog w r b0 43 v) (h : DataW.Trod enc Try.prog w base (fun _ => true) held 43 v x p) (hw : ∀ n ∈ x.weights Try.prog 43, n ≤ reachBytes) : ∃ l, Sl w v (bytesV l) := by
  obtain ⟨a0, len0, cap0, rfl⟩ := okWide_slice Try.underlying43 hv
  obtain ⟨fuel, hf⟩ := h
  have c5 : Try.prog.cellsOf 5 = 1 := by kernel_rfl
  have b5 : Try.prog.bytesOf 5 = 1 := by kernel_rfl
  obtain ⟨oa, len, cap, b, off, V, D, hcs, hd, hx⟩ := open_hd Try.underlying43 c5 (by rw [b5]; decide) hf hw
  have hcs' : Value.slice a0 len0 cap0 = .slice oa len cap := by
    have : [Value.slice a0 len0 cap0] = [Value.slice oa len cap] := hcs
    injection this
  rw [hcs']
  have hV : ∀ i, i < len → ∃ z : UInt8, V i = .int .u8 (z.toNat : Int) := fun i hi => by
    obtain ⟨-, ⟨n, p, h2⟩, -⟩ := hx i hi
    obtain ⟨k, e1, -, hwf⟩ := DataW.trod_int Try.underlying5 h2
    have hk : 0 ≤ k ∧ k ≤ 255 := by
      simp [Lit.wf, IntKind.min, IntKind.max, IntKind.signed, IntKind.bits] at hwf
      omega
    refine ⟨UInt8.ofNat k.toNat, ?_⟩
    have e2 : ((UInt8.ofNat k.toNat).toNat : Int) = k := by
      rw [UInt8.toNat_ofNat']; omega
    rw [e2]
    simpa using e1
  obtain ⟨Z, hZ⟩ := choose_lt hV
  refine ⟨(List.range len).map Z, oa, cap, b, off, by simp [bytesV], by simpa [bytesV] using hd, fun i hi => ?_⟩
  have hi' : i < len := by simpa [bytesV] using hi
  rw [(hx i hi').1, hZ i hi']
  simp [bytesV, List.getD, hi']
end Go.Cm
