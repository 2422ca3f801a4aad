/- Texts of this claim, joined: walks of small functions and plain facts about them. Conditions: as each says. -/
import Derived.Test.YtmophmeiemfikaaQC
import Derived.Test.YtmophmeiemfikaaRows
import Derived.WalkKit
import Derived.WalkSpells
import Derived.WalkLawsBesides
import Derived.Deep.QuietTactic
import Derived.BigQuiet
import Derived.Lib.Hide
import Derived.Laws.BitsLemmas
import Derived.Deep.LoopGhost
import Derived.Laws.Small
import Derived.Deep.DeepCutAuto
import Derived.Deep.CutBlock
import Derived.Deep.CutRange
/- The walk of the source's row of lengths. Conditions: the source is there; the table reads as its lengths say. -/
namespace Go.Cm
open Go.RowKit Go.Proofs

theorem rowN_stop (N T : Nat) (L : List Nat) (n f : Nat) (l : List Nat) (st : Nat × Nat) (h : ¬ (st.1 = 0 ∧ l.length < n)) : rowN N T L n f l st = (l, st) := by
  cases f with
  | zero => rfl
  | succ f => unfold rowN; rw [if_neg h]
theorem rep_pos (N T sym : Nat) (l : List Nat) (p : Nat) (h : (repN N T sym l (0, p)).2.2.1 = 0) : 3 ≤ (repN N T sym l (0, p)).1 := by
  unfold repN at h ⊢
  split
  · omega
  · split
    · split
      · rename_i h1 h2 h3
        rw [if_neg h1, if_pos h2, if_pos h3] at h
        cases h
      · omega
    · omega
theorem rep_le (N T sym : Nat) (l : List Nat) (st : Nat × Nat) : (repN N T sym l st).1 ≤ 200 := by
  have h7 := xb_lt N T 7 st
  have h2 := xb_lt N T 2 st
  have h3 := xb_lt N T 3 st
  unfold repN
  split
  · show 11 + (xb N T 7 st).1 ≤ 200
    omega
  · split
    · split
      · exact Nat.zero_le _
      · show 3 + (xb N T 2 st).1 ≤ 200
        omega
    · show 3 + (xb N T 3 st).1 ≤ 200
      omega
theorem SrcT.kept {w w' : World} {q g : Nat} {s : ByteArray} {st : Nat × Nat} {row : Option Nat} (h : SrcT w q g s st) (hg : w.grownBy w' row) (h1 : row ≠ some q) (h2 : row ≠ some g) : SrcT w' q g s st := ⟨h.src.keep hg h1, h.box.stay hg h2, h.ne, h.le, h.err⟩
theorem SrcT.fx {S : Nat → Prop} {w w' : World} {q g : Nat} {s : ByteArray} {st : Nat × Nat} (h : SrcT w q g s st) (hf : Fx S w w') (h1 : ¬ S q) (h2 : ¬ S g) : SrcT w' q g s st :=
  ⟨⟨hf.own h.src.own (fun k hk => by injection hk with hk; subst hk; exact h1)⟩, ⟨hf.own h.box.own (fun k hk => by injection hk with hk; subst hk; exact h2)⟩, h.ne, h.le, h.err⟩
theorem Fx.far {S S' : Nat → Prop} {w w1 w2 : World} (h : Fx S w w1) (hg : Fx S' w1 w2) (hr : ∀ k, S' k → S k ∨ w.heap.size ≤ k) : Fx S w w2 :=
  ⟨hg.os.trans h.os, hg.tape.trans h.tape, hg.output.trans h.output, Nat.le_trans h.size hg.size, fun k hk h1 => by
    rw [hg.block k (Nat.lt_of_lt_of_le hk h.size) (fun e => (hr k e).elim h1 (fun z => by omega)), h.block k hk h1]⟩
theorem readF_facts (L : List Nat) (V left : Nat) : (readF L V left).2.1 ≤ 64 ∧ (readF L V left).2.2 ≤ left ∧ ((readF L V left).2.1 ≠ 0 → (readF L V left).2.2 = 0) ∧ ((readF L V left).2.1 = 0 → (readF L V left).1 < L.length) := by
  rcases readF_ok L V left with ⟨h1, h2, h3, h4, h5⟩ | ⟨h1, h2, h3, h4⟩
  · rw [h4, h5]; exact ⟨by omega, h3, fun h => absurd rfl h, fun _ => h1⟩
  · rw [h3, h4]
    refine ⟨by split <;> omega, Nat.zero_le _, fun _ => rfl, fun h => ?_⟩
    exfalso; split at h <;> cases h
/-- what a step of the reading of lengths brings -/
noncomputable def rowStep (N T : Nat) (L : List Nat) (n f : Nat) (l : List Nat) (p : Nat) (r : Nat × Nat × Nat) : List Nat × (Nat × Nat) :=
  if r.2.1 ≠ 0 then (l, r.2.1, p)
  else if r.1 < 16 then rowN N T L n f (l ++ [r.1]) (0, p + r.2.2)
  else if n < l.length + (repN N T r.1 l (0, p + r.2.2)).1 then ([], xf 3 (repN N T r.1 l (0, p + r.2.2)).2.2)
  else rowN N T L n f (l ++ List.replicate (repN N T r.1 l (0, p + r.2.2)).1 (repN N T r.1 l (0, p + r.2.2)).2.1) (repN N T r.1 l (0, p + r.2.2)).2.2
theorem rowN_step (N T : Nat) (L : List Nat) (n f : Nat) (l : List Nat) (p : Nat) (h : l.length < n) : rowN N T L n (f + 1) l (0, p) = rowStep N T L n f l p (readF L (N / 2 ^ p) (T - p)) := by
  rw [rowN, if_pos ⟨rfl, h⟩]; rfl
theorem rowS {w : World} {q g gt : Nat} {s : ByteArray} {st : Nat × Nat} (h : SrcT w q g s st) (hs : s.size ≤ 4294967296) (n : Nat) (hn : n ≤ 1000) (L : List Nat) (hL : L.length ≤ 19)
    (HRD : ∀ W p, Two q g w W → BoxS W g s p → p ≤ 8 * s.size → Calls Try.prog 128 #[.pointer (some ⟨gt, 0, none⟩), .pointer (some ⟨g, 0, none⟩)] W (RetRead BoxS L s p g W)) :
    Calls Try.prog 124 #[.pointer (some ⟨q, 0, none⟩), .pointer (some ⟨gt, 0, none⟩), .int .i64 n] w fun e w' => ∃ v, e = .returned v ∧ Own w' w.heap.size 3 v (ints (nls (rowN (numS s) (8 * s.size) L n (n + 1) [] st).1)) ∧ SrcT w' q g s (rowN (numS s) (8 * s.size) L n (n + 1) [] st).2 ∧ Two q g w w' := by
  have HH := Lib.hid h
  have hqw := h.src.lt
  have hgw := h.box.lt
  have HRD2 : Hid (∀ W p, Two q g w W → BoxS W g s p → p ≤ 8 * s.size → Calls Try.prog 128 #[.pointer (some ⟨gt, 0, none⟩), .pointer (some ⟨g, 0, none⟩)] W fun e w' => e = .returned (.tuple #[.int .i64 ((readF L (numS s / 2 ^ p) (8 * s.size - p)).1 : Nat), .int .i64 ((readF L (numS s / 2 ^ p) (8 * s.size - p)).2.1 : Nat)]) ∧ BoxS w' g s (p + (readF L (numS s / 2 ^ p) (8 * s.size - p)).2.2) ∧ W.grownBy w' (some g)) := Lib.hid (fun W p h1 h2 h3 => (HRD W p h1 h2 h3).mono fun e w' ⟨a, er, d, he, hr, hb, hg⟩ => by
    have := readF_of hr
    rw [this]
    exact ⟨he, hb, hg⟩)
  obtain ⟨R, hR⟩ : ∃ R, R = rowN (numS s) (8 * s.size) L n (n + 1) [] st := ⟨_, rfl⟩
  rw [← hR]
  have HR := Lib.hid hR.symm
  have HSTOP := Lib.hid (rowN_stop (numS s) (8 * s.size) L n)
  have HSTEP := Lib.hid (rowN_step (numS s) (8 * s.size) L n)
  clear hR HRD h
  go_enter Try.func124, Try.ntmps124
  go_wp2
  go_loopg [7] (n + 1) (fun gk r wr => ∃ l en p, Own wr w.heap.size 3 r (ints (nls l)) ∧ SrcT wr q g s (en, p) ∧ Two q g w wr ∧ Hid (rowN (numS s) (8 * s.size) L n gk l (en, p) = R) ∧ l.length ≤ n ∧ (en = 0 → n - l.length < gk))
  case atStart => exact ⟨[], st.1, st.2, Own.nil _ _ _, HH.out, Fx.refl _ _, HR, Nat.zero_le _, fun _ => by simp⟩
  case round =>
    obtain ⟨l, en, p, ho, hsr, hfx, HRN, hll, hf⟩ := hrel
    have HO := Lib.hid ho
    have HS := Lib.hid hsr
    have HF := Lib.hid hfx
    have hsz := hfx.size
    have c0 := hsr.src.c0
    have c1 := hsr.src.c1
    have hq1 := hsr.src.lt
    have he : (((en, p).1 : Nat) : Int) = (en : Int) := rfl
    rw [he] at c1
    have hlen : (ints (nls l)).length = l.length := by simp [ints, nls]
    obtain ⟨oa, cap, b, hv, -⟩ := ho.cases
    rw [hlen] at hv
    subst hv
    have HLEN := Lib.hid hlen
    clear he ho hsr hfx hlen
    by_cases h0 : en = 0
    · subst h0
      by_cases hlt : l.length < n
      · have hlti : (l.length : Int) < (n : Int) := by omega
        have hf' := hf rfl
        obtain ⟨f, rfl⟩ : ∃ f, gk = f + 1 := ⟨gk - 1, by omega⟩
        have HE := Lib.hid (HSTEP.out f l p hlt)
        rw [HRN.out] at HE
        have hple := HS.out.le
        have hcall := HRD2.out wr p HF.out HS.out.box hple
        have hfa := readF_facts L (numS s / 2 ^ p) (8 * s.size - p)
        generalize readF L (numS s / 2 ^ p) (8 * s.size - p) = rd at *
        obtain ⟨a, er, d⟩ := rd
        obtain ⟨hf1, hf2, hf3, hf4⟩ := hfa
        have HCALL := Lib.hid hcall
        have hpd : p + d ≤ 8 * s.size := by simp at hf2 hple; omega
        have HPD := Lib.hid hpd
        clear hcall HRN hf HSTEP HSTOP hf2 hple hpd
        by_cases hz : er = 0
        · subst hz
          have haL := hf4 rfl
          simp at haL
          clear hf1 hf3 hf4
          by_cases ha : a < 16
          · have hai : (a : Int) < 16 := by omega
            have HST2 : Hid (R = rowN (numS s) (8 * s.size) L n f (l ++ [a]) (0, p + d)) := Lib.hid (by rw [HE.out]; unfold rowStep; rw [if_neg (by simp), if_pos ha])
            have HAPP : Hid (ints (nls (l ++ [a])) = ints (nls l) ++ ints (nls [a])) := Lib.hid (by simp [ints, nls])
            clear ha HE
            have HLL : Hid ((ints (nls l)).length + 1 ≤ 4294967296) := Lib.hid (by rw [HLEN.out]; omega)
            go_wp2_with (first | (go_at_call 128; (with_reducible refine HCALL.out.mono ?_); rintro e w4 ⟨rfl, hb1, hb2⟩; (have HS4 : Hid (SrcT w4 q g s (0, p + d)) := Lib.hid ⟨HS.out.src.keep hb2 (fun e => HS.out.ne (by injection e with e; exact e.symm)), hb1, HS.out.ne, HPD.out, HS.out.err⟩; have HF4 : Hid (Two q g w w4) := Lib.hid (HF.out.trans (fx_grown hb2 (fun k e => .inr (by injection e with e; exact e.symm)))); have hs4 := hb2.size; have HO4 := Lib.hid (HO.out.keep hb2 (ne_of_row (fun k hk e => by have := (HO.out.lt k hk).1; injection e with e; omega))); clear hb1 hb2)) | (at_builtin; refine wpList_app rfl (.tmp 60) (.tmp 62) 39 rfl w.heap.size 3 (.int .i64 0) 8 Try.underlying39 (by kernel_rfl) rfl (by decide) (.slice oa l.length cap) (ints (nls l)) rfl (HO4.out.up (below_alloc _ _)) (.slice (some ⟨w4.heap.size, 0, none⟩) 1 1) (ints (nls [a])) rfl (by simpa [ints, nls] using sl_lit w4 #[.int .i64 (a : Int)] 3 (by simp)) (ints_cell _) (by have := HLL.out; simpa [ints, nls] using this) (Nat.le_trans hsz (Nat.le_trans hs4 (by simp))) ?_; intro v' w5 hown1 hg1 hk1; (have HO5 := Lib.hid hown1; have HG5 := Lib.hid hg1; clear hown1 hg1 hk1)))
            go_roundg f
            case measure => omega
            case rel =>
              have hr1 : (Value.slice oa l.length cap).ownBlock ≠ some q := fun e => by have := (HO4.out.lt q e).1; omega
              have hr2 : (Value.slice oa l.length cap).ownBlock ≠ some g := fun e => by have := (HO4.out.lt g e).1; omega
              exact ⟨l ++ [a], 0, p + d, by rw [HAPP.out]; exact HO5.out, (HS4.out.up (below_alloc w4 _)).kept HG5.out hr1 hr2, (HF4.out.trans (fx_below (below_alloc w4 _))).grown HG5.out (fun k hk => .inr (HO4.out.lt k hk).1), Lib.hid HST2.out.symm, by simp; omega, fun _ => by simp; omega⟩
          · have hai : ¬ (a : Int) < 16 := by omega
            have hsym : a = 16 ∨ a = 17 ∨ a = 18 := by omega
            have hrp := rep_pos (numS s) (8 * s.size) a l (p + d)
            have HRP := Lib.hid (fun W (h : SrcT W q g s (0, p + d)) (ho : Own W w.heap.size 3 (.slice oa l.length cap) (ints (nls l))) => repS h hs a hsym (.slice oa l.length cap) l w.heap.size ho (by omega))
            have HST2 : Hid (R = if n < l.length + (repN (numS s) (8 * s.size) a l (0, p + d)).1 then ([], xf 3 (repN (numS s) (8 * s.size) a l (0, p + d)).2.2) else rowN (numS s) (8 * s.size) L n f (l ++ List.replicate (repN (numS s) (8 * s.size) a l (0, p + d)).1 (repN (numS s) (8 * s.size) a l (0, p + d)).2.1) (repN (numS s) (8 * s.size) a l (0, p + d)).2.2) := Lib.hid (by rw [HE.out]; unfold rowStep; rw [if_neg (by simp), if_neg ha])
            have hrl := rep_le (numS s) (8 * s.size) a l (0, p + d)
            clear ha HE hsym haL
            generalize repN (numS s) (8 * s.size) a l (0, p + d) = rp at *
            obtain ⟨m, y, st2⟩ := rp
            have HRN := Lib.hid (fun W (ho : Own W w.heap.size 3 (.slice oa l.length cap) (ints (nls l))) (hB : w.heap.size ≤ W.heap.size) => growP (.slice oa l.length cap) l m y W w.heap.size ho hB (by simp at hrl; omega))
            simp at hrp hrl
            have HRPP := Lib.hid hrp
            clear hrp
            by_cases hbig : n < l.length + m
            · have hbi : (l.length : Int) + (m : Int) > (n : Int) := by omega
              have hR : R = ([], xf 3 st2) := by rw [HST2.out]; exact if_pos hbig
              have HR2 := Lib.hid hR
              clear hbig hR HST2
              go_wp2_with (first | (go_at_call 128; (with_reducible refine HCALL.out.mono ?_); rintro e w4 ⟨rfl, hb1, hb2⟩; (have HS4 : Hid (SrcT w4 q g s (0, p + d)) := Lib.hid ⟨HS.out.src.keep hb2 (fun e => HS.out.ne (by injection e with e; exact e.symm)), hb1, HS.out.ne, HPD.out, HS.out.err⟩; have HF4 : Hid (Two q g w w4) := Lib.hid (HF.out.trans (fx_grown hb2 (fun k e => .inr (by injection e with e; exact e.symm)))); have hs4 := hb2.size; have HO4 := Lib.hid (HO.out.keep hb2 (ne_of_row (fun k hk e => by have := (HO.out.lt k hk).1; injection e with e; omega))); have HREP := Lib.hid (HRP.out w4 HS4.out HO4.out); clear hb1 hb2)) | (go_at_call 138; (with_reducible refine HREP.out.mono ?_); rintro e w5 ⟨rfl, hq1, hq2⟩; (have HS5 := Lib.hid hq1; have HF5 := Lib.hid hq2; have hs5 := hq2.size; have HO5 := Lib.hid (hq2.own HO4.out (fun k hk e => by have := (HO4.out.lt k hk).1; omega)); have HFL5 := Lib.hid (failS HS5.out 3 (by omega)); have HRUN := Lib.hid (HRN.out w5 HO5.out (by omega)); rw [show ((3 : Nat) : Int) = 3 from rfl] at HFL5; clear hq1 hq2)) | (go_at_call 109; (with_reducible refine HFL5.out.mono ?_); rintro e w6 ⟨rfl, hq1, hq2⟩; (have HQ1 := Lib.hid hq1; have HQ2 := Lib.hid hq2; clear hq1 hq2)))
              go_ret
              rw [HR2.out]
              exact ⟨_, rfl, Own.nil _ _ _, HQ1.out, (HF4.out.trans HF5.out).trans HQ2.out⟩
            · have hbi : ¬ (l.length : Int) + (m : Int) > (n : Int) := by omega
              have HR2 : Hid (R = rowN (numS s) (8 * s.size) L n f (l ++ List.replicate m y) st2) := Lib.hid (by rw [HST2.out]; exact if_neg hbig)
              clear HST2
              have HBN := Lib.hid hbig
              clear hbig
              go_wp2_with (first | (go_at_call 128; (with_reducible refine HCALL.out.mono ?_); rintro e w4 ⟨rfl, hb1, hb2⟩; (have HS4 : Hid (SrcT w4 q g s (0, p + d)) := Lib.hid ⟨HS.out.src.keep hb2 (fun e => HS.out.ne (by injection e with e; exact e.symm)), hb1, HS.out.ne, HPD.out, HS.out.err⟩; have HF4 : Hid (Two q g w w4) := Lib.hid (HF.out.trans (fx_grown hb2 (fun k e => .inr (by injection e with e; exact e.symm)))); have hs4 := hb2.size; have HO4 := Lib.hid (HO.out.keep hb2 (ne_of_row (fun k hk e => by have := (HO.out.lt k hk).1; injection e with e; omega))); have HREP := Lib.hid (HRP.out w4 HS4.out HO4.out); clear hb1 hb2)) | (go_at_call 138; (with_reducible refine HREP.out.mono ?_); rintro e w5 ⟨rfl, hq1, hq2⟩; (have HS5 := Lib.hid hq1; have HF5 := Lib.hid hq2; have hs5 := hq2.size; have HO5 := Lib.hid (hq2.own HO4.out (fun k hk e => by have := (HO4.out.lt k hk).1; omega)); have HFL5 := Lib.hid (failS HS5.out 3 (by omega)); have HRUN := Lib.hid (HRN.out w5 HO5.out (by omega)); rw [show ((3 : Nat) : Int) = 3 from rfl] at HFL5; clear hq1 hq2)) | (go_at_call 95; (with_reducible refine HRUN.out.mono ?_); rintro e w6 ⟨v6, rfl, hq1, hq2, hq3⟩; (have HQ1 := Lib.hid hq1; have HQ2 := Lib.hid hq2; clear hq1 hq2 hq3)))
              have hbn := HBN.out
              have hrpp := HRPP.out
              go_roundg f
              case measure => omega
              case rel =>
                have hr1 : (Value.slice oa l.length cap).ownBlock ≠ some q := fun e => by have := (HO4.out.lt q e).1; omega
                have hr2 : (Value.slice oa l.length cap).ownBlock ≠ some g := fun e => by have := (HO4.out.lt g e).1; omega
                exact ⟨l ++ List.replicate m y, st2.1, st2.2, HQ1.out, HS5.out.fx HQ2.out hr1 hr2, (HF4.out.trans HF5.out).far HQ2.out (fun k hk => .inr (HO4.out.lt k hk).1), Lib.hid HR2.out.symm, by simp; omega, fun h => by have := hrpp h; simp; omega⟩
        · have hz' : ((er : Int) != 0) = true := by simpa using hz
          have hd0 := hf3 hz
          have HST2 : Hid (R = (l, er, p)) := Lib.hid (by rw [HE.out]; unfold rowStep; exact if_pos hz)
          simp at hd0 hf1
          subst hd0
          clear hf3 hf4 HE hz
          go_wp2_with (first | (go_at_call 128; (with_reducible refine HCALL.out.mono ?_); rintro e w4 ⟨rfl, hb1, hb2⟩; (have HS4 : Hid (SrcT w4 q g s (0, p)) := Lib.hid ⟨HS.out.src.keep hb2 (fun e => HS.out.ne (by injection e with e; exact e.symm)), hb1, HS.out.ne, HS.out.le, HS.out.err⟩; have HF4 : Hid (Two q g w w4) := Lib.hid (HF.out.trans (fx_grown hb2 (fun k e => .inr (by injection e with e; exact e.symm)))); have HO4 := Lib.hid (HO.out.keep hb2 (ne_of_row (fun k hk e => by have := (HO.out.lt k hk).1; injection e with e; omega))); have HFC := Lib.hid (failS HS4.out er hf1); clear hb1 hb2)) | (go_at_call 109; (with_reducible refine HFC.out.mono ?_); rintro e w5 ⟨rfl, hq1, hq2⟩; (have HQ1 := Lib.hid hq1; have HQ2 := Lib.hid hq2; clear hq1 hq2)))
          have hzz : er ≠ 0 := by simpa using hz'
          go_roundg f
          case measure => omega
          case rel => exact ⟨l, er, p, HQ2.out.own HO4.out (fun k hk e => by have := (HO4.out.lt k hk).1; omega), HQ1.out, HF4.out.trans HQ2.out, Lib.hid ((rowN_stop _ _ _ _ _ _ _ (fun h => hzz h.1)).trans HST2.out.symm), hll, fun h => absurd h hzz⟩
      · have hlti : ¬ (l.length : Int) < (n : Int) := by omega
        have HE := Lib.hid (HSTOP.out gk l (0, p) (fun h => hlt h.2))
        rw [HRN.out] at HE
        clear hlt hf
        go_wp2
        go_ret
        rw [HE.out]
        exact ⟨_, rfl, HO.out, HS.out, HF.out⟩
    · have h0' : ((en : Int) == 0) = false := by simp; omega
      have HE := Lib.hid (HSTOP.out gk l (en, p) (fun h => h0 h.1))
      rw [HRN.out] at HE
      clear h0 hf
      go_wp2
      go_ret
      rw [HE.out]
      exact ⟨_, rfl, HO.out, HS.out, HF.out⟩
end Go.Cm

/- The walk of the source's stored head; the block of a head. Conditions: the source and the head are there. -/
namespace Go.Cm
open Go.RowKit Go.Proofs

theorem bits_xor_i64 (a b : Nat) (ha : a < 2 ^ 63) (hb : b < 2 ^ 63) : bits .xor .i64 (a : Int) (b : Int) = ((a ^^^ b : Nat) : Int) := by
  have hx : a ^^^ b < 2 ^ 63 := Nat.xor_lt_two_pow ha hb
  have ha' : a % 2 ^ 64 = a := Nat.mod_eq_of_lt (by omega)
  have hb' : b % 2 ^ 64 = b := Nat.mod_eq_of_lt (by omega)
  simp only [bits, BitVec.ofInt_natCast, BitVec.toNat_xor, BitVec.toNat_ofNat, show IntKind.i64.bits = 64 from rfl, ha', hb']
  rw [IntKind.wrap_i64]; omega
theorem xor_turn (n : Nat) (h : n < 65536) : n ^^^ 65535 = 65535 - n := by
  apply Nat.eq_of_testBit_eq
  intro i
  rw [Nat.testBit_xor, show 65535 = 2 ^ 16 - 1 by decide, Nat.testBit_two_pow_sub_one, show 2 ^ 16 - 1 - n = 2 ^ 16 - (n + 1) by omega, Nat.testBit_two_pow_sub_succ (by omega)]
  by_cases hi : i < 16
  · simp [hi]
  · have : n.testBit i = false := Nat.testBit_lt_two_pow (Nat.lt_of_lt_of_le h (by rw [show 65536 = 2 ^ 16 by decide]; exact Nat.pow_le_pow_right (by decide) (by omega)))
    simp [hi, this]
theorem bits_turn (n : Nat) (h : n < 65536) : bits .xor .i64 (n : Int) 65535 = ((65535 - n : Nat) : Int) := by
  have := bits_xor_i64 n 65535 (by omega) (by decide)
  rw [xor_turn n h] at this
  exact this
/-- the block of a head -/
structure BoxH (w : World) (b : Nat) (fin : Bool) (k z : Nat) (v1 v2 : Value) : Prop where
  own : Own w b 87 (.slice (some ⟨b, 0, none⟩) 5 5) [.bool fin, .int .i64 k, .int .i64 z, v1, v2]
section
variable {w w' : World} {b k z : Nat} {fin : Bool} {v1 v2 : Value}
theorem BoxH.up (h : BoxH w b fin k z v1 v2) (hb : Below w.heap.size w w') : BoxH w' b fin k z v1 v2 := ⟨h.own.up hb⟩
theorem BoxH.lt (h : BoxH w b fin k z v1 v2) : b < w.heap.size := (h.own.lt b rfl).2
theorem BoxH.c0 (h : BoxH w b fin k z v1 v2) : w.cell? ⟨b, 0, none⟩ = some (.bool fin) := h.own.cell (by simp)
theorem BoxH.c1 (h : BoxH w b fin k z v1 v2) : w.cell? ⟨b, 1, none⟩ = some (.int .i64 k) := h.own.cell (by simp)
theorem BoxH.c2 (h : BoxH w b fin k z v1 v2) : w.cell? ⟨b, 2, none⟩ = some (.int .i64 z) := h.own.cell (by simp)
theorem BoxH.c3 (h : BoxH w b fin k z v1 v2) : w.cell? ⟨b, 3, none⟩ = some v1 := h.own.cell (by simp)
theorem BoxH.c4 (h : BoxH w b fin k z v1 v2) : w.cell? ⟨b, 4, none⟩ = some v2 := h.own.cell (by simp)
theorem BoxH.free (h : BoxH w b fin k z v1 v2) (c : Nat) : w.frozen? ⟨b, c, none⟩ = false := h.own.free c
theorem BoxH.set1 (h : BoxH w b fin k z v1 v2) (r : Nat) : BoxH (w.setCell ⟨b, 1, none⟩ (.int .i64 r)) b fin r z v1 v2 ∧ w.grownBy (w.setCell ⟨b, 1, none⟩ (.int .i64 r)) (some b) := ⟨⟨(h.own.store 1 _).1⟩, (h.own.store 1 _).2⟩
theorem BoxH.set2 (h : BoxH w b fin k z v1 v2) (r : Nat) : BoxH (w.setCell ⟨b, 2, none⟩ (.int .i64 r)) b fin k r v1 v2 ∧ w.grownBy (w.setCell ⟨b, 2, none⟩ (.int .i64 r)) (some b) := ⟨⟨(h.own.store 2 _).1⟩, (h.own.store 2 _).2⟩
theorem BoxH.set3 (h : BoxH w b fin k z v1 v2) (u : Value) : BoxH (w.setCell ⟨b, 3, none⟩ u) b fin k z u v2 ∧ w.grownBy (w.setCell ⟨b, 3, none⟩ u) (some b) := ⟨⟨(h.own.store 3 _).1⟩, (h.own.store 3 _).2⟩
theorem BoxH.set4 (h : BoxH w b fin k z v1 v2) (u : Value) : BoxH (w.setCell ⟨b, 4, none⟩ u) b fin k z v1 u ∧ w.grownBy (w.setCell ⟨b, 4, none⟩ u) (some b) := ⟨⟨(h.own.store 4 _).1⟩, (h.own.store 4 _).2⟩
theorem BoxH.stay {row : Option Nat} (h : BoxH w b fin k z v1 v2) (hg : w.grownBy w' row) (hne : row ≠ some b) : BoxH w' b fin k z v1 v2 := ⟨h.own.keep hg (.inr (fun e => hne e.symm))⟩
theorem BoxH.fx {S : Nat → Prop} (h : BoxH w b fin k z v1 v2) (hf : Fx S w w') (h1 : ¬ S b) : BoxH w' b fin k z v1 v2 := ⟨hf.own h.own (fun k hk => by injection hk with hk; subst hk; exact h1)⟩
end
abbrev Three (q g b : Nat) (w w' : World) : Prop := Fx (fun k => k = q ∨ k = g ∨ k = b) w w'
theorem Three.of2 {q g b : Nat} {w w' : World} (h : Two q g w w') : Three q g b w w' := h.mono fun _ hk => hk.elim .inl (fun z => .inr (.inl z))
theorem Three.ofb {q g b : Nat} {w w' : World} (h : w.grownBy w' (some b)) : Three q g b w w' := fx_grown h (fun k e => .inr (.inr (by injection e with e; exact e.symm)))
theorem storedS {w : World} {q g b p k z : Nat} {s : ByteArray} {fin : Bool} {v1 v2 : Value} (h : SrcT w q g s (0, p)) (hh : BoxH w b fin k z v1 v2) (hq : q ≠ b) (hg : g ≠ b) (hs : s.size ≤ 4294967296) :
    Calls Try.prog 107 #[.pointer (some ⟨q, 0, none⟩), .pointer (some ⟨b, 0, none⟩)] w fun e w' => e = .returned (.tuple #[]) ∧ SrcT w' q g s (storedN (numS s) (8 * s.size) (0, p)).2 ∧ BoxH w' b fin k (storedN (numS s) (8 * s.size) (0, p)).1 v1 v2 ∧ Three q g b w w' := by
  have HT := Lib.hid h
  have HH := Lib.hid hh
  have c0 := h.src.c0
  have hqw := h.src.lt
  have hbw := hh.lt
  have hp8 : alignN p ≤ 8 * s.size := by have := h.le; unfold alignN; simp at this; omega
  have HP8 := Lib.hid hp8
  have HAL := Lib.hid (alignS h.box hs h.le)
  have HSB : Hid (∀ (W : World) (st : Nat × Nat), SrcT W q g s st → Calls Try.prog 106 #[.pointer (some ⟨q, 0, none⟩), .int .i64 16] W fun e w' => e = .returned (.int .i64 ((xb (numS s) (8 * s.size) 16 st).1 : Nat)) ∧ SrcT w' q g s (xb (numS s) (8 * s.size) 16 st).2 ∧ Two q g W w') := Lib.hid (fun W st h => srcBits h hs 16 (by omega))
  have hx1 := xb_lt (numS s) (8 * s.size) 16 (0, alignN p)
  have HXL := Lib.hid (fun st => xb_lt (numS s) (8 * s.size) 16 st)
  have HFA := Lib.hid (fun (W : World) (st : Nat × Nat) (h : SrcT W q g s st) => failS h 6 (by omega))
  rw [show ((6 : Nat) : Int) = 6 from rfl] at HFA
  clear h hh hp8
  unfold storedN
  dsimp only
  generalize numS s = N at *
  generalize hT : 8 * s.size = T at *
  obtain ⟨a, ha⟩ : ∃ a, a = xb N T 16 (0, alignN p) := ⟨_, rfl⟩
  rw [← ha] at hx1 ⊢
  have HSB1 := Lib.hid (fun W h => HSB.out W (0, alignN p) h)
  rw [← ha] at HSB1
  obtain ⟨d, hd⟩ : ∃ d, d = xb N T 16 a.2 := ⟨_, rfl⟩
  have hx2 := HXL.out a.2
  have HSB2 := Lib.hid (fun W h => HSB.out W a.2 h)
  rw [← hd] at hx2 HSB2 ⊢
  have HT8 := Lib.hid hT
  clear ha hd HXL hT HSB
  obtain ⟨n, st1⟩ := a
  obtain ⟨m, st2⟩ := d
  simp only at hx1 hx2
  have hxr := bits_turn n (by omega)
  by_cases hc : m + n = 65535
  · have hcc : ((m : Int) != ((65535 - n : Nat) : Int)) = false := by simp; omega
    have HX : Hid ((if m + n = 65535 then st2 else xf 6 st2) = st2) := Lib.hid (if_pos hc)
    rw [HX.out]
    clear hc HFA
    generalize 65535 - n = nt at *
    go_enter Try.func107, Try.ntmps107
    go_wp2_with (first | (go_at_call 123; (with_reducible refine HAL.out.mono ?_); rintro e w1 ⟨rfl, hb1, hb2⟩; (have HS1 : Hid (SrcT w1 q g s (0, alignN p)) := Lib.hid ⟨HT.out.src.keep hb2 (fun e => HT.out.ne (by injection e with e; exact e.symm)), hb1, HT.out.ne, (by have := HP8.out; have := HT8.out; simp only; omega), HT.out.err⟩; have HF1 : Hid (Three q g b w w1) := Lib.hid (Three.of2 (fx_grown hb2 (fun k e => .inr (by injection e with e; exact e.symm)))); have HH1 := Lib.hid (HH.out.stay hb2 (fun e => hg (by injection e))); have HC2 := Lib.hid (HSB1.out w1 HS1.out); clear hb1 hb2)) | (go_at_call 106; first | ((with_reducible refine HC2.out.mono ?_); rintro e w2 ⟨rfl, hb1, hb2⟩; (have HS2 := Lib.hid hb1; have HF2 := Lib.hid (HF1.out.trans (Three.of2 hb2)); have HH2 := Lib.hid (HH1.out.fx hb2 (fun e => e.elim (fun e => hq e.symm) (fun e => hg e.symm))); have HC3 := Lib.hid (HSB2.out w2 HS2.out); clear hb1 hb2 HC2)) | ((with_reducible refine HC3.out.mono ?_); rintro e w3 ⟨rfl, hb1, hb2⟩; (have HS3 := Lib.hid hb1; have HF3 := Lib.hid (HF2.out.trans (Three.of2 hb2)); have HH3 := Lib.hid (HH2.out.fx hb2 (fun e => e.elim (fun e => hq e.symm) (fun e => hg e.symm))); have hb3 := HH3.out.lt; have hf3 := HH3.out.free 2; have cc3 := HH3.out.c2; clear hb1 hb2 HC3))))
    have HST := Lib.hid (HH3.out.set2 n)
    go_end0
    refine ⟨rfl, ⟨HS3.out.src.keep HST.out.2 (fun e => hq (by injection e with e; exact e.symm)), HS3.out.box.stay HST.out.2 (fun e => hg (by injection e with e; exact e.symm)), HS3.out.ne, HS3.out.le, HS3.out.err⟩, HST.out.1, HF3.out.trans (Three.ofb HST.out.2)⟩
  · have hcc : ((m : Int) != ((65535 - n : Nat) : Int)) = true := by simp; omega
    have HX : Hid ((if m + n = 65535 then st2 else xf 6 st2) = xf 6 st2) := Lib.hid (if_neg hc)
    rw [HX.out]
    clear hc
    generalize 65535 - n = nt at *
    go_enter Try.func107, Try.ntmps107
    go_wp2_with (first | (go_at_call 123; (with_reducible refine HAL.out.mono ?_); rintro e w1 ⟨rfl, hb1, hb2⟩; (have HS1 : Hid (SrcT w1 q g s (0, alignN p)) := Lib.hid ⟨HT.out.src.keep hb2 (fun e => HT.out.ne (by injection e with e; exact e.symm)), hb1, HT.out.ne, (by have := HP8.out; have := HT8.out; simp only; omega), HT.out.err⟩; have HF1 : Hid (Three q g b w w1) := Lib.hid (Three.of2 (fx_grown hb2 (fun k e => .inr (by injection e with e; exact e.symm)))); have HH1 := Lib.hid (HH.out.stay hb2 (fun e => hg (by injection e))); have HC2 := Lib.hid (HSB1.out w1 HS1.out); clear hb1 hb2)) | (go_at_call 106; first | ((with_reducible refine HC2.out.mono ?_); rintro e w2 ⟨rfl, hb1, hb2⟩; (have HS2 := Lib.hid hb1; have HF2 := Lib.hid (HF1.out.trans (Three.of2 hb2)); have HH2 := Lib.hid (HH1.out.fx hb2 (fun e => e.elim (fun e => hq e.symm) (fun e => hg e.symm))); have HC3 := Lib.hid (HSB2.out w2 HS2.out); clear hb1 hb2 HC2)) | ((with_reducible refine HC3.out.mono ?_); rintro e w3 ⟨rfl, hb1, hb2⟩; (have HS3 := Lib.hid hb1; have HF3 := Lib.hid (HF2.out.trans (Three.of2 hb2)); have HH3 := Lib.hid (HH2.out.fx hb2 (fun e => e.elim (fun e => hq e.symm) (fun e => hg e.symm))); have HC4 := Lib.hid (HFA.out w3 st2 HS3.out); clear hb1 hb2 HC3))) | (go_at_call 109; (with_reducible refine HC4.out.mono ?_); rintro e w4 ⟨rfl, hb1, hb2⟩; (have HS4 := Lib.hid hb1; have HF4 := Lib.hid (HF3.out.trans (Three.of2 hb2)); have HH4 := Lib.hid (HH3.out.fx hb2 (fun e => e.elim (fun e => hq e.symm) (fun e => hg e.symm))); have hb3 := HH4.out.lt; have hf3 := HH4.out.free 2; have cc3 := HH4.out.c2; clear hb1 hb2)))
    have HST := Lib.hid (HH4.out.set2 n)
    go_end0
    refine ⟨rfl, ⟨HS4.out.src.keep HST.out.2 (fun e => hq (by injection e with e; exact e.symm)), HS4.out.box.stay HST.out.2 (fun e => hg (by injection e with e; exact e.symm)), HS4.out.ne, HS4.out.le, HS4.out.err⟩, HST.out.1, HF4.out.trans (Three.ofb HST.out.2)⟩
end Go.Cm

/- The fixed orders of a block's code lengths. Conditions: none. -/
namespace Go.Cm
open Go.RowKit Go.Proofs

theorem wpList_build_any {P : Program} {ops : Array Oper} {rest : List Oper} {o : Oper} {a : Act} {w : World} {Q : Exit → Act → World → Prop} (hgd : o.guard = none) (t : TypeId) (F : Array (Nat × Operand)) (ho : o.op = .build t F)
    (G : Array (Nat × Value)) (hG : (F.map fun (i, x) => (i, a.eval x)) = G) (C : Array Value) (hb : ∀ W, (Instr.build t G).run P W = .ok (.agg C) W)
    (h : wpList P ops Q rest (a.put o.dst (.agg C)) w) : wpList P ops Q (o :: rest) a w := by
  subst hG
  refine wpList_plain hgd fun K hK => ?_
  unfold Oper.wp execOp
  simp only [ho, Sem.run_bind, hb, Result.andThen_ok]
  exact hK _ _ h
def z19 : Array Value := (ints (List.replicate 19 0)).toArray
theorem zero_19 (W : World) : (zeroValue 138).run Try.prog W = .ok (.agg z19) W := by kernel_rfl
def ordG : Array (Nat × Value) := ((List.range 19).map fun i => (i, Value.int .i64 (ordN.getD i 0 : Nat))).toArray
theorem build_ord (W : World) : (Instr.build 138 ordG).run Try.prog W = .ok (.agg (ints (nls ordN)).toArray) W := by kernel_rfl
set_option maxRecDepth 100000 in
theorem ordP (w : World) : Calls Try.prog 93 #[] w fun e w' => e = .returned (.agg (ints (nls ordN)).toArray) ∧ Below w.heap.size w w' := by
  have hz := zero_19
  have hzl : z19.toList = ints (nls (List.replicate 19 0)) := rfl
  obtain ⟨Z, hZ⟩ : ∃ Z, Z = z19 := ⟨_, rfl⟩
  rw [← hZ] at hz hzl
  have hb := boxA_new w 138 Z (nls (List.replicate 19 0)) hzl (by decide)
  rw [show (nls (List.replicate 19 0)).length = 19 from rfl] at hb
  have hbd := build_ord
  have hl : ordN.length = 19 := rfl
  obtain ⟨O, hO⟩ : ∃ O, O = ordN := ⟨_, rfl⟩
  obtain ⟨R, hR⟩ : ∃ R, R = List.replicate 19 0 := ⟨_, rfl⟩
  rw [← hR] at hb
  rw [← hO] at hbd hl ⊢
  obtain ⟨C, hC⟩ : ∃ C, C = (ints (nls O)).toArray := ⟨_, rfl⟩
  rw [← hC] at hbd
  have HC := Lib.hid hC
  have HB := Lib.hid hb
  clear hZ hzl hO hR hC hb
  go_enter Try.func93, Try.ntmps93
  go_wp2_with (first | (refine wpList_build_any rfl 138 _ rfl ordG (by kernel_rfl) C hbd ?_) | (refine store_box rfl 138 19 _ _ rfl w.heap.size rfl (nls R) (nls O) (congrArg Value.agg HC.out) (by rw [nls_length]; exact hl) (by kernel_rfl) HB.out ?_; intro w2 hB2 hg2; have HB4 := Lib.hid hB2; have HG2 := Lib.hid hg2; clear hB2 hg2))
  refine ret_one_cell (s := 0) (ad := ⟨w.heap.size, 0, none⟩) (x := .agg (ints (nls O)).toArray) rfl rfl rfl (HB4.out.load _ Try.underlying138 rfl (by kernel_rfl)) ?_
  exact ⟨rfl, (below_alloc w _).grown HG2.out (by simp) (fun k hk => by cases hk; exact Nat.le_refl _)⟩
end Go.Cm

/- A region that draws its order, in phases: operations that only look, then operations that must come one behind the other, and so on. Conditions: none. -/
namespace Go.Cm
open Go.RowKit

section
variable {P : Program} {ops : Array Oper} {md : Region.Mode} {C : World → Prop}

def runA (md : Region.Mode) (ops : Array Oper) (k : Array Bool → Bool) : List Nat → Array Bool → Bool
  | [], listed => k listed
  | i :: r, listed => Region.ready md ops listed == [i] && runA md ops k r (listed.setIfInBounds i true)
def runQ (md : Region.Mode) (ops : Array Oper) (k : Array Bool → Bool) : List Nat → Array Bool → Bool
  | [], listed => k listed
  | i :: r, listed => (Region.ready md ops listed).contains i && Region.free md ops listed i && ((ops[i]?).map (fun o => noCall o.op)).getD false && runQ md ops k r (listed.setIfInBounds i true)
def runP (md : Region.Mode) (ops : Array Oper) : List (List Nat × List Nat) → Array Bool → Bool
  | [], listed => Region.ready md ops listed == []
  | ph :: r, listed => runQ md ops (runA md ops (runP md ops r) ph.2) ph.1 listed
def phLen : List (List Nat × List Nat) → Nat
  | [] => 0
  | ph :: r => ph.1.length + (ph.2.length + phLen r)
def phaseB (md : Region.Mode) (ops : Array Oper) (l : List (List Nat × List Nat)) : Bool :=
  Region.noSelect ops && (phLen l == ops.size) && runP md ops l (Array.replicate ops.size false)
def wpPhases (P : Program) (ops : Array Oper) (C : World → Prop) (Q : Act → World → Prop) : List (List Nat × List Nat) → Act → World → Prop
  | [], a, w => Q a w
  | ph :: r, a, w => wpQuiet P ops C (fun a' => wpAct P ops C (wpPhases P ops C Q r) (pick ops.toList ph.2) a' w) (pick ops.toList ph.1) a
theorem wpAnyM_runA {Q K : Act → World → Prop} {k : Array Bool → Bool} {n : Nat} (hk : ∀ listed a w, k listed = true → C w → K a w → wpAnyM P md ops C Q n listed a w) :
    ∀ (o2 : List Nat) (listed : Array Bool) (a : Act) (w : World), runA md ops k o2 listed = true → C w →
    wpAct P ops C K (pick ops.toList o2) a w → wpAnyM P md ops C Q (o2.length + n) listed a w
  | [], listed, a, w, hB, hC, h => by rw [List.length_nil, Nat.zero_add]; exact hk listed a w hB hC h
  | i :: r, listed, a, w, hB, hC, h => by
    simp only [runA, Bool.and_eq_true, beq_iff_eq] at hB
    obtain ⟨hr, hB'⟩ := hB
    have him : i ∈ Region.ready md ops listed := by rw [hr]; simp
    obtain ⟨_, o, ho, _⟩ := mem_ready.1 him
    have hol : ops.toList.getD i default = o := by rw [List.getD_eq_getElem?_getD, Array.getElem?_toList, ho]; rfl
    rw [List.length_cons, Nat.add_right_comm]
    refine ⟨hC, fun h0 => (by rw [hr] at h0; cases h0), fun j hj => ?_⟩
    obtain rfl : j = i := by rw [hr] at hj; simpa using hj
    simp only [pick, List.map_cons, hol] at h
    have h' : wpList P ops (actQ C (wpAct P ops C K (pick ops.toList r))) [o] a w := h
    unfold wpList at h'
    unfold wpOp
    simp only [ho]
    split
    · rename_i hw
      rw [if_pos hw] at h'
      rcases h' with h' | ⟨-, h'⟩
      · refine .inl (Oper.wp_mono ?_ (wp_exits (fun _ _ _ h => h) actQ_out h'))
        intro a' w' hh
        obtain ⟨hC', hk'⟩ := (hh : actQ C (wpAct P ops C K (pick ops.toList r)) .normal a' w')
        exact wpAnyM_runA hk r _ a' w' hB' hC' hk'
      · exact (actQ_out h').elim
    · rename_i hw
      rw [if_neg hw] at h'
      obtain ⟨hC', hk'⟩ := (h' : actQ C (wpAct P ops C K (pick ops.toList r)) .normal (a.put o.dst undef) w)
      exact wpAnyM_runA hk r _ _ _ hB' hC' hk'
theorem wpAnyM_runQ {Q : Act → World → Prop} {K : Act → Prop} {k : Array Bool → Bool} {n : Nat} {w : World} (hs : Region.noSelect ops = true) (hk : ∀ listed a, k listed = true → K a → wpAnyM P md ops C Q n listed a w) :
    ∀ (o1 : List Nat) (listed : Array Bool) (a : Act), runQ md ops k o1 listed = true →
    wpQuiet P ops C K (pick ops.toList o1) a → wpAnyM P md ops C Q (o1.length + n) listed a w
  | [], listed, a, hB, h => by rw [List.length_nil, Nat.zero_add]; exact hk listed a hB h
  | i :: r, listed, a, hB, h => by
    simp only [runQ, Bool.and_eq_true] at hB
    obtain ⟨⟨⟨hr, hf⟩, hn⟩, hB'⟩ := hB
    have him : i ∈ Region.ready md ops listed := by simpa using hr
    obtain ⟨_, o, ho, _⟩ := mem_ready.1 him
    have hol : ops.toList.getD i default = o := by rw [List.getD_eq_getElem?_getD, Array.getElem?_toList, ho]; rfl
    simp only [pick, List.map_cons, hol] at h
    have hn' : noCall o.op = true := by simpa [ho] using hn
    obtain ⟨v, hy, hK⟩ := yin_of_qOp (K := wpQuiet P ops C K (pick ops.toList r)) hn' h
    rw [List.length_cons, Nat.add_right_comm]
    exact wpAnyM_first ho (Region.noSelect_spec hs) _ listed a w (Region.free_spec ho hf) him hy (wpAnyM_runQ hs hk r _ _ hB' hK)
theorem wpAnyM_runP {Q : Act → World → Prop} (hs : Region.noSelect ops = true) : ∀ (l : List (List Nat × List Nat)) (listed : Array Bool) (a : Act) (w : World), runP md ops l listed = true → C w →
    wpPhases P ops C Q l a w → wpAnyM P md ops C Q (phLen l) listed a w
  | [], listed, a, w, hB, hC, h => ⟨hC, by simpa [runP] using hB, h⟩
  | ph :: r, listed, a, w, hB, hC, h =>
    wpAnyM_runQ hs (fun listed' a' hB' hK => wpAnyM_runA (K := wpPhases P ops C Q r) (fun l'' a'' w'' hB'' hC'' hK'' => wpAnyM_runP hs r l'' a'' w'' hB'' hC'' hK'') ph.2 listed' a' w hB' hC hK) ph.1 listed a hB h
/-- THE REGION in phases, where memory grows alone -/
theorem wp_region_phases {id : Nat} {Q : Exit → Act → World → Prop} {a : Act} {w : World} {l : List Oper} (C : World → Prop) (ps : List (List Nat × List Nat)) (hm : P.follows .mixedOrders = true) (hB : phaseB .any l.toArray ps = true) (hC : C w.drew)
    (h : wpPhases P l.toArray C (fun a'' w'' => C w'' → Q .normal a'' w'') ps a w.drew) : (Code.region id l.toArray true).wp P Q a w := by
  simp only [phaseB, Bool.and_eq_true, beq_iff_eq] at hB
  obtain ⟨⟨hs, hlen⟩, hB⟩ := hB
  refine wp_region_any hm ?_
  have h1 := wpAnyM_runP (Q := fun a'' w'' => C w'' → Q .normal a'' w'') (md := .any) hs ps (Array.replicate l.toArray.size false) a w.drew hB hC h
  rw [hlen] at h1
  exact wpAny_of_M (fun a w hC hq => hq hC) _ _ _ _ h1
end
end Go.Cm

/- A region that draws its order, by a script: looks that are taken first, and branches where several operations may come next. Conditions: none. -/
namespace Go.Cm
open Go.RowKit

inductive Scr where
  | done
  | q (i : Nat) (s : Scr)
  | br (i : Nat) (s : Scr) (t : Scr)
  | no
def Scr.heads : Scr → List Nat
  | .br i _ t => i :: t.heads
  | _ => []
def Scr.run (md : Region.Mode) (ops : Array Oper) : Scr → Bool → Nat → Array Bool → Bool
  | .done, top, n, listed => top && n == 0 && Region.ready md ops listed == []
  | .q i s, top, n, listed => top && decide (0 < n) && (Region.ready md ops listed).contains i && Region.free md ops listed i && ((ops[i]?).map (fun o => noCall o.op)).getD false && s.run md ops true (n - 1) (listed.setIfInBounds i true)
  | .br i s t, top, n, listed => (!top || Region.ready md ops listed == i :: t.heads) && decide (0 < n) && ((ops[i]?).isSome) && s.run md ops true (n - 1) (listed.setIfInBounds i true) && t.run md ops false n listed
  | .no, top, _, _ => !top
/-- one after the other -/
def Scr.as : List Nat → Scr → Scr
  | [], s => s
  | i :: r, s => .br i (Scr.as r s) .no
section
variable {P : Program} {ops : Array Oper} {md : Region.Mode} {C : World → Prop}
def wpScr (P : Program) (ops : Array Oper) (C : World → Prop) (Q : Act → World → Prop) : Scr → Act → World → Prop
  | .done, a, w => Q a w
  | .q i s, a, w => wpQuiet P ops C (fun a' => wpScr P ops C Q s a' w) (pick ops.toList [i]) a
  | .br i s t, a, w => wpAct P ops C (wpScr P ops C Q s) (pick ops.toList [i]) a w ∧ wpScr P ops C Q t a w
  | .no, _, _ => True
theorem pick_one {i : Nat} {o : Oper} (ho : ops[i]? = some o) : pick ops.toList [i] = [o] := by
  have hol : ops.toList.getD i default = o := by rw [List.getD_eq_getElem?_getD, Array.getElem?_toList, ho]; rfl
  show [ops.toList.getD i default] = [o]
  rw [hol]
theorem wpOp_of_act {K : Act → World → Prop} {K' : Act → World → Prop} {i : Nat} {o : Oper} {a : Act} {w : World} (ho : ops[i]? = some o) (h : wpAct P ops C K [o] a w) (hk : ∀ a w, C w → K a w → K' a w) : wpOp P ops noQ i K' a w := by
  have h' : wpList P ops (actQ C (wpAct P ops C K [])) [o] a w := h
  unfold wpList at h'
  unfold wpOp
  simp only [ho]
  split
  · rename_i hw
    rw [if_pos hw] at h'
    rcases h' with h' | ⟨-, h'⟩
    · refine .inl (Oper.wp_mono ?_ (wp_exits (fun _ _ _ h => h) actQ_out h'))
      intro a' w' hh
      obtain ⟨hC', hk'⟩ := (hh : actQ C (wpAct P ops C K []) .normal a' w')
      exact hk a' w' hC' hk'
    · exact (actQ_out h').elim
  · rename_i hw
    rw [if_neg hw] at h'
    obtain ⟨hC', hk'⟩ := (h' : actQ C (wpAct P ops C K []) .normal (a.put o.dst undef) w)
    exact hk _ _ hC' hk'
theorem wpAnyM_scr {Q : Act → World → Prop} (hs : Region.noSelect ops = true) : ∀ (s : Scr) (n : Nat) (listed : Array Bool) (a : Act) (w : World), C w → wpScr P ops C Q s a w →
    (s.run md ops true n listed = true → wpAnyM P md ops C Q n listed a w) ∧
    (s.run md ops false n listed = true → ∀ j ∈ s.heads, ∃ m, n = m + 1 ∧ wpOp P ops noQ j (wpAnyM P md ops C Q m (listed.setIfInBounds j true)) a w) := by
  intro s
  induction s with
  | done =>
    intro n listed a w hC h
    refine ⟨fun hB => ?_, fun _ j hj => by cases hj⟩
    simp only [Scr.run, Bool.true_and, Bool.and_eq_true, beq_iff_eq] at hB
    obtain ⟨rfl, hr⟩ := hB
    exact ⟨hC, hr, h⟩
  | no =>
    intro n listed a w hC h
    exact ⟨fun hB => by simp [Scr.run] at hB, fun _ j hj => by cases hj⟩
  | q i s ih =>
    intro n listed a w hC h
    refine ⟨fun hB => ?_, fun _ j hj => by cases hj⟩
    simp only [Scr.run, Bool.true_and, Bool.and_eq_true, decide_eq_true_eq] at hB
    obtain ⟨⟨⟨⟨h0, hr⟩, hf⟩, hn⟩, hB'⟩ := hB
    obtain ⟨m, rfl⟩ : ∃ m, n = m + 1 := ⟨n - 1, by omega⟩
    have him : i ∈ Region.ready md ops listed := by simpa using hr
    obtain ⟨_, o, ho, _⟩ := mem_ready.1 him
    have hn' : noCall o.op = true := by simpa [ho] using hn
    have h' : wpQuiet P ops C (fun a' => wpScr P ops C Q s a' w) [o] a := by
      have := h; unfold wpScr at this; rwa [pick_one ho] at this
    obtain ⟨v, hy, hK⟩ := yin_of_qOp (K := wpQuiet P ops C (fun a' => wpScr P ops C Q s a' w) []) hn' h'
    exact wpAnyM_first ho (Region.noSelect_spec hs) _ listed a w (Region.free_spec ho hf) him hy ((ih m _ _ w hC hK).1 hB')
  | br i s t ihs iht =>
    intro n listed a w hC h
    obtain ⟨h1, h2⟩ := h
    have key : s.run md ops true (n - 1) (listed.setIfInBounds i true) = true → (ops[i]?).isSome = true → 0 < n → t.run md ops false n listed = true → ∀ j ∈ (Scr.br i s t).heads, ∃ m, n = m + 1 ∧ wpOp P ops noQ j (wpAnyM P md ops C Q m (listed.setIfInBounds j true)) a w := by
      intro hB1 hsome h0 hB2 j hj
      obtain ⟨m, rfl⟩ : ∃ m, n = m + 1 := ⟨n - 1, by omega⟩
      rcases List.mem_cons.1 hj with rfl | hj
      · obtain ⟨o, ho⟩ := Option.isSome_iff_exists.1 hsome
        rw [pick_one ho] at h1
        exact ⟨m, rfl, wpOp_of_act ho h1 fun a' w' hC' hk => (ihs m _ a' w' hC' hk).1 hB1⟩
      · exact (iht (m + 1) listed a w hC h2).2 hB2 j hj
    constructor
    · intro hB
      simp only [Scr.run, Bool.not_true, Bool.false_or, Bool.and_eq_true, beq_iff_eq, decide_eq_true_eq] at hB
      obtain ⟨⟨⟨⟨hr, h0⟩, hsome⟩, hB1⟩, hB2⟩ := hB
      obtain ⟨m, rfl⟩ : ∃ m, n = m + 1 := ⟨n - 1, by omega⟩
      refine ⟨hC, fun h0 => (by rw [hr] at h0; cases h0), fun j hj => ?_⟩
      rw [hr] at hj
      obtain ⟨m', hm, hw⟩ := key hB1 hsome h0 hB2 j hj
      obtain rfl : m = m' := by omega
      exact hw
    · intro hB
      simp only [Scr.run, Bool.not_false, Bool.true_or, Bool.true_and, Bool.and_eq_true, decide_eq_true_eq] at hB
      obtain ⟨⟨⟨h0, hsome⟩, hB1⟩, hB2⟩ := hB
      exact key hB1 hsome h0 hB2
def scrB (md : Region.Mode) (ops : Array Oper) (s : Scr) : Bool := Region.noSelect ops && s.run md ops true ops.size (Array.replicate ops.size false)
/-- THE REGION by a script -/
theorem wp_region_scr {id : Nat} {Q : Exit → Act → World → Prop} {a : Act} {w : World} {l : List Oper} (C : World → Prop) (s : Scr) (hm : P.follows .mixedOrders = true) (hB : scrB .any l.toArray s = true) (hC : C w.drew)
    (h : wpScr P l.toArray C (fun a'' w'' => C w'' → Q .normal a'' w'') s a w.drew) : (Code.region id l.toArray true).wp P Q a w := by
  simp only [scrB, Bool.and_eq_true] at hB
  obtain ⟨hs, hB⟩ := hB
  refine wp_region_any hm ?_
  have h1 := (wpAnyM_scr (Q := fun a'' w'' => C w'' → Q .normal a'' w'') (md := .any) hs s l.toArray.size (Array.replicate l.toArray.size false) a w.drew hC h).1 hB
  exact wpAny_of_M (fun a w hC hq => hq hC) _ _ _ _ h1
end
end Go.Cm

/- Parts of slices, tables that stay, lengths of rows. Conditions: none. -/
namespace Go.Cm
open Go.RowKit Go.Proofs

theorem run_cut {P : Program} (t E : TypeId) (ht : P.underlying t = some (.slice E)) (hE : (P.info? E).map (·.size) = some 1) : P.underlying t = some (.slice (P.elem t)) ∧ ∀ W : World, (sizeOf (P.elem t)).run P W = .ok 1 W := by
  have he : P.elem t = E := by simp [Program.elem, ht]
  refine ⟨by rw [he]; exact ht, fun W => ?_⟩
  rw [he]
  cases hq : P.info? E with
  | none => simp [hq] at hE
  | some inf =>
    have : inf.size = 1 := by simpa [hq] using hE
    simp [sizeOf, typeInfo, hq, this]
/-- the first n of a slice -/
theorem Sl.low {P : Program} {w : World} {v : Value} {l : List Value} (h : Sl w v l) (t E : TypeId) (ht : P.underlying t = some (.slice E)) (hE : (P.info? E).map (·.size) = some 1) (n : Nat) (hn : n ≤ l.length) :
    ∃ u, (∀ W : World, (Instr.sliceAt t v none (some (.int .i64 (n : Int))) none).run P W = .ok u W) ∧ Sl w u (l.take n) := by
  obtain ⟨oa, cap, b, off, rfl, hd, hc⟩ := h
  obtain ⟨h1, h2⟩ := run_cut t E ht hE
  have hcap := hd.hcap
  have hl : (l.take n).length = n := by rw [List.length_take]; omega
  refine ⟨sliced oa 0 n cap 1, fun W => ?_, ?_⟩
  · rw [run_sliceAt_slice (P := P) (t := t) (h := h1), run_slice_h (t := t) (ht := h1) (h0 := by omega) (h2 := by omega), h2]
    simp [Result.andThen]
  · refine ⟨if cap = 0 then oa else oa.map (·.add (0 * 1)), cap, b, off, by rw [hl]; simp [sliced], ⟨fun h0 => ?_, by omega, hd.hmax, by have := hd.hsml; omega, fun h0 => hd.hblk (by omega)⟩, fun i hi => ?_⟩
    · rw [hl] at h0
      rw [if_neg (by omega), hd.hat (by omega)]
      simp [add_off]
    · rw [hl] at hi
      rw [hc i (by omega)]
      simp [List.getD, hi]
/-- a slice from n on -/
theorem Sl.high {P : Program} {w : World} {v : Value} {l : List Value} (h : Sl w v l) (t E : TypeId) (ht : P.underlying t = some (.slice E)) (hE : (P.info? E).map (·.size) = some 1) (n : Nat) (hn : n ≤ l.length) :
    ∃ u, (∀ W : World, (Instr.sliceAt t v (some (.int .i64 (n : Int))) none none).run P W = .ok u W) ∧ Sl w u (l.drop n) := by
  obtain ⟨oa, cap, b, off, rfl, hd, hc⟩ := h
  obtain ⟨h1, h2⟩ := run_cut t E ht hE
  have hcap := hd.hcap
  have hl : (l.drop n).length = l.length - n := by rw [List.length_drop]
  refine ⟨sliced oa n l.length cap 1, fun W => ?_, ?_⟩
  · rw [run_sliceAt_slice (P := P) (t := t) (h := h1), run_slice_l (t := t) (ht := h1) (h0 := by omega) (h1 := by omega), h2]
    simp [Result.andThen]
  · refine ⟨if cap = n then oa else oa.map (·.add (n * 1)), cap - n, b, off + n, by rw [hl]; simp [sliced], ⟨fun h0 => ?_, by omega, by have := hd.hmax; omega, by have := hd.hsml; omega, fun h0 => hd.hblk (by omega)⟩, fun i hi => ?_⟩
    · rw [hl] at h0
      rw [if_neg (by omega), hd.hat (by omega)]
      simp [add_off]
    · rw [hl] at hi
      rw [Nat.add_assoc, hc (n + i) (by omega)]
      simp [List.getD]
theorem ints_take (l : List Nat) (n : Nat) : (ints (nls l)).take n = ints (nls (l.take n)) := by simp [ints, nls, List.map_take]
theorem ints_drop (l : List Nat) (n : Nat) : (ints (nls l)).drop n = ints (nls (l.drop n)) := by simp [ints, nls, List.map_drop]
theorem ints_nls_len (l : List Nat) : (ints (nls l)).length = l.length := by simp [ints, nls]
theorem Fx.ownB {S : Nat → Prop} {w w' : World} {B E : Nat} {v : Value} {xs : List Value} (h : Fx S w w') (ho : Own w B E v xs) (hS : ∀ k, S k → k < B) : Own w' B E v xs :=
  h.own ho (fun k hk hs => by have := (ho.lt k hk).1; have := hS k hs; omega)
theorem TabAt.fx {S : Nat → Prop} {w w' : World} {B g : Nat} {L : List Nat} (h : TabAt w B g L) (hf : Fx S w w') (hS : ∀ k, S k → k < B) : TabAt w' B g L := by
  obtain ⟨E, fs, vf, hM, hok⟩ := h
  exact ⟨E, fs, vf, ⟨hf.ownB hM.box hS, hf.ownB hM.outer hS, hM.ne, fun k f hk => ⟨hf.ownB (hM.rows k f hk).1 hS, (hM.rows k f hk).2⟩, hM.apart⟩, hok⟩
theorem fitsE_le (l : List Int) (o : Bool) : fitsE l o ≤ 64 := by
  have hw : wrongI l ≤ 3 := by
    unfold wrongI
    split
    · omega
    · split <;> omega
  have he : errI l ≤ 7 := by
    unfold errI
    split
    · omega
    · split <;> omega
  unfold fitsE
  split
  · omega
  · split
    · omega
    · split
      · omega
      · split <;> omega
theorem fits2_le (a b : List Nat) : fits2 a b ≤ 64 := by
  have h1 := fitsE_le (nls a) true
  have h2 := fitsE_le (nls b) true
  unfold fits2
  split
  · omega
  · split <;> omega
theorem rowN_len (N T : Nat) (L : List Nat) (n : Nat) : ∀ (f : Nat) (l : List Nat) (st : Nat × Nat), l.length ≤ n → n - l.length < f → (rowN N T L n f l st).2.1 = 0 → (rowN N T L n f l st).1.length = n := by
  intro f
  induction f with
  | zero => intro l st h1 h2; omega
  | succ f ih =>
    intro l st h1 h2 h
    by_cases hc : st.1 = 0 ∧ l.length < n
    · obtain ⟨en, p⟩ := st
      obtain ⟨h0, hlt⟩ := hc
      simp only at h0; subst h0
      rw [rowN_step N T L n f l p hlt] at h ⊢
      obtain ⟨f1, -, -, -⟩ := readF_facts L (N / 2 ^ p) (T - p)
      generalize readF L (N / 2 ^ p) (T - p) = r at *
      unfold rowStep at h ⊢
      by_cases h1' : r.2.1 ≠ 0
      · rw [if_pos h1'] at h; exact absurd h h1'
      · rw [if_neg h1'] at h ⊢
        by_cases h3 : r.1 < 16
        · rw [if_pos h3] at h ⊢
          exact ih _ _ (by simp; omega) (by simp; omega) h
        · rw [if_neg h3] at h ⊢
          have hrp := rep_pos N T r.1 l (p + r.2.2)
          generalize repN N T r.1 l (0, p + r.2.2) = m at *
          by_cases h4 : n < l.length + m.1
          · rw [if_pos h4] at h
            exfalso
            by_cases h5 : m.2.2.1 = 0
            · unfold xf at h; rw [if_pos h5] at h; cases h
            · rw [xf_of h5] at h; exact h5 h
          · rw [if_neg h4] at h ⊢
            by_cases h5 : m.2.2.1 = 0
            · have := hrp h5
              exact ih _ _ (by simp; omega) (by simp; omega) h
            · exfalso
              rw [rowN_stop _ _ _ _ _ _ _ (fun z => h5 z.1)] at h
              exact h5 h
    · rw [rowN_stop _ _ _ _ _ _ _ hc] at h ⊢
      simp only at h ⊢
      have : ¬ l.length < n := fun z => hc ⟨h, z⟩
      omega
theorem codeK_len (N T c : Nat) (x : List Nat × (Nat × Nat)) : ∀ k, (codeK N T c k x).1.length = x.1.length
  | 0 => rfl
  | k + 1 => by
    rw [codeK]; split
    · simp only [List.length_set]; exact codeK_len N T c x k
    · exact codeK_len N T c x k
end Go.Cm

/- The walk of the source's dynamic head. Conditions: the source and the head are there. -/
namespace Go.Cm
open Go.RowKit Go.Proofs

theorem run_index_arr {P : Program} (T E n : Nat) (hT : P.underlying T = some (.array n E)) (hE : P.underlying E = some (.int .i64)) (hs : (P.info? E).map (·.size) = some 1) (A : Array Value) (j : Nat) (hj : j < n) (v : Value) (hv : A[j]? = some v) :
    ∀ W : World, (Instr.index T (.agg A) (.int .i64 (j : Int))).run P W = .ok v W := by
  intro W
  have hsz : (sizeOf E).run P W = .ok 1 W := by
    cases hq : P.info? E with
    | none => simp [hq] at hs
    | some inf =>
      have : inf.size = 1 := by simpa [hq] using hs
      simp [sizeOf, typeInfo, hq, this]
  have hag : (isAgg E).run P W = .ok false W := by unfold isAgg; rw [Sem.run_bind, run_underlying hE]; rfl
  have hc : (0 : Int) ≤ (j : Int) ∧ (j : Int) < ((n : Nat) : Int) := by omega
  simp only [Instr.index, asIntOf, Sem.run_bind, Sem.run_pure, Result.andThen_ok, run_underlying hT]
  rw [if_pos hc]
  simp only [Sem.run_bind, hsz, Result.andThen_ok, part, hag, Int.toNat_natCast, Nat.mul_one, hv]
  rfl
theorem ordN_lt (j : Nat) : ordN.getD j 0 < 19 := by
  by_cases h : j < 19
  · have : ∀ j, j < 19 → ordN.getD j 0 < 19 := by decide
    exact this j h
  · rw [List.getD_eq_getElem?_getD, List.getElem?_eq_none (by show 19 ≤ j; omega)]; decide
theorem ordA (j : Nat) (h : j < 19) : ((ints (nls ordN)).toArray)[j]? = some (.int .i64 (ordN.getD j 0 : Nat)) := by
  have hl : j < ordN.length := h
  simp [ints, nls, List.getD, hl]
theorem codeK_step (N T c k : Nat) (x : List Nat × (Nat × Nat)) : codeK N T c (k + 1) x = if k < 4 + c ∧ (codeK N T c k x).2.1 = 0 then ((codeK N T c k x).1.set (ordN.getD k 0) (xb N T 3 (codeK N T c k x).2).1, (xb N T 3 (codeK N T c k x).2).2) else codeK N T c k x := rfl
set_option maxRecDepth 100000 in
set_option maxHeartbeats 4000000 in
theorem dynamicS {w : World} {q g b p k z : Nat} {s : ByteArray} {fin : Bool} (h : SrcT w q g s (0, p)) (hh : BoxH w b fin k z (.slice none 0 0) (.slice none 0 0)) (hq : q ≠ b) (hg : g ≠ b) (hs : s.size ≤ 4294967296) :
    Calls Try.prog 108 #[.pointer (some ⟨q, 0, none⟩), .pointer (some ⟨b, 0, none⟩)] w fun e w' => e = .returned (.tuple #[]) ∧ SrcT w' q g s (dynN (numS s) (8 * s.size) (0, p)).2.2 ∧ Three q g b w w' ∧
      ∃ v1 v2, BoxH w' b fin k z v1 v2 ∧ ((dynN (numS s) (8 * s.size) (0, p)).2.2.1 = 0 → Own w' w.heap.size 3 v1 (ints (nls (dynN (numS s) (8 * s.size) (0, p)).1)) ∧ Own w' w.heap.size 3 v2 (ints (nls (dynN (numS s) (8 * s.size) (0, p)).2.1))) := by
  have HT := Lib.hid h
  have HH := Lib.hid hh
  have hqw := h.src.lt
  have hbw := hh.lt
  have hgw := h.box.lt
  have HSB := Lib.hid (fun (W : World) (st : Nat × Nat) (n : Nat) (hn : n ≤ 32) (h : SrcT W q g s st) => srcBits h hs n hn)
  have HXL := Lib.hid (fun st n => xb_lt (numS s) (8 * s.size) n st)
  have HFA := Lib.hid (fun (W : World) (st : Nat × Nat) (er : Nat) (he : er ≤ 64) (h : SrcT W q g s st) => failS h er he)
  have HRS := Lib.hid (fun (W : World) (gt : Nat) (st : Nat × Nat) (h : SrcT W q g s st) => rowS (gt := gt) h hs)
  have HRP := Lib.hid (fun (W : World) (B gt p : Nat) (L : List Nat) (hT : TabAt W B gt L) (h15 : ∀ x ∈ L, x ≤ 15) (h : BoxS W g s p) (hp : p ≤ 8 * s.size) => readP hT h h15 hs hp)
  obtain ⟨D, hD⟩ : ∃ D, D = dynN (numS s) (8 * s.size) (0, p) := ⟨_, rfl⟩
  rw [← hD]
  unfold dynN at hD
  clear h hh
  generalize hNN : numS s = N at HSB HXL hD
  generalize hTT : 8 * s.size = T at HSB HXL hD
  have HNN := Lib.hid hNN
  have HTT := Lib.hid hTT
  clear hNN hTT
  obtain ⟨r1, h1⟩ : ∃ r1, r1 = xb N T 5 (0, p) := ⟨_, rfl⟩
  rw [← h1] at hD
  obtain ⟨r2, h2⟩ : ∃ r2, r2 = xb N T 5 r1.2 := ⟨_, rfl⟩
  rw [← h2] at hD
  obtain ⟨r3, h3⟩ : ∃ r3, r3 = xb N T 4 r2.2 := ⟨_, rfl⟩
  rw [← h3] at hD
  have hx1 := HXL.out (0, p) 5
  have hx2 := HXL.out r1.2 5
  have hx3 := HXL.out r2.2 4
  have HB1 := Lib.hid (fun W h => HSB.out W (0, p) 5 (by omega) h)
  have HB2 := Lib.hid (fun W h => HSB.out W r1.2 5 (by omega) h)
  have HB3 := Lib.hid (fun W h => HSB.out W r2.2 4 (by omega) h)
  have HB4 : Hid (∀ (W : World) (st : Nat × Nat), SrcT W q g s st → Calls Try.prog 106 #[.pointer (some ⟨q, 0, none⟩), .int .i64 3] W fun e w' => e = .returned (.int .i64 ((xb N T 3 st).1 : Nat)) ∧ SrcT w' q g s (xb N T 3 st).2 ∧ Two q g W w') := Lib.hid (fun W st h => HSB.out W st 3 (by omega) h)
  rw [← h1] at HB1 hx1
  rw [← h2] at HB2 hx2
  rw [← h3] at HB3 hx3
  rw [show ((5 : Nat) : Int) = 5 from rfl] at HB1 HB2
  rw [show ((4 : Nat) : Int) = 4 from rfl] at HB3
  clear h1 h2 h3 HSB
  obtain ⟨a, s1⟩ := r1
  obtain ⟨d, s2⟩ := r2
  obtain ⟨c, s3⟩ := r3
  simp only at hx1 hx2 hx3 hD
  unfold dynM at hD
  obtain ⟨la, hla⟩ : ∃ la, la = 257 + a := ⟨_, rfl⟩
  obtain ⟨lb, hlb⟩ : ∃ lb, lb = 1 + d := ⟨_, rfl⟩
  obtain ⟨st4, h4⟩ : ∃ st4, st4 = if 286 < la ∨ 30 < lb then xf 3 s3 else s3 := ⟨_, rfl⟩
  rw [← hla, ← hlb, ← h4] at hD
  have HD := Lib.hid hD
  have HLA := Lib.hid hla
  have HLB := Lib.hid hlb
  have H4 := Lib.hid h4
  have H4E : Hid (st4.1 = 0 → la ≤ 286 ∧ lb ≤ 30) := Lib.hid (fun h => by
    by_cases hc : 286 < la ∨ 30 < lb
    · exfalso
      rw [h4, if_pos hc] at h
      by_cases h0 : s3.1 = 0
      · unfold xf at h; rw [if_pos h0] at h; cases h
      · rw [xf_of h0] at h; exact h0 h
    · omega)
  clear hD hla hlb h4
  go_enter Try.func108, Try.ntmps108
  go_upto_region 1 with (go_at_call 106; first | ((with_reducible refine (HB1.out w HT.out).mono ?_); rintro e w1 ⟨rfl, hb1, hb2⟩; (have HS1 := Lib.hid hb1; have HF1 := Lib.hid (Three.of2 (b := b) hb2); have HH1 := Lib.hid (HH.out.fx hb2 (fun e => e.elim (fun e => hq e.symm) (fun e => hg e.symm))); clear hb1 hb2 HB1)) | ((with_reducible refine (HB2.out w1 HS1.out).mono ?_); rintro e w2 ⟨rfl, hb1, hb2⟩; (have HS2 := Lib.hid hb1; have HF2 := Lib.hid (HF1.out.trans (Three.of2 hb2)); have HH2 := Lib.hid (HH1.out.fx hb2 (fun e => e.elim (fun e => hq e.symm) (fun e => hg e.symm))); clear hb1 hb2 HB2)) | ((with_reducible refine (HB3.out w2 HS2.out).mono ?_); rintro e w3 ⟨rfl, hb1, hb2⟩; (have HS3 := Lib.hid hb1; have HF3 := Lib.hid (HF2.out.trans (Three.of2 hb2)); have HH3 := Lib.hid (HH2.out.fx hb2 (fun e => e.elim (fun e => hq e.symm) (fun e => hg e.symm))); clear hb1 hb2 HB3)))
  clear HS1 HF1 HH1 HS2 HF2 HH2
  rw [show (257 : Int) + (a : Int) = (la : Int) by rw [HLA.out]; go_num, show (1 : Int) + (d : Int) = (lb : Int) by rw [HLB.out]; go_num, show (4 : Int) + (c : Int) = ((4 + c : Nat) : Int) by go_num]
  have hlam : la ≤ 300 := by have := HLA.out; omega
  have hlbm : lb ≤ 300 := by have := HLB.out; omega
  have hsz := HF3.out.size
  go_cut [4, 5, 6, 28] (fun x4 x5 x6 x28 wx => x4 = .int .i64 (la : Int) ∧ x5 = .int .i64 (lb : Int) ∧ x6 = .int .i64 ((4 + c : Nat) : Int) ∧ x28 = .bool (decide (286 < la ∨ 30 < lb)) ∧ wx = w3)
  case first =>
    by_cases hc1 : 286 < la
    · have hi : (la : Int) > 286 := by omega
      go_wp2
      go_meet
      case rel => exact ⟨rfl, rfl, rfl, by simp [hc1], rfl⟩
    · have hi : ¬ (la : Int) > 286 := by omega
      by_cases hc2 : 30 < lb
      · have hi2 : (lb : Int) > 30 := by omega
        go_wp2
        go_meet
        case rel => exact ⟨rfl, rfl, rfl, by simp [hc1, hc2], rfl⟩
      · have hi2 : ¬ (lb : Int) > 30 := by omega
        go_wp2
        go_meet
        case rel => exact ⟨rfl, rfl, rfl, by simp [hc1, hc2], rfl⟩
  case rest =>
  obtain ⟨rfl, rfl, rfl, rfl, rfl⟩ := hcut
  go_upto_if 28 with fail
  go_cut [4, 5, 6] (fun x4 x5 x6 wx => x4 = .int .i64 (la : Int) ∧ x5 = .int .i64 (lb : Int) ∧ x6 = .int .i64 ((4 + c : Nat) : Int) ∧ SrcT wx q g s st4 ∧ Three q g b w wx ∧ BoxH wx b fin k z (.slice none 0 0) (.slice none 0 0))
  case first =>
    have HC4 := Lib.hid (HFA.out _ s3 3 (by omega) HS3.out)
    rw [show ((3 : Nat) : Int) = 3 from rfl] at HC4
    by_cases hc1 : 286 < la ∨ 30 < lb
    · have HST : Hid (st4 = xf 3 s3) := Lib.hid (by rw [H4.out, if_pos hc1])
      have hdt : decide (286 < la ∨ 30 < lb) = true := decide_eq_true hc1
      rw [hdt]
      go_wp2_with (go_at_call 109; (with_reducible refine HC4.out.mono ?_); rintro e w4 ⟨rfl, hb1, hb2⟩; (have HS4 := Lib.hid hb1; have HF4 := Lib.hid (HF3.out.trans (Three.of2 hb2)); have HH4 := Lib.hid (HH3.out.fx hb2 (fun e => e.elim (fun e => hq e.symm) (fun e => hg e.symm))); clear hb1 hb2))
      go_meet
      case rel => exact ⟨rfl, rfl, rfl, by rw [HST.out]; exact HS4.out, HF4.out, HH4.out⟩
    · have HST : Hid (st4 = s3) := Lib.hid (by rw [H4.out, if_neg hc1])
      have hdt : decide (286 < la ∨ 30 < lb) = false := decide_eq_false hc1
      rw [hdt]
      go_wp2
      go_meet
      case rel => exact ⟨rfl, rfl, rfl, by rw [HST.out]; exact HS3.out, HF3.out, HH3.out⟩
  case rest =>
    obtain ⟨rfl, rfl, rfl, hs4, hf4, hh4⟩ := hcut
    clear HS3 HF3 HH3 HXL
    have HS4 := Lib.hid hs4
    have HF4 := Lib.hid hf4
    have HH4 := Lib.hid hh4
    have hsz4 := hf4.size
    clear hs4 hf4 hh4 hsz
    have hmk : ∀ W : World, (Instr.makeSlice 39 (.int .i64 19) (.int .i64 19)).run Try.prog W = .ok (.slice (some ⟨W.heap.size, 0, none⟩) 19 19) (W.alloc (.cells (madeCells #[Value.int .i64 0] 19) 3)) := run_mk (P := Try.prog) 39 3 (.int .i64 0) 8 19 Try.underlying39 (by kernel_rfl) rfl (by decide) (by omega)
    have hom := own_made wc w.heap.size 3 (.int .i64 0) 19 hsz4 (by decide)
    have hzl : List.replicate 19 (Value.int .i64 0) = ints (nls (List.replicate 19 0)) := rfl
    rw [hzl] at hom
    clear hzl
    obtain ⟨Z, hZ⟩ : ∃ Z, Z = List.replicate 19 0 := ⟨_, rfl⟩
    rw [← hZ] at hom HD
    have HZ : Hid (Z.length = 19) := Lib.hid (by rw [hZ]; rfl)
    have HOM := Lib.hid hom
    clear hZ hom
    generalize madeCells #[Value.int .i64 0] 19 = MC at *
    obtain ⟨O, hO⟩ : ∃ O, O = (ints (nls ordN)).toArray := ⟨_, rfl⟩
    have HO : Hid (∀ j, j < 19 → O[j]? = some (.int .i64 (ordN.getD j 0 : Nat))) := Lib.hid (fun j hj => by rw [hO]; exact ordA j hj)
    have HOR : Hid (∀ W : World, Calls Try.prog 93 #[] W fun e w' => e = .returned (.agg O) ∧ Below W.heap.size W w') := Lib.hid (fun W => by rw [hO]; exact ordP W)
    clear hO
    have HSTEP := Lib.hid (fun j => codeK_step N T c j (Z, st4))
    have HCL := Lib.hid (fun j => codeK_len N T c (Z, st4) j)
    have HK0 : Hid (codeK N T c 0 (Z, st4) = (Z, st4)) := Lib.hid rfl
    go_wp2_with (go_at_call 93; (with_reducible refine (HOR.out _).mono ?_); rintro e w5 ⟨rfl, hb5⟩; (have HB5 := Lib.hid hb5; clear hb5))
    have HO5 := Lib.hid (HOM.out.up HB5.out)
    have HB4 := Lib.hid (below_alloc wc (.cells MC 3))
    have HS5 := Lib.hid ((HS4.out.up HB4.out).up HB5.out)
    have HF5 : Hid (Three q g b w w5) := Lib.hid ((HF4.out.trans (fx_below HB4.out)).trans (fx_below HB5.out))
    have HH5 := Lib.hid ((HH4.out.up HB4.out).up HB5.out)
    have hgc5 : wc.heap.size < w5.heap.size := Nat.lt_of_lt_of_le (by simp) HB5.out.size
    clear HOM HB4 HB5 HS4 HF4 HH4 hmk HOR
    generalize wc.heap.size = gc at *
    go_loopg [33] 20 (fun gk i wr => ∃ j, j ≤ 19 ∧ i = .int .i64 (j : Nat) ∧ Own wr w.heap.size 3 (.slice (some ⟨gc, 0, none⟩) 19 19) (ints (nls (codeK N T c j (Z, st4)).1)) ∧ SrcT wr q g s (codeK N T c j (Z, st4)).2 ∧ Three q g b w wr ∧ BoxH wr b fin k z (.slice none 0 0) (.slice none 0 0) ∧ gk = 20 - j)
    case atStart => exact ⟨0, Nat.zero_le _, rfl, by rw [HK0.out]; exact HO5.out, by rw [HK0.out]; exact HS5.out, HF5.out, HH5.out, rfl⟩
    case round =>
      clear HO5 HS5 HF5 HH5 HK0
      obtain ⟨j, hj, rfl, ho, hsr, hf, hh, hgk⟩ := hrel
      have HOW := Lib.hid ho
      have HSW := Lib.hid hsr
      have HFW := Lib.hid hf
      have HHW := Lib.hid hh
      have hszr := hf.size
      have hgcw := (ho.lt gc rfl).2
      have hcl := HCL.out j
      have hst := HSTEP.out j
      clear ho hsr hf hh
      by_cases hlt : j < 19
      · clear HSTEP HCL HD
        generalize codeK N T c j (Z, st4) = K at *
        obtain ⟨L, en, p5⟩ := K
        have HST := Lib.hid hst
        have hcell := HO.out j hlt
        have hy := ordN_lt j
        have hji : (j : Int) < 19 := by omega
        have hixO := run_index_arr (P := Try.prog) 138 3 19 Try.underlying138 Try.underlying3 (by kernel_rfl) O j hlt _ hcell
        have HLL : Hid (L.length = 19) := Lib.hid (by rw [← HZ.out]; exact hcl)
        clear hst hcl
        generalize ordN.getD j 0 = y at *
        have c0 := HSW.out.src.c0
        have c1 := HSW.out.src.c1
        have he : (((L, en, p5).2.1 : Nat) : Int) = (en : Int) := rfl
        rw [he] at c1
        clear he
        have hqr := HSW.out.src.lt
        by_cases hc : j < 4 + c
        · have hci : (j : Int) < ((4 + c : Nat) : Int) := by omega
          by_cases h0 : en = 0
          · subst h0
            have HK2 : Hid (codeK N T c (j + 1) (Z, st4) = (L.set y (xb N T 3 (0, p5)).1, (xb N T 3 (0, p5)).2)) := Lib.hid (by rw [HST.out]; exact if_pos ⟨hc, rfl⟩)
            have HBC := Lib.hid (HB4.out wr (0, p5) HSW.out)
            generalize xb N T 3 (0, p5) = r at *
            obtain ⟨x, st6⟩ := r
            clear HST HB4
            have hd : Hd wr (some ⟨gc, 0, none⟩) 19 19 gc 0 := ⟨fun _ => rfl, Nat.le_refl _, by decide, by decide, fun _ => hgcw⟩
            have hixk := fun W : World => index_any (P := Try.prog) 39 3 Try.underlying39 (by kernel_rfl) hd W .i64 (y : Int) (by omega) (by omega)
            simp only [Nat.zero_add, Int.toNat_natCast] at hixk
            have HSL : Hid ((ints (nls L)).set y (.int .i64 (x : Nat)) = ints (nls (L.set y x))) := Lib.hid (by rw [ints_set', nls_set])
            clear hd
            go_wp2_with (go_at_call 106; (with_reducible refine HBC.out.mono ?_); rintro e w6 ⟨rfl, hb1, hb2⟩; (have HS6 := Lib.hid hb1; have HF6 := Lib.hid (HFW.out.trans (Three.of2 hb2)); have HH6 := Lib.hid (HHW.out.fx hb2 (fun e => e.elim (fun e => hq e.symm) (fun e => hg e.symm))); have HO6 := Lib.hid (hb2.ownB HOW.out (fun k hk => hk.elim (fun e => by omega) (fun e => by omega))); have hf6 := HO6.out.free y; have hgc6 := (HO6.out.lt gc rfl).2; have HSET := Lib.hid (HO6.out.store y (.int .i64 (x : Nat))); have hcc6 := HO6.out.cell (i := y) (by rw [ints_nls_len]; show y < L.length; rw [HLL.out]; exact hy); clear hb1 hb2))
            go_roundg (20 - (j + 1))
            case measure => omega
            case rel =>
              have hset := HSET.out
              rw [HSL.out] at hset
              refine ⟨j + 1, by omega, by go_num, ?_, ?_, ?_, ?_, rfl⟩
              · rw [HK2.out]; exact hset.1
              · rw [HK2.out]
                exact ⟨HS6.out.src.keep hset.2 (fun e => by injection e with e; omega), HS6.out.box.stay hset.2 (fun e => by injection e with e; omega), HS6.out.ne, HS6.out.le, HS6.out.err⟩
              · exact HF6.out.grown hset.2 (fun k e => .inr (by injection e with e; omega))
              · exact HH6.out.stay hset.2 (fun e => by injection e with e; omega)
          · have h0' : ((en : Int) == 0) = false := by simp; omega
            have HK2 : Hid (codeK N T c (j + 1) (Z, st4) = (L, en, p5)) := Lib.hid (by rw [HST.out]; exact if_neg (fun z => h0 z.2))
            clear HST HB4 h0
            go_wp2
            go_roundg (20 - (j + 1))
            case measure => omega
            case rel => exact ⟨j + 1, by omega, by go_num, by rw [HK2.out]; exact HOW.out, by rw [HK2.out]; exact HSW.out, HFW.out, HHW.out, rfl⟩
        · have hci : ¬ (j : Int) < ((4 + c : Nat) : Int) := by omega
          have HK2 : Hid (codeK N T c (j + 1) (Z, st4) = (L, en, p5)) := Lib.hid (by rw [HST.out]; exact if_neg (fun z => hc z.1))
          clear HST HB4
          go_wp2
          go_roundg (20 - (j + 1))
          case measure => omega
          case rel => exact ⟨j + 1, by omega, by go_num, by rw [HK2.out]; exact HOW.out, by rw [HK2.out]; exact HSW.out, HFW.out, HHW.out, rfl⟩
      · obtain rfl : j = 19 := by omega
        clear hlt HSTEP HB4 HO hst
        generalize codeK N T c 19 (Z, st4) = K at *
        obtain ⟨L, en, p5⟩ := K
        have hcl' : L.length = 19 := by rw [← HZ.out]; exact hcl
        have HLL := Lib.hid hcl'
        have c0 := HSW.out.src.c0
        have c1 := HSW.out.src.c1
        have he : (((L, en, p5).2.1 : Nat) : Int) = (en : Int) := rfl
        rw [he] at c1
        have hqr := HSW.out.src.lt
        have HLT : Hid (wr.cell? ⟨q, 1, none⟩ = wr.cell? ⟨q, 1, none⟩) := Lib.hid rfl
        clear he hcl hcl' HLT HCL HZ H4
        by_cases h0 : en = 0
        · subst h0
          have HI := Lib.hid (show IntsAt wr (.slice (some ⟨gc, 0, none⟩) 19 19) (nls L) from HOW.out.sl)
          have HFI := Lib.hid (fun (W : World) (hb : Below wr.heap.size wr W) => fitsP (.slice (some ⟨gc, 0, none⟩) 19 19) (nls L) false W (HI.out.up hb))
          have HNW := Lib.hid (newP (.slice (some ⟨gc, 0, none⟩) 19 19) (nls L) wr HI.out)
          unfold RetTab at HNW
          have HFE := Lib.hid (fun h => fitsE_bad (l := nls L) false h)
          have HFL := Lib.hid (fitsE_le (nls L) false)
          have HEL := Lib.hid (fun h => errI_list (l := nls L) h)
          have hhd := HD.out
          unfold dynL at hhd
          dsimp only at hhd
          have hen0 : ¬ ((0 : Nat) ≠ 0) := fun h => h rfl
          rw [if_neg hen0] at hhd
          have HD2 := Lib.hid hhd
          clear HD hhd hen0
          generalize fitsE (nls L) false = F at *
          generalize errI (nls L) = E at *
          by_cases hF : F = 0
          · subst hF
            have hE : E = 0 := by
              apply Classical.byContradiction; intro hn
              exact hn (HFE.out hn).symm
            subst hE
            have HD3 : Hid (D = if (rowN N T L (257 + a + (1 + d)) (257 + a + (1 + d) + 1) [] (0, p5)).2.1 ≠ 0 then ([], [], (rowN N T L (257 + a + (1 + d)) (257 + a + (1 + d) + 1) [] (0, p5)).2) else ((rowN N T L (257 + a + (1 + d)) (257 + a + (1 + d) + 1) [] (0, p5)).1.take (257 + a), (rowN N T L (257 + a + (1 + d)) (257 + a + (1 + d) + 1) [] (0, p5)).1.drop (257 + a), fits2 ((rowN N T L (257 + a + (1 + d)) (257 + a + (1 + d) + 1) [] (0, p5)).1.take (257 + a)) ((rowN N T L (257 + a + (1 + d)) (257 + a + (1 + d) + 1) [] (0, p5)).1.drop (257 + a)), (rowN N T L (257 + a + (1 + d)) (257 + a + (1 + d) + 1) [] (0, p5)).2.2)) := Lib.hid (by rw [HD2.out, if_neg (fun h => h rfl)])
            have hla := HLA.out
            have hlb := HLB.out
            rw [← hla, ← hlb] at HD3
            clear hla hlb HD2
            obtain ⟨L', hL', -, h15, -⟩ := HEL.out rfl
            have hLL' : L' = L := by
              have := congrArg (List.map Int.toNat) hL'
              rw [nls_toNat, nls_toNat] at this
              exact this.symm
            subst hLL'
            clear hL' HEL HFE
            have hnn := HNN.out
            have htt := HTT.out
            subst hnn htt
            have HN : Hid (Calls Try.prog 87 #[.slice (some ⟨gc, 0, none⟩) 19 19] wr fun e w' => ∃ gt, e = .returned (.tuple #[.pointer (some ⟨gt, 0, none⟩), .int .i64 0]) ∧ TabAt w' wr.heap.size gt L' ∧ Below wr.heap.size wr w') := Lib.hid (HNW.out.mono fun e w' ⟨hb, h⟩ => by
              rcases h with ⟨-, gt, he, hT⟩ | ⟨hne, -⟩
              · rw [nls_toNat] at hT; exact ⟨gt, he, hT, hb⟩
              · exact absurd rfl hne)
            have H15 := Lib.hid h15
            clear HNW h15
            obtain ⟨r, hr⟩ : ∃ r, r = rowN (numS s) (8 * s.size) L' (la + lb) (la + lb + 1) [] (0, p5) := ⟨_, rfl⟩
            have HRL : Hid (r.2.1 = 0 → r.1.length = la + lb) := Lib.hid (fun h => by rw [hr] at h ⊢; exact rowN_len _ _ _ _ _ _ _ (Nat.zero_le _) (by simp) h)
            have hq2 := HSW.out.src.lt
            have hg2 := HSW.out.box.lt
            have HROW : Hid (∀ (W : World) (gt : Nat), SrcT W q g s (0, p5) → TabAt W wr.heap.size gt L' → Calls Try.prog 124 #[.pointer (some ⟨q, 0, none⟩), .pointer (some ⟨gt, 0, none⟩), .int .i64 ((la : Int) + (lb : Int))] W fun e w' => ∃ v, e = .returned v ∧ Own w' W.heap.size 3 v (ints (nls r.1)) ∧ SrcT w' q g s r.2 ∧ Two q g W w') := Lib.hid (fun W gt hW hT => by
              have := HRS.out W gt (0, p5) hW (la + lb) (by omega) L' (by rw [HLL.out]; decide) (fun W' p' hf hb hp => HRP.out W' wr.heap.size gt p' L' (hT.fx hf (fun k hk => hk.elim (fun e => by omega) (fun e => by omega))) H15.out hb hp)
              rw [← hr, Int.natCast_add] at this
              exact this)
            rw [← hr] at HD3
            clear hr HRS HRP
            obtain ⟨R, en6, p6⟩ := r
            dsimp only at HD3 HRL HROW
            by_cases h6 : en6 = 0
            · subst h6
              have HRL2 : Hid (R.length = la + lb) := Lib.hid (HRL.out rfl)
              have HDX : Hid (D = (R.take la, R.drop la, fits2 (R.take la) (R.drop la), p6)) := Lib.hid (by rw [HD3.out]; exact if_neg (fun h => h rfl))
              have HTB : Hid (∀ {w7 w8 : World} {gt : Nat}, TabAt w7 wr.heap.size gt L' → Below w7.heap.size w7 w8 → TabAt w8 wr.heap.size gt L') := Lib.hid (fun h hb => h.fx (S := fun _ => False) (fx_below hb) (fun k hk => hk.elim))
              clear HD3 HRL
              go_wp2_with (first | (go_at_call 87; (with_reducible refine HN.out.mono ?_); rintro e w7 ⟨gt, rfl, hT7, hb7⟩; (have HT7 := Lib.hid hT7; have HB7 := Lib.hid hb7; have HFC := Lib.hid (HFI.out w7 hb7); clear hT7 hb7)) | (go_at_call 116; (with_reducible refine HFC.out.mono ?_); rintro e w8 ⟨rfl, hb8⟩; (have HB8 := Lib.hid (below_up HB7.out hb8); have HS8 := Lib.hid (HSW.out.up (below_up HB7.out hb8)); have HT8 := Lib.hid (HTB.out HT7.out hb8); have HRC := Lib.hid (HROW.out w8 gt HS8.out HT8.out); clear hb8)) | (go_at_call 124; (with_reducible refine HRC.out.mono ?_); rintro e w9 ⟨v9, rfl, hb9, hc9, hd9⟩; (have HR9 := Lib.hid hb9; have HS9 := Lib.hid hc9; have HF9 := Lib.hid hd9; have cc9 := hc9.src.c1; have cq9 := hc9.src.lt; have hee : (((0, p6) : Nat × Nat).1 : Int) = (0 : Int) := rfl; rw [hee] at cc9; clear hb9 hc9 hd9 hee)))
              have HF9W : Hid (Three q g b w w9) := Lib.hid ((HFW.out.trans (fx_below HB8.out)).trans (Three.of2 HF9.out))
              have HH9 := Lib.hid ((HHW.out.up HB8.out).fx HF9.out (fun e => e.elim (fun e => hq e.symm) (fun e => hg e.symm)))
              have hrl := HRL2.out
              obtain ⟨u1, hu1, hsl1⟩ := HR9.out.sl.low (P := Try.prog) 39 3 Try.underlying39 (by kernel_rfl) la (by rw [ints_nls_len]; omega)
              obtain ⟨u2, hu2, hsl2⟩ := HR9.out.sl.high (P := Try.prog) 39 3 Try.underlying39 (by kernel_rfl) la (by rw [ints_nls_len]; omega)
              rw [ints_take] at hsl1
              rw [ints_drop] at hsl2
              have HL1 := Lib.hid hsl1
              have HL2 := Lib.hid hsl2
              have HN1 : Hid ((ints (nls (R.take la))).length ≤ 4294967296 ∧ (ints (nls (R.drop la))).length ≤ 4294967296) := Lib.hid (by simp [ints, nls]; omega)
              have HZ0 : Hid (w.heap.size ≤ w9.heap.size) := Lib.hid HF9W.out.size
              clear hsl1 hsl2 hrl HSW HFW HHW HOW HFI HN HROW HB7 HFC HB8 HS8 HT8 HT7 HRC HF9 HTB HI c0 c1
              refine wp_region_scr (C := fun w' => ∃ x, w' = chg w9 (some b) x) (.q 0 (.q 1 (.q 2 (.q 3 (.q 4 (.q 6 (.q 7 (.q 8 (.br 5 (.br 9 (.br 10 (.br 11 (.br 12 (.br 13 (.br 14 (.br 15 .done .no) .no) .no) .no) .no) .no) .no) .no))))))))) (by kernel_rfl) (by kernel_rfl) (ex_chg (grown_drew _ _)) ?_
              have HB10 : Hid (Below w9.heap.size w9 w9.drew) := Lib.hid (b_drew1 (Below.refl _ _))
              generalize w9.drew = w10 at *
              have HR10 := Lib.hid HB10.out.size
              (repeat ((unfold wpScr; simp only [pick, List.map_cons, List.map_nil, List.getD_cons_zero, List.getD_cons_succ]); go_big_quiet_step (fail); refine wpQuiet_nil ?_))
              ((unfold wpScr; simp only [pick, List.map_cons, List.map_nil, List.getD_cons_zero, List.getD_cons_succ]); refine ⟨?_, by unfold wpScr; trivial⟩; unfold wpAct)
              go_wp2_with (at_builtin; refine wpList_app rfl (.const (.slice none 0 0)) (.tmp 91) 39 rfl w.heap.size 3 (.int .i64 0) 8 Try.underlying39 (by kernel_rfl) rfl (by decide) (.slice none 0 0) [] rfl (Own.nil _ _ _) u1 (ints (nls (R.take la))) rfl (HL1.out.up HB10.out) (ints_cell _) (by have := HN1.out.1; simpa using this) (Nat.le_trans HZ0.out HR10.out) ?_; intro v1 w11 hown1 hg1 hk1; (have HO11 := Lib.hid hown1; have HG11 := Lib.hid hg1; clear hown1 hg1 hk1))
              have HB11 : Hid (Below w9.heap.size w9 w11) := Lib.hid (HB10.out.grown HG11.out HR10.out (fun k hk => by cases hk))
              refine ⟨ex_chg (grown_below HB11.out _), ?_⟩
              unfold wpAct
              ((unfold wpScr; simp only [pick, List.map_cons, List.map_nil, List.getD_cons_zero, List.getD_cons_succ]); refine ⟨?_, by unfold wpScr; trivial⟩; unfold wpAct)
              go_wp2_with (at_builtin; refine wpList_app rfl (.const (.slice none 0 0)) (.tmp 95) 39 rfl w.heap.size 3 (.int .i64 0) 8 Try.underlying39 (by kernel_rfl) rfl (by decide) (.slice none 0 0) [] rfl (Own.nil _ _ _) u2 (ints (nls (R.drop la))) rfl (HL2.out.up HB11.out) (ints_cell _) (by have := HN1.out.2; simpa using this) (Nat.le_trans HZ0.out HB11.out.size) ?_; intro v2 w12 hown1 hg1 hk1; (have HO12 := Lib.hid hown1; have HG12 := Lib.hid hg1; clear hown1 hg1 hk1))
              have HB12 : Hid (Below w9.heap.size w9 w12) := Lib.hid (HB11.out.grown HG12.out HB11.out.size (fun k hk => by cases hk))
              refine ⟨ex_chg (grown_below HB12.out _), ?_⟩
              unfold wpAct
              have HO13 := Lib.hid (HO11.out.keep HG12.out (ne_of_row (fun k hk e => by cases e)))
              rw [List.nil_append] at HO12 HO13
              obtain ⟨o1, c1', g1, hv1, -⟩ := HO13.out.cases
              obtain ⟨o2, c2', g2, hv2, -⟩ := HO12.out.cases
              subst hv1 hv2
              generalize (ints (nls (R.take la))).length = n1 at *
              generalize (ints (nls (R.drop la))).length = n2 at *
              have HH12 := Lib.hid (HH9.out.up HB12.out)
              have hb12 := HH12.out.lt
              have hf12 := HH12.out.free 3
              have hc12 := HH12.out.c3
              have HST := Lib.hid (HH12.out.set3 (.slice o1 n1 c1'))
              clear HO11 HG11 HG12 HB11 HB10 HL1 HL2
              (((unfold wpScr; simp only [pick, List.map_cons, List.map_nil, List.getD_cons_zero, List.getD_cons_succ]); refine ⟨?_, by unfold wpScr; trivial⟩; unfold wpAct); go_wp2; refine ⟨ex_chg (grown_below HB12.out _), ?_⟩)
              unfold wpAct
              (((unfold wpScr; simp only [pick, List.map_cons, List.map_nil, List.getD_cons_zero, List.getD_cons_succ]); refine ⟨?_, by unfold wpScr; trivial⟩; unfold wpAct); go_wp2; refine ⟨ex_chg (grown_below HB12.out _), ?_⟩)
              unfold wpAct
              (((unfold wpScr; simp only [pick, List.map_cons, List.map_nil, List.getD_cons_zero, List.getD_cons_succ]); refine ⟨?_, by unfold wpScr; trivial⟩; unfold wpAct); go_wp2; refine ⟨ex_chg (grown_trans (grown_below HB12.out _) HST.out.2), ?_⟩)
              unfold wpAct
              have HH13 := Lib.hid HST.out.1
              have hb13 := HH13.out.lt
              have hf13 := HH13.out.free 4
              have hc13 := HH13.out.c4
              have HST2 := Lib.hid (HH13.out.set4 (.slice o2 n2 c2'))
              have HG13 := Lib.hid (grown_trans (grown_below HB12.out (some b)) HST.out.2)
              have HO14 := Lib.hid (HO13.out.keep HST.out.2 (ne_of_row (fun k hk e => by have := (HO13.out.lt k hk).1; injection e with e; omega)))
              have HP14 := Lib.hid (HO12.out.keep HST.out.2 (ne_of_row (fun k hk e => by have := (HO12.out.lt k hk).1; injection e with e; omega)))
              clear hb12 hf12 hc12 HST HH12 HB12 HO13 HO12
              generalize w12.setCell ⟨b, 3, none⟩ (.slice o1 n1 c1') = w13 at *
              (((unfold wpScr; simp only [pick, List.map_cons, List.map_nil, List.getD_cons_zero, List.getD_cons_succ]); refine ⟨?_, by unfold wpScr; trivial⟩; unfold wpAct); go_wp2; refine ⟨ex_chg HG13.out, ?_⟩)
              unfold wpAct
              (((unfold wpScr; simp only [pick, List.map_cons, List.map_nil, List.getD_cons_zero, List.getD_cons_succ]); refine ⟨?_, by unfold wpScr; trivial⟩; unfold wpAct); go_wp2; refine ⟨ex_chg HG13.out, ?_⟩)
              unfold wpAct
              (((unfold wpScr; simp only [pick, List.map_cons, List.map_nil, List.getD_cons_zero, List.getD_cons_succ]); refine ⟨?_, by unfold wpScr; trivial⟩; unfold wpAct); go_wp2; refine ⟨ex_chg (grown_trans HG13.out HST2.out.2), ?_⟩)
              unfold wpAct
              unfold wpScr
              first | (intro _ hqq; clear hqq) | (intro hqq; clear hqq)
              have HG14 := Lib.hid (grown_trans HG13.out HST2.out.2)
              have HH14 := Lib.hid HST2.out.1
              have HO15 := Lib.hid (HO14.out.keep HST2.out.2 (ne_of_row (fun k hk e => by have := (HO14.out.lt k hk).1; injection e with e; omega)))
              have HP15 := Lib.hid (HP14.out.keep HST2.out.2 (ne_of_row (fun k hk e => by have := (HP14.out.lt k hk).1; injection e with e; omega)))
              clear HST2 hb13 hf13 hc13 HH13 HG13 HO14 HP14
              generalize w13.setCell ⟨b, 4, none⟩ (.slice o2 n2 c2') = w14 at *
              have HS14 : Hid (SrcT w14 q g s (0, p6)) := Lib.hid (HS9.out.kept HG14.out (fun e => hq (by injection e with e; exact e.symm)) (fun e => hg (by injection e with e; exact e.symm)))
              have HF14 : Hid (Three q g b w w14) := Lib.hid (HF9W.out.trans (Three.ofb HG14.out))
              clear HG14 HF9W HS9 HH9 cc9
              have cb3 := HH14.out.c3
              have cb4 := HH14.out.c4
              have hb14 := HH14.out.lt
              have HLE := Lib.hid (fits2_le (R.take la) (R.drop la))
              have HLT : Hid (256 < (R.take la).length) := Lib.hid (by have := HRL2.out; have := HLA.out; simp; omega)
              have HFT : Hid (∀ W, Below w14.heap.size w14 W → Calls Try.prog 92 #[.slice o1 n1 c1', .slice o2 n2 c2'] W fun e w' => e = .returned (.int .i64 (fits2 (R.take la) (R.drop la) : Nat)) ∧ Below W.heap.size W w') := Lib.hid (fun W hb => fits2P _ _ _ _ W (show IntsAt W _ _ from HO15.out.sl.up hb) (show IntsAt W _ _ from HP15.out.sl.up hb) HLT.out)
              have HFG := Lib.hid (fun (W : World) (hb : Below w14.heap.size w14 W) => HFA.out W (0, p6) (fits2 (R.take la) (R.drop la)) HLE.out (HS14.out.up hb))
              clear HRL2 HLE HLT
              generalize fits2 (R.take la) (R.drop la) = fe at *
              have HXF : Hid (xf fe (0, p6) = (fe, p6)) := Lib.hid rfl
              rw [HXF.out] at HFG
              go_wp2
              refine wp_region_tailg [0,1,2,3,4,5,6,7,8] [9] [10] (by kernel_rfl) (by kernel_rfl) ?_
              simp only [pick, List.map_cons, List.map_nil, List.getD_cons_zero, List.getD_cons_succ]
              repeat (go_big_quiet_step (fail))
              refine wpQuiet_nil ?_
              have HB15 : Hid (Below w14.heap.size w14 w14.drew) := Lib.hid (b_drew1 (Below.refl _ _))
              generalize w14.drew = w15 at *
              unfold wpAct
              go_wp2_with (go_at_call 92; (with_reducible refine (HFT.out _ HB15.out).mono ?_); rintro e w16 ⟨rfl, hb16⟩; (have HB16 := Lib.hid (HB15.out.trans (hb16.mono HB15.out.size)); clear hb16))
              refine ⟨ex_ext HB16.out, ?_⟩
              unfold wpAct
              unfold wpAct
              go_wp2_with (go_at_call 109; (with_reducible refine (HFG.out _ HB16.out).mono ?_); rintro e w17 ⟨rfl, hs17, hf17⟩; (have HS17 := Lib.hid hs17; have HF17 := Lib.hid hf17; clear hs17 hf17))
              refine ⟨trivial, ?_⟩
              unfold wpAct
              go_wp2
              go_end0
              rw [HDX.out]
              have hwb : w.heap.size ≤ w14.heap.size := HF14.out.size
              exact ⟨rfl, HS17.out, (HF14.out.trans (fx_below HB16.out)).trans (Three.of2 HF17.out), _, _, (HH14.out.up HB16.out).fx HF17.out (fun e => e.elim (fun e => hq e.symm) (fun e => hg e.symm)), fun _ => ⟨HF17.out.ownB (HO15.out.up HB16.out) (fun k hk => hk.elim (fun e => by omega) (fun e => by omega)), HF17.out.ownB (HP15.out.up HB16.out) (fun k hk => hk.elim (fun e => by omega) (fun e => by omega))⟩⟩
            · have h6' : ((en6 : Int) != 0) = true := by simpa using h6
              have HDX : Hid (D = ([], [], (en6, p6))) := Lib.hid (by rw [HD3.out]; exact if_pos h6)
              have HTB : Hid (∀ {w7 w8 : World} {gt : Nat}, TabAt w7 wr.heap.size gt L' → Below w7.heap.size w7 w8 → TabAt w8 wr.heap.size gt L') := Lib.hid (fun h hb => h.fx (S := fun _ => False) (fx_below hb) (fun k hk => hk.elim))
              clear HD3 h6 HRL
              go_wp2_with (first | (go_at_call 87; (with_reducible refine HN.out.mono ?_); rintro e w7 ⟨gt, rfl, hT7, hb7⟩; (have HT7 := Lib.hid hT7; have HB7 := Lib.hid hb7; have HFC := Lib.hid (HFI.out w7 hb7); clear hT7 hb7)) | (go_at_call 116; (with_reducible refine HFC.out.mono ?_); rintro e w8 ⟨rfl, hb8⟩; (have HB8 := Lib.hid (below_up HB7.out hb8); have HS8 := Lib.hid (HSW.out.up (below_up HB7.out hb8)); have HT8 := Lib.hid (HTB.out HT7.out hb8); have HRC := Lib.hid (HROW.out w8 gt HS8.out HT8.out); clear hb8)) | (go_at_call 124; (with_reducible refine HRC.out.mono ?_); rintro e w9 ⟨v9, rfl, hb9, hc9, hd9⟩; (have HR9 := Lib.hid hb9; have HS9 := Lib.hid hc9; have HF9 := Lib.hid hd9; have cc9 := hc9.src.c1; have cq9 := hc9.src.lt; have hee : (((en6, p6).1 : Nat) : Int) = (en6 : Int) := rfl; rw [hee] at cc9; clear hb9 hc9 hd9 hee)))
              ((try simp only [Exit.inBlock, Exit.then]); refine bodyPost_ret (results_none rfl _ _ _) rfl ?_)
              rw [HDX.out]
              have h6 : en6 ≠ 0 := by simpa using h6'
              exact ⟨rfl, HS9.out, (HFW.out.trans (fx_below HB8.out)).trans (Three.of2 HF9.out), _, _, (HHW.out.up HB8.out).fx HF9.out (fun e => e.elim (fun e => hq e.symm) (fun e => hg e.symm)), fun h => absurd h h6⟩
          · have HDX : Hid (D = ([], [], (F, p5))) := Lib.hid (by rw [HD2.out]; exact if_pos hF)
            have HXF : Hid (xf F (0, p5) = (F, p5)) := Lib.hid rfl
            have hFi : ((F : Int) != 0) = true := by simpa using hF
            clear HD2 HRS HRP HEL
            by_cases hE : E = 0
            · subst hE
              have HN : Hid (Calls Try.prog 87 #[.slice (some ⟨gc, 0, none⟩) 19 19] wr fun e w' => ∃ gt, e = .returned (.tuple #[.pointer (some ⟨gt, 0, none⟩), .int .i64 0]) ∧ Below wr.heap.size wr w') := Lib.hid (HNW.out.mono fun e w' ⟨hb, h⟩ => by
                rcases h with ⟨-, gt, he, -⟩ | ⟨hne, -⟩
                · exact ⟨gt, he, hb⟩
                · exact absurd rfl hne)
              have hmx : (F : Int) > 0 := by omega
              clear HNW
              go_wp2_with (first | (go_at_call 87; (with_reducible refine HN.out.mono ?_); rintro e w7 ⟨gt, rfl, hb7⟩; (have HB7 := Lib.hid hb7; have HFC := Lib.hid (HFI.out w7 hb7); clear hb7)) | (go_at_call 116; (with_reducible refine HFC.out.mono ?_); rintro e w8 ⟨rfl, hb8⟩; (have HB8 := Lib.hid (below_up HB7.out hb8); have HS8 := Lib.hid (HSW.out.up (below_up HB7.out hb8)); have HFAC := Lib.hid (HFA.out w8 (0, p5) F HFL.out HS8.out); clear hb8)) | (go_at_call 109; (with_reducible refine HFAC.out.mono ?_); rintro e w9 ⟨rfl, hb9, hc9⟩; (have HS9 := Lib.hid hb9; have HF9 := Lib.hid hc9; clear hb9 hc9)))
              ((try simp only [Exit.inBlock, Exit.then]); refine bodyPost_ret (results_none rfl _ _ _) rfl ?_)
              rw [HXF.out] at HS9
              rw [HDX.out]
              exact ⟨rfl, HS9.out, (HFW.out.trans (fx_below HB8.out)).trans (Three.of2 HF9.out), _, _, (HHW.out.up HB8.out).fx HF9.out (fun e => e.elim (fun e => hq e.symm) (fun e => hg e.symm)), fun h => absurd h hF⟩
            · have HN : Hid (Calls Try.prog 87 #[.slice (some ⟨gc, 0, none⟩) 19 19] wr fun e w' => e = .returned (.tuple #[.pointer none, .int .i64 (F : Nat)]) ∧ Below wr.heap.size wr w') := Lib.hid (HNW.out.mono fun e w' ⟨hb, h⟩ => by
                rcases h with ⟨he, -⟩ | ⟨hne, he⟩
                · exact absurd he hE
                · rw [HFE.out hE]; exact ⟨he, hb⟩)
              clear HNW hF hE HFE
              go_wp2_with (first | (go_at_call 87; (with_reducible refine HN.out.mono ?_); rintro e w7 ⟨rfl, hb7⟩; (have HB7 := Lib.hid hb7; have HFC := Lib.hid (HFI.out w7 hb7); clear hb7)) | (go_at_call 116; (with_reducible refine HFC.out.mono ?_); rintro e w8 ⟨rfl, hb8⟩; (have HB8 := Lib.hid (below_up HB7.out hb8); have HS8 := Lib.hid (HSW.out.up (below_up HB7.out hb8)); have HFAC := Lib.hid (HFA.out w8 (0, p5) F HFL.out HS8.out); clear hb8)) | (go_at_call 109; (with_reducible refine HFAC.out.mono ?_); rintro e w9 ⟨rfl, hb9, hc9⟩; (have HS9 := Lib.hid hb9; have HF9 := Lib.hid hc9; clear hb9 hc9)))
              ((try simp only [Exit.inBlock, Exit.then]); refine bodyPost_ret (results_none rfl _ _ _) rfl ?_)
              rw [HXF.out] at HS9
              rw [HDX.out]
              have hF : F ≠ 0 := by simpa using hFi
              exact ⟨rfl, HS9.out, (HFW.out.trans (fx_below HB8.out)).trans (Three.of2 HF9.out), _, _, (HHW.out.up HB8.out).fx HF9.out (fun e => e.elim (fun e => hq e.symm) (fun e => hg e.symm)), fun h => absurd h hF⟩
        · have h0' : ((en : Int) != 0) = true := by simpa using h0
          have HDX : Hid (D = ([], [], (en, p5))) := Lib.hid (by rw [HD.out]; unfold dynL; exact if_pos h0)
          have HS9 := Lib.hid HSW.out
          clear HD
          go_wp2
          ((try simp only [Exit.inBlock, Exit.then]); refine bodyPost_ret (results_none rfl _ _ _) rfl ?_)
          rw [HDX.out]
          exact ⟨rfl, HSW.out, HFW.out, _, _, HHW.out, fun h => absurd h h0⟩
end Go.Cm

/- The lengths of a fixed block, the program's and the document's. Conditions: none. -/
namespace Go.Cm
open Go.RowKit Go.Proofs

theorem growB (v : Value) (l : List Nat) (n x : Nat) (w : World) (B : Nat) (h : Own w B 3 v (ints (nls l))) (hB : B ≤ w.heap.size) (hl : l.length + n ≤ 1000000) :
    Calls Try.prog 95 #[v, .int .i64 n, .int .i64 x] w fun e w' => ∃ v', e = .returned v' ∧ Own w' B 3 v' (ints (nls (l ++ List.replicate n x))) ∧ Below B w w' :=
  (growP v l n x w B h hB hl).mono fun _ _ ⟨v', h1, h2, h3, _⟩ => ⟨v', h1, h2, h3.below (Below.refl _ _) hB (fun k hk => (h.lt k hk).1)⟩
def RetRow (l : List Nat) (w : World) (e : Ending) (w' : World) : Prop := ∃ v, e = .returned v ∧ Own w' w.heap.size 3 v (ints (nls l)) ∧ Below w.heap.size w w'
theorem fixL_eq : (((([] ++ List.replicate 144 8) ++ List.replicate 112 9) ++ List.replicate 24 7) ++ List.replicate 8 8 : List Nat) = fixL := by unfold fixL; rw [List.nil_append]
theorem fixD_eq : ([] ++ List.replicate 32 5 : List Nat) = fixD := by unfold fixD; rw [List.nil_append]
theorem fixLP (w : World) : Calls Try.prog 70 #[] w (RetRow fixL w) := by
  obtain ⟨a1, h1⟩ : ∃ a, a = ([] ++ List.replicate 144 8 : List Nat) := ⟨_, rfl⟩
  obtain ⟨a2, h2⟩ : ∃ a, a = a1 ++ List.replicate 112 9 := ⟨_, rfl⟩
  obtain ⟨a3, h3⟩ : ∃ a, a = a2 ++ List.replicate 24 7 := ⟨_, rfl⟩
  have h4 : fixL = a3 ++ List.replicate 8 8 := by rw [h3, h2, h1]; exact fixL_eq.symm
  have l1 : a1.length = 144 := by rw [h1]; simp
  have l2 : a2.length = 256 := by rw [h2]; simp [l1]
  have l3 : a3.length = 280 := by rw [h3]; simp [l2]
  have C1 : Hid (Calls Try.prog 95 #[.slice none 0 0, .int .i64 144, .int .i64 8] w fun e w' => ∃ v', e = .returned v' ∧ Own w' w.heap.size 3 v' (ints (nls a1)) ∧ Below w.heap.size w w') := Lib.hid (by rw [h1]; exact growB (.slice none 0 0) [] 144 8 w w.heap.size (Own.nil _ _ _) (Nat.le_refl _) (by simp))
  have C2 : Hid (∀ (W : World) (v : Value), Own W w.heap.size 3 v (ints (nls a1)) → w.heap.size ≤ W.heap.size → Calls Try.prog 95 #[v, .int .i64 112, .int .i64 9] W fun e w' => ∃ v', e = .returned v' ∧ Own w' w.heap.size 3 v' (ints (nls a2)) ∧ Below w.heap.size W w') := Lib.hid (fun W v h hB => by rw [h2]; exact growB v a1 112 9 W w.heap.size h hB (by omega))
  have C3 : Hid (∀ (W : World) (v : Value), Own W w.heap.size 3 v (ints (nls a2)) → w.heap.size ≤ W.heap.size → Calls Try.prog 95 #[v, .int .i64 24, .int .i64 7] W fun e w' => ∃ v', e = .returned v' ∧ Own w' w.heap.size 3 v' (ints (nls a3)) ∧ Below w.heap.size W w') := Lib.hid (fun W v h hB => by rw [h3]; exact growB v a2 24 7 W w.heap.size h hB (by omega))
  have C4 : Hid (∀ (W : World) (v : Value), Own W w.heap.size 3 v (ints (nls a3)) → w.heap.size ≤ W.heap.size → Calls Try.prog 95 #[v, .int .i64 8, .int .i64 8] W fun e w' => ∃ v', e = .returned v' ∧ Own w' w.heap.size 3 v' (ints (nls fixL)) ∧ Below w.heap.size W w') := Lib.hid (fun W v h hB => by rw [h4]; exact growB v a3 8 8 W w.heap.size h hB (by omega))
  clear h1 h2 h3 h4 l1 l2 l3
  generalize fixL = L at *
  go_enter Try.func70, Try.ntmps70
  go_wp2_with (go_at_call 95; first | ((with_reducible refine C1.out.mono ?_); rintro e w1 ⟨v1, rfl, ho, hb⟩; (have HO1 := Lib.hid ho; have HB1 := Lib.hid hb; clear ho hb C1)) | ((with_reducible refine (C2.out _ _ HO1.out HB1.out.size).mono ?_); rintro e w2 ⟨v2, rfl, ho, hb⟩; (have HO2 := Lib.hid ho; have HB2 := Lib.hid (HB1.out.trans hb); clear ho hb C2)) | ((with_reducible refine (C3.out _ _ HO2.out HB2.out.size).mono ?_); rintro e w3 ⟨v3, rfl, ho, hb⟩; (have HO3 := Lib.hid ho; have HB3 := Lib.hid (HB2.out.trans hb); clear ho hb C3)) | ((with_reducible refine (C4.out _ _ HO3.out HB3.out.size).mono ?_); rintro e w4 ⟨v4, rfl, ho, hb⟩; (have HO4 := Lib.hid ho; have HB4 := Lib.hid (HB3.out.trans hb); clear ho hb C4)))
  go_ret
  exact ⟨_, rfl, HO4.out, HB4.out⟩
theorem fixDP (w : World) : Calls Try.prog 71 #[] w (RetRow fixD w) := by
  have C1 : Hid (Calls Try.prog 95 #[.slice none 0 0, .int .i64 32, .int .i64 5] w fun e w' => ∃ v', e = .returned v' ∧ Own w' w.heap.size 3 v' (ints (nls fixD)) ∧ Below w.heap.size w w') := Lib.hid (by rw [← fixD_eq]; exact growB (.slice none 0 0) [] 32 5 w w.heap.size (Own.nil _ _ _) (Nat.le_refl _) (by simp))
  generalize fixD = L at *
  go_enter Try.func71, Try.ntmps71
  go_wp2_with (go_at_call 95; (with_reducible refine C1.out.mono ?_); rintro e w1 ⟨v1, rfl, ho, hb⟩; (have HO1 := Lib.hid ho; have HB1 := Lib.hid hb; clear ho hb C1))
  go_ret
  exact ⟨_, rfl, HO1.out, HB1.out⟩
end Go.Cm

/- The walk of the program's Read of a head. Conditions: the reader is there. -/
namespace Go.Cm
open Go.RowKit Go.Proofs

set_option maxRecDepth 100000 in
theorem copyS2 {w : World} {g p : Nat} {s : ByteArray} (h : BoxS w g s p) : Calls Try.prog 62 #[.pointer (some ⟨g, 0, none⟩)] w fun e w' => ∃ b, e = .returned (.pointer (some ⟨b, 0, none⟩)) ∧ BoxS w' b s p ∧ w.heap.size ≤ b ∧ Below w.heap.size w w' := by
  have HB := Lib.hid h
  have hg := h.lt
  obtain ⟨A, hA, hAs, hAl⟩ := h.own.whole
  have hA1 : ∀ u ∈ A.toList, u.oneCell' = true := by
    rw [hAl]; intro u hu; simp at hu; rcases hu with rfl | rfl | rfl <;> rfl
  have hz := zero_rd
  obtain ⟨Z, hZ⟩ : ∃ Z, Z = zR := ⟨_, rfl⟩
  have hZl : Z.toList.length = 3 := by rw [hZ]; rfl
  have hZs : Z.size = 3 := by rw [hZ]; rfl
  rw [← hZ] at hz
  have HAL := Lib.hid hAl
  clear hZ hAl h
  have ho := own_lit w w.heap.size Z 129 (by omega) (Nat.le_refl _)
  rw [hZs] at ho
  have HO := Lib.hid ho
  clear ho
  go_enter Try.func62, Try.ntmps62
  go_wp2_with (first | (go_at_call 88; refine (thereS HB.out).mono ?_; rintro e w' ⟨rfl, hw'⟩; rw [hw']; clear hw') | (refine load_box rfl 129 3 _ rfl g rfl A hAs hA _ Try.underlying129 rfl (by kernel_rfl) ?_) | (refine wpList_store_agg rfl 129 _ _ rfl w.heap.size 129 w.heap.size 3 3 rfl A rfl (by rw [hAs]; kernel_rfl) Z.toList HO.out (by omega) hA1 ?_; intro w2 hown2 hg2; have HG2 := Lib.hid hg2; have HW2 := Lib.hid hown2; clear hown2 hg2))
  go_ret
  have hw2 := HW2.out
  rw [HAL.out, hAs, List.drop_of_length_le (by omega), List.append_nil] at hw2
  exact ⟨_, rfl, ⟨hw2⟩, Nat.le_refl _, (below_alloc w _).grown HG2.out (by simp) (fun k hk => by cases hk; exact Nat.le_refl _)⟩
theorem grown_new {w w1 w2 : World} {row : Option Nat} {r : Nat} (h : w.grownBy w1 row) (hg : w1.grownBy w2 (some r)) (hr : w.heap.size ≤ r) : w.grownBy w2 row :=
  ⟨hg.os.trans h.os, hg.tape.trans h.tape, hg.output.trans h.output, Nat.le_trans h.size hg.size, fun k hk hne => by rw [hg.block k (Nat.lt_of_lt_of_le hk h.size) (fun e => by injection e with e; omega), h.block k hk hne]⟩
def zH : Array Value := #[Value.bool false, .int .i64 0, .int .i64 0, .slice none 0 0, .slice none 0 0]
theorem zH_one : ∀ u ∈ zH.toList, u.oneCell' = true := by
  intro u hu
  simp [zH] at hu
  rcases hu with rfl | rfl | rfl <;> rfl
theorem head_one (f : Bool) (k z : Int) (o1 o2 : Option Addr) (n1 n2 c1 c2 : Nat) : ∀ u ∈ (#[Value.bool f, .int .i64 k, .int .i64 z, .slice o1 n1 c1, .slice o2 n2 c2] : Array Value).toList, u.oneCell' = true := by
  intro u hu
  simp at hu
  rcases hu with rfl | rfl | rfl | rfl | rfl <;> rfl
def RetHead (Bx : World → Nat → ByteArray → Nat → Prop) (s : ByteArray) (p g : Nat) (w : World) (e : Ending) (w' : World) : Prop :=
  ∃ v1 v2, e = .returned (.tuple #[.agg #[.bool (headF (numS s) (8 * s.size) p).1.fin, .int .i64 ((headF (numS s) (8 * s.size) p).1.kind : Nat), .int .i64 ((headF (numS s) (8 * s.size) p).1.size : Nat), v1, v2], .int .i64 ((headF (numS s) (8 * s.size) p).2.1 : Nat)]) ∧
    Own w' w.heap.size 3 v1 (ints (nls (headF (numS s) (8 * s.size) p).1.lits)) ∧ Own w' w.heap.size 3 v2 (ints (nls (headF (numS s) (8 * s.size) p).1.dists)) ∧ Bx w' g s (headF (numS s) (8 * s.size) p).2.2 ∧ w.grownBy w' (some g)
set_option maxRecDepth 100000 in
set_option maxHeartbeats 4000000 in
theorem readHP {w : World} {g p : Nat} {s : ByteArray} (h : BoxS w g s p) (hs : s.size ≤ 4294967296) (hp : p ≤ 8 * s.size) :
    Calls Try.prog 85 #[.pointer (some ⟨g, 0, none⟩)] w (RetHead BoxS s p g w) := by
  have HB := Lib.hid h
  have hg := h.lt
  have HCP := Lib.hid (fun (W : World) (hb : Below w.heap.size w W) => copyS2 (h.up hb))
  have HSB := Lib.hid (fun (W : World) (q c : Nat) (st : Nat × Nat) (n : Nat) (hn : n ≤ 32) (h : SrcT W q c s st) => srcBits h hs n hn)
  have hx1 := xb_lt (numS s) (8 * s.size) 1 (0, p)
  have hx2 := xb_lt (numS s) (8 * s.size) 2 (xb (numS s) (8 * s.size) 1 (0, p)).2
  unfold RetHead
  obtain ⟨D, hD⟩ : ∃ D, D = headF (numS s) (8 * s.size) p := ⟨_, rfl⟩
  rw [← hD]
  unfold headF at hD
  have HB1 : Hid (∀ (W : World) (q c : Nat), SrcT W q c s (0, p) → Calls Try.prog 106 #[.pointer (some ⟨q, 0, none⟩), .int .i64 1] W fun e w' => e = .returned (.int .i64 ((xb (numS s) (8 * s.size) 1 (0, p)).1 : Nat)) ∧ SrcT w' q c s (xb (numS s) (8 * s.size) 1 (0, p)).2 ∧ Two q c W w') := Lib.hid (fun W q c h => HSB.out W q c (0, p) 1 (by omega) h)
  obtain ⟨r1, h1⟩ : ∃ r1, r1 = xb (numS s) (8 * s.size) 1 (0, p) := ⟨_, rfl⟩
  rw [← h1] at hD HB1 hx1 hx2
  have HB2 : Hid (∀ (W : World) (q c : Nat), SrcT W q c s r1.2 → Calls Try.prog 106 #[.pointer (some ⟨q, 0, none⟩), .int .i64 2] W fun e w' => e = .returned (.int .i64 ((xb (numS s) (8 * s.size) 2 r1.2).1 : Nat)) ∧ SrcT w' q c s (xb (numS s) (8 * s.size) 2 r1.2).2 ∧ Two q c W w') := Lib.hid (fun W q c h => HSB.out W q c r1.2 2 (by omega) h)
  obtain ⟨r2, h2⟩ : ∃ r2, r2 = xb (numS s) (8 * s.size) 2 r1.2 := ⟨_, rfl⟩
  rw [← h2] at hD HB2 hx2
  clear h1 h2 HSB
  obtain ⟨a, s1⟩ := r1
  obtain ⟨k, s2⟩ := r2
  simp only at hx1 hx2 hD
  have HD := Lib.hid hD
  clear hD h
  have hfe : ((a : Int) == 1) = decide (a = 1) := by
    by_cases h : a = 1
    · subst h; rfl
    · rw [decide_eq_false h]; simp; omega
  generalize decide (a = 1) = fn at *
  go_enter Try.func85, Try.ntmps85
  go_upto_block 0 with (first | (go_at_call 62; (with_reducible refine (HCP.out _ (by repeat (first | exact Below.refl _ _ | assumption | refine b_drewN ?_ _ | refine Below.drew ?_ | refine b_ext' ?_ _ | refine b_alloc' ?_ _))).mono ?_); rintro e w1 ⟨c, rfl, hb1, hc1, hd1⟩; (have hq1 := hb1.lt; have HR1 : Hid (BoxH w1 w.heap.size false 0 0 (.slice none 0 0) (.slice none 0 0)) := Lib.hid ⟨(own_lit w w.heap.size #[Value.bool false, Value.int .i64 0, Value.int .i64 0, Value.slice none 0 0, Value.slice none 0 0] 87 (by simp) (Nat.le_refl _)).up hd1⟩; have HW1 : Hid (Below w.heap.size w w1) := Lib.hid (below_up (below_alloc _ _) hd1); have hc2 : w.heap.size < c := Nat.lt_of_lt_of_le (by simp) hc1; have HS2 : Hid (SrcT (w1.alloc (.cells #[Value.pointer (some ⟨c, 0, none⟩), Value.int .i64 0] 150)) w1.heap.size c s (0, p)) := Lib.hid ⟨⟨own_lit w1 w1.heap.size #[Value.pointer (some ⟨c, 0, none⟩), Value.int .i64 0] 150 (by simp) (Nat.le_refl _)⟩, hb1.up (below_alloc _ _), by omega, hp, by simp⟩; clear hb1 hc1 hd1 HCP)) | (go_at_call 106; first | ((with_reducible refine (HB1.out _ _ _ HS2.out).mono ?_); rintro e w3 ⟨rfl, hs3, hf3⟩; (have HS3 := Lib.hid hs3; have HF3 := Lib.hid hf3; have hsz3 := hf3.size; clear hs3 hf3 HB1)) | ((with_reducible refine (HB2.out _ _ _ (HS3.out.up (below_alloc _ _))).mono ?_); rintro e w5 ⟨rfl, hs5, hf5⟩; (have HH4 : Hid (BoxH (w3.alloc (.cells #[Value.bool fn, Value.int .i64 0, Value.int .i64 0, Value.slice none 0 0, Value.slice none 0 0] 87)) w3.heap.size fn 0 0 (.slice none 0 0) (.slice none 0 0)) := Lib.hid ⟨own_lit w3 w3.heap.size #[Value.bool fn, Value.int .i64 0, Value.int .i64 0, Value.slice none 0 0, Value.slice none 0 0] 87 (by simp) (Nat.le_refl _)⟩; have hqq := HS3.out.src.lt; have hcc := HS3.out.box.lt; have HH5 := Lib.hid (HH4.out.fx hf5 (fun e => e.elim (fun e => by omega) (fun e => by omega))); have hqw := HW1.out.size; have HR5 := Lib.hid (((((HR1.out.up (below_alloc _ _)).fx HF3.out (fun e => e.elim (fun e => by omega) (fun e => by omega))).up (below_alloc _ _)).fx hf5 (fun e => e.elim (fun e => by omega) (fun e => by omega)))); have hb5 := HH5.out.lt; have cc5 := HH5.out.c1; have ff5 := HH5.out.free 1; have HST := Lib.hid (HH5.out.set1 k); have HS5 := Lib.hid hs5; have HF5 := Lib.hid hf5; clear hs5 hf5 HB2 HH4))))
  have HS6 : Hid (SrcT (w5.setCell ⟨w3.heap.size, 1, none⟩ (.int .i64 (k : Int))) w1.heap.size c s s2) := Lib.hid (HS5.out.kept HST.out.2 (fun e => by injection e with e; omega) (fun e => by injection e with e; omega))
  have HH6 := Lib.hid HST.out.1
  have HR6 := Lib.hid (HR5.out.stay HST.out.2 (fun e => by injection e with e; omega))
  have HW5 : Hid (Below w.heap.size w w5) := Lib.hid (by
    have h2 : Below w.heap.size w (w1.alloc (.cells #[Value.pointer (some ⟨c, 0, none⟩), Value.int .i64 0] 150)) := HW1.out.alloc HW1.out.size _
    have h3 : Below w.heap.size w w3 := HF3.out.below h2 h2.size (fun k hk => hk.elim (fun e => by omega) (fun e => by omega))
    have h4 : Below w.heap.size w (w3.alloc (.cells #[Value.bool fn, Value.int .i64 0, Value.int .i64 0, Value.slice none 0 0, Value.slice none 0 0] 87)) := h3.alloc h3.size _
    exact HF5.out.below h4 h4.size (fun k hk => hk.elim (fun e => by omega) (fun e => by omega)))
  have HW6 : Hid (Below w.heap.size w (w5.setCell ⟨w3.heap.size, 1, none⟩ (.int .i64 (k : Int)))) := Lib.hid (HW5.out.grown HST.out.2 HW5.out.size (fun k e => by injection e with e; omega))
  have hb6 := HH6.out.lt
  clear HST HS5 HH5 HR5 HW5 HF5 HF3 HS3 HS2 HW1 HR1 hb5 cc5 ff5 hsz3 hcc
  have hrc : w.heap.size < w1.heap.size := by omega
  generalize w5.setCell ⟨w3.heap.size, 1, none⟩ (.int .i64 (k : Int)) = w6 at *
  generalize w1.heap.size = q at *
  generalize w3.heap.size = b at *
  go_cut [] (fun wx => ∃ kk z v1 v2 en p', SrcT wx q c s (en, p') ∧ BoxH wx b fn kk z v1 v2 ∧ BoxH wx w.heap.size false 0 0 (.slice none 0 0) (.slice none 0 0) ∧ Below w.heap.size w wx ∧ Hid ((en ≠ 0 → D = (HeadN.zero, en, p)) ∧ (en = 0 → ∃ L1 L2, D = (⟨fn, kk, z, L1, L2⟩, 0, p') ∧ Own wx w6.heap.size 3 v1 (ints (nls L1)) ∧ Own wx w6.heap.size 3 v2 (ints (nls L2)))))
  case first =>
    clear hfe hx1
    obtain ⟨en, p2⟩ := s2
    have c1 := HS6.out.src.c1
    have hee : (((en, p2).1 : Nat) : Int) = (en : Int) := rfl
    rw [hee] at c1
    clear hee
    have cq := HH6.out.c1
    have hq6 := HS6.out.src.lt
    have hle : p2 ≤ 8 * s.size := HS6.out.le
    have hnb : q ≠ b := by omega
    have hcb : c ≠ b := by omega
    have HTR : Hid (∀ {w7 : World}, Three q c b w6 w7 → BoxH w7 w.heap.size false 0 0 (.slice none 0 0) (.slice none 0 0) ∧ Below w.heap.size w w7) := Lib.hid (fun hf => ⟨HR6.out.fx hf (fun e => e.elim (fun e => by omega) (fun e => e.elim (fun e => by omega) (fun e => by omega))), hf.below HW6.out HW6.out.size (fun k hk => hk.elim (fun e => by omega) (fun e => e.elim (fun e => by omega) (fun e => by omega)))⟩)
    by_cases h0 : en = 0
    · subst h0
      have hd := HD.out
      unfold kindN at hd
      rw [if_neg (fun h => h rfl)] at hd
      by_cases hk0 : k = 0
      · subst hk0
        rw [if_pos rfl] at hd
        have HD2 := Lib.hid hd
        have HST := Lib.hid (storedS HS6.out HH6.out hnb hcb hs)
        clear hd HD
        generalize storedN (numS s) (8 * s.size) (0, p2) = r at *
        obtain ⟨sz, e2, p3⟩ := r
        go_wp2_with (go_at_call 107; (with_reducible refine HST.out.mono ?_); rintro e w7 ⟨rfl, h1, h2, h3⟩; (have H1 := Lib.hid h1; have H2 := Lib.hid h2; have H3 := Lib.hid h3; clear h1 h2 h3))
        go_meet
        case rel =>
          obtain ⟨hr, hw⟩ := HTR.out H3.out
          refine ⟨0, sz, _, _, e2, p3, H1.out, H2.out, hr, hw, Lib.hid ⟨fun h => by rw [HD2.out]; exact if_pos h, fun h => ⟨[], [], by rw [HD2.out]; subst h; rfl, Own.nil _ _ _, Own.nil _ _ _⟩⟩⟩
      · rw [if_neg hk0] at hd
        have hki : ((k : Int) == 0) = false := by simpa using hk0
        by_cases hk1 : k = 1
        · subst hk1
          rw [if_pos rfl] at hd
          have HD2 := Lib.hid hd
          clear hd HD
          have HFL := Lib.hid (fixLP w6)
          have HFD := Lib.hid (fun W => fixDP W)
          unfold RetRow at HFL HFD
          generalize fixL = L1 at *
          generalize fixD = L2 at *
          go_wp2_with (first | (go_at_call 70; (with_reducible refine HFL.out.mono ?_); rintro e w7 ⟨v1, rfl, ho1, hb1⟩; (have HO1 := Lib.hid ho1; have HB1 := Lib.hid hb1; have hs1 := hb1.size; clear ho1 hb1)) | (go_at_call 71; (with_reducible refine (HFD.out w7).mono ?_); rintro e w8 ⟨v2, rfl, ho2, hb2⟩; (have HO2 := Lib.hid (ho2.mono hs1); have HO1' := Lib.hid (HO1.out.up hb2); have HB2 := Lib.hid (below_up HB1.out hb2); obtain ⟨o1, e1, g1, hv1, -⟩ := HO1.out.cases; obtain ⟨o2, e2, g2, hv2, -⟩ := ho2.cases; subst hv1 hv2; generalize (ints (nls L1)).length = n1 at *; generalize (ints (nls L2)).length = n2 at *; have HH8 := Lib.hid (HH6.out.up HB2.out); have hb8 := HH8.out.lt; have hf83 := HH8.out.free 3; have hc83 := HH8.out.c3; have HS3 := Lib.hid (HH8.out.set3 (.slice o1 n1 e1)); have hb9 := HS3.out.1.lt; have hf94 := HS3.out.1.free 4; have hc94 := HS3.out.1.c4; have HS4 := Lib.hid (HS3.out.1.set4 (.slice o2 n2 e2)); clear ho2 hb2)))
          go_meet
          case rel =>
            have hg := grown_trans HS3.out.2 HS4.out.2
            have hf : Three q c b w6 _ := (fx_below HB2.out).trans (Three.ofb hg)
            obtain ⟨hr, hw⟩ := HTR.out hf
            refine ⟨1, 0, _, _, 0, p2, (HS6.out.up HB2.out).kept hg (fun e => by injection e with e; omega) (fun e => by injection e with e; omega), HS4.out.1, hr, hw, Lib.hid ⟨fun h => absurd rfl h, fun _ => ⟨L1, L2, by rw [HD2.out], HO1'.out.keep hg (ne_of_row (fun k hk e => by have := (HO1'.out.lt k hk).1; injection e with e; omega)), HO2.out.keep hg (ne_of_row (fun k hk e => by have := (HO2.out.lt k hk).1; injection e with e; omega))⟩⟩⟩
        · rw [if_neg hk1] at hd
          have hki1 : ((k : Int) == 1) = false := by simp; omega
          by_cases hk2 : k = 2
          · subst hk2
            rw [if_pos rfl] at hd
            have HD2 := Lib.hid hd
            have HST := Lib.hid (dynamicS HS6.out HH6.out hnb hcb hs)
            clear hd HD
            generalize dynN (numS s) (8 * s.size) (0, p2) = r at *
            obtain ⟨L1, L2, e2, p3⟩ := r
            go_wp2_with (go_at_call 108; (with_reducible refine HST.out.mono ?_); rintro e w7 ⟨rfl, h1, h2, v1, v2, h3, h4⟩; (have H1 := Lib.hid h1; have H2 := Lib.hid h2; have H3 := Lib.hid h3; have H4 := Lib.hid h4; clear h1 h2 h3 h4))
            go_meet
            case rel =>
              obtain ⟨hr, hw⟩ := HTR.out H2.out
              refine ⟨2, 0, v1, v2, e2, p3, H1.out, H3.out, hr, hw, Lib.hid ⟨fun h => by rw [HD2.out]; exact if_pos h, fun h => ⟨L1, L2, by rw [HD2.out]; subst h; rfl, (H4.out h).1, (H4.out h).2⟩⟩⟩
          · rw [if_neg hk2] at hd
            have hki2 : ((k : Int) == 2) = false := by simp; omega
            have HD2 := Lib.hid hd
            have HFA := Lib.hid (failS HS6.out 11 (by omega))
            rw [show ((11 : Nat) : Int) = 11 from rfl] at HFA
            clear hd HD
            go_wp2_with (go_at_call 109; (with_reducible refine HFA.out.mono ?_); rintro e w7 ⟨rfl, h1, h2⟩; (have H1 := Lib.hid h1; have H2 := Lib.hid (Three.of2 (b := b) h2); have H3 := Lib.hid (HH6.out.fx h2 (fun e => e.elim (fun e => by omega) (fun e => by omega))); clear h1 h2))
            go_meet
            case rel =>
              obtain ⟨hr, hw⟩ := HTR.out H2.out
              refine ⟨k, 0, _, _, 11, p2, H1.out, H3.out, hr, hw, Lib.hid ⟨fun _ => HD2.out, fun h => by cases h⟩⟩
    · have h0' : ((en : Int) != 0) = true := by simpa using h0
      have HD2 : Hid (D = (HeadN.zero, en, p)) := Lib.hid (by rw [HD.out]; unfold kindN; exact if_pos h0)
      clear HD
      go_wp2
      go_meet
      case rel => exact ⟨k, 0, _, _, en, p2, HS6.out, HH6.out, HR6.out, HW6.out, Lib.hid ⟨fun _ => HD2.out, fun h => absurd h h0⟩⟩
  case rest =>
    obtain ⟨kk, z, v1, v2, en, p', hs7, hh7, hr7, hw7, HE⟩ := hcut
    have HS7 := Lib.hid hs7
    have HH7 := Lib.hid hh7
    have HR7 := Lib.hid hr7
    have HW7 := Lib.hid hw7
    have c1 := hs7.src.c1
    have hq7 := hs7.src.lt
    have hee : (((en, p').1 : Nat) : Int) = (en : Int) := rfl
    rw [hee] at c1
    clear hs7 hh7 hr7 hw7 hee HS6 HH6 HR6 HW6
    by_cases h0 : en = 0
    · subst h0
      obtain ⟨L1, L2, hd, ho1, ho2⟩ := HE.out.2 rfl
      obtain ⟨o1, e1, g1, hv1, -⟩ := ho1.cases
      obtain ⟨o2, e2, g2, hv2, -⟩ := ho2.cases
      have HDX := Lib.hid hd
      have HO1 := Lib.hid ho1
      have HO2 := Lib.hid ho2
      subst hv1 hv2
      clear HE hd ho1 ho2
      generalize (ints (nls L1)).length = n1 at *
      generalize (ints (nls L2)).length = n2 at *
      obtain ⟨A, hA, hAs, hAl⟩ := HS7.out.box.own.whole
      have hA1 : ∀ u ∈ A.toList, u.oneCell' = true := by
        rw [hAl]; intro u hu; simp at hu; rcases hu with rfl | rfl | rfl <;> rfl
      have HAL := Lib.hid hAl
      have HB7 := Lib.hid (HB.out.up HW7.out)
      clear hAl
      go_wp2_with (first | (refine load_box rfl 129 3 _ rfl c rfl A hAs hA _ Try.underlying129 rfl (by kernel_rfl) ?_) | (refine wpList_store_agg rfl 129 _ _ rfl g 129 g 3 3 rfl A rfl (by rw [hAs]; kernel_rfl) _ HB7.out.own (by rw [hAs]; simp) hA1 ?_; intro w8 hown8 hg8; (have HG8 := Lib.hid hg8; have HB8 := Lib.hid hown8; have HH8 := Lib.hid (HH7.out.stay hg8 (fun e => by injection e with e; omega)); have HR8 := Lib.hid (HR7.out.stay hg8 (fun e => by injection e with e; omega)); obtain ⟨A5, hA5, hAs5, hAl5⟩ := HH8.out.own.whole; have HAL5 := Lib.hid hAl5; have hA51 : ∀ u ∈ A5.toList, u.oneCell' = true := (by rw [hAl5]; exact head_one fn kk z o1 o2 n1 n2 e1 e2); clear hown8 hg8 hAl5)) | (refine load_box rfl 87 5 _ rfl b rfl A5 hAs5 hA5 _ Try.underlying87 rfl (by kernel_rfl) ?_) | (refine wpList_store_agg rfl 87 _ _ rfl w.heap.size 87 w.heap.size 5 5 rfl A5 rfl (by rw [hAs5]; kernel_rfl) _ HR8.out.own (by rw [hAs5]; simp) hA51 ?_; intro w9 hown9 hg9; (have HG9 := Lib.hid hg9; have HR9 := Lib.hid hown9; clear hown9 hg9)))
      have hr9 := HR9.out
      rw [hAs5, List.drop_of_length_le (by simp), List.append_nil] at hr9
      have hb8 := HB8.out
      rw [hAs, List.drop_of_length_le (by simp), List.append_nil, HAL.out] at hb8
      have HR10 := Lib.hid hr9
      have HB10 := Lib.hid hb8
      clear hr9 hb8
      refine ret_cell_tmp (s := 2) (b := 3) (ad := ⟨w.heap.size, 0, none⟩) (x := .agg A5) (y := .int .i64 0) rfl rfl rfl rfl (load_whole (n := 5) HR10.out _ Try.underlying87 rfl (by kernel_rfl)) ?_
      have hA5e : A5 = #[.bool fn, .int .i64 (kk : Nat), .int .i64 (z : Nat), .slice o1 n1 e1, .slice o2 n2 e2] := by
        rw [← Array.toArray_toList (xs := A5), HAL5.out]
      have hw67 : ∀ {v : Value} {xs : List Value}, Own wc w6.heap.size 3 v xs → Own w9 w.heap.size 3 v xs := fun ho =>
        ((ho.keep HG8.out (ne_of_row (fun k hk e => by have := (ho.lt k hk).1; injection e with e; omega))).keep HG9.out (ne_of_row (fun k hk e => by have := (ho.lt k hk).1; injection e with e; omega))).mono (by omega)
      rw [HDX.out, hA5e]
      exact ⟨_, _, rfl, hw67 HO1.out, hw67 HO2.out, ⟨HB10.out.keep HG9.out (.inr (fun e => by have e2 : some g = some w.heap.size := e; injection e2 with e2; omega))⟩, grown_new (grown_trans (grown_below HW7.out _) HG8.out) HG9.out (Nat.le_refl _)⟩
    · have h0' : ((en : Int) != 0) = true := by simpa using h0
      have HDX := Lib.hid (HE.out.1 h0)
      clear HE h0
      go_wp2
      refine wp_region_scr (C := fun w' => ∃ x, w' = chg wc (some w.heap.size) x) (.q 0 (.q 1 (.q 2 (.q 3 (.q 4 (.br 5 (.q 6 .done) .no)))))) (by kernel_rfl) (by kernel_rfl) (ex_chg (grown_drew _ _)) ?_
      have HG8 : Hid (wc.grownBy wc.drew (some w.heap.size)) := Lib.hid (grown_drew _ _)
      have HR8 : Hid (BoxH wc.drew w.heap.size false 0 0 (.slice none 0 0) (.slice none 0 0)) := Lib.hid (HR7.out.up (b_drew1 (Below.refl _ _)))
      have hqr : some q ≠ some w.heap.size := fun e => by injection e with e; omega
      generalize wc.drew = w8 at *
      (repeat ((unfold wpScr; simp only [pick, List.map_cons, List.map_nil, List.getD_cons_zero, List.getD_cons_succ]); go_big_quiet_step (fail); refine wpQuiet_nil ?_))
      ((unfold wpScr; simp only [pick, List.map_cons, List.map_nil, List.getD_cons_zero, List.getD_cons_succ]); refine ⟨?_, by unfold wpScr; trivial⟩; unfold wpAct)
      go_wp2_with (refine wpList_store_agg rfl 87 _ _ rfl w.heap.size 87 w.heap.size 5 5 rfl zH rfl (by kernel_rfl) _ HR8.out.own (by simp [zH]) zH_one ?_; intro w9 hown9 hg9; (have HG9 := Lib.hid (grown_trans HG8.out hg9); have HR9 : Hid (Own w9 w.heap.size 87 (.slice (some ⟨w.heap.size, 0, none⟩) 5 5) zH.toList) := Lib.hid hown9; clear hown9 hg9))
      refine ⟨ex_chg HG9.out, ?_⟩
      unfold wpAct
      (repeat ((unfold wpScr; simp only [pick, List.map_cons, List.map_nil, List.getD_cons_zero, List.getD_cons_succ]); go_big_quiet_step (fail); refine wpQuiet_nil ?_))
      unfold wpScr
      first | (intro _ hqq; clear hqq) | (intro hqq; clear hqq)
      go_wp2
      refine ret_cell_tmp (s := 2) (b := 3) (ad := ⟨w.heap.size, 0, none⟩) (x := .agg zH) (y := .int .i64 (en : Nat)) rfl rfl rfl rfl (load_whole (n := 5) HR9.out _ Try.underlying87 rfl (by kernel_rfl)) ?_
      rw [HDX.out]
      exact ⟨_, _, rfl, Own.nil _ _ _, Own.nil _ _ _, (HB.out.up HW7.out).stay HG9.out (fun e => by injection e with e; omega), grown_new (grown_below HW7.out _) HG9.out (Nat.le_refl _)⟩
end Go.Cm

/- The walk of the document's stored head. Conditions: the reader is there. -/
namespace Go.Cm
open Go.RowKit Go.Proofs

theorem bitsA_two {N T p n : Nat} (h : (bitsA N T p n).2.1 ≠ 0) : (bitsA N T p n).2.1 = 2 := by
  unfold bitsA at h ⊢
  split
  · rename_i hc
    rw [if_pos hc] at h
    exact absurd rfl h
  · rfl
theorem xb_zero (N T n p : Nat) : xb N T n (0, p) = bitsA N T p n := rfl
theorem xb_bad {N T n e p : Nat} (h : e ≠ 0) : xb N T n (e, p) = (0, (e, p)) := if_neg h
end Go.Cm

/- The walks of the document's head and Read. Conditions: the reader is there. -/
namespace Go.Cm
open Go.RowKit Go.Proofs

theorem head_good {N T p a k p1 p2 : Nat} (h1 : bitsA N T p 1 = (a, 0, p1)) (h2 : bitsA N T p1 2 = (k, 0, p2)) : headF N T p = kindN N T p (decide (a = 1)) k (0, p2) := by
  unfold headF
  simp only [xb_zero, h1, h2]
theorem head_bad {N T p a k e1 e2 p1 p2 : Nat} (h1 : bitsA N T p 1 = (a, e1, p1)) (h2 : bitsA N T p1 2 = (k, e2, p2)) (h : e1 ≠ 0 ∨ e2 ≠ 0) : headF N T p = (HeadN.zero, 2, p) := by
  have t1 := bitsA_two (N := N) (T := T) (p := p) (n := 1)
  have t2 := bitsA_two (N := N) (T := T) (p := p1) (n := 2)
  rw [h1] at t1
  rw [h2] at t2
  unfold headF
  by_cases he1 : e1 = 0
  · subst he1
    have he2 : e2 ≠ 0 := by omega
    simp only [xb_zero, h1, h2]
    have e := t2 he2
    simp only at e
    subst e
    exact if_pos (by exact he2)
  · simp only [xb_zero, h1, xb_bad he1]
    have e := t1 he1
    simp only at e
    subst e
    exact if_pos (by exact he1)
end Go.Cm

/- A writer's state while numbers are put, and the walks of its Align. Conditions: the writer is there. -/
namespace Go.Cm
open Go.RowKit Go.Proofs

/-- the program's writer in block g, whose row was vb0 in world w0 -/
def WSt (w0 : World) (B g : Nat) (vb0 : Value) (st : Nat × Nat) (W : World) : Prop := ∃ vb, WrtV W B g st.1 st.2 vb ∧ Below B w0 W ∧ Fr g vb0 vb w0 W
theorem WSt.start {w : World} {B g N L : Nat} {vb : Value} (h : WrtV w B g N L vb) : WSt w B g vb (N, L) w := ⟨vb, h, Below.refl _ _, Fr.refl _ _ _⟩
theorem WSt.up {w0 W W' : World} {B g : Nat} {vb0 : Value} {st : Nat × Nat} (h : WSt w0 B g vb0 st W) (hb : Below W.heap.size W W') (hB : B ≤ W.heap.size) : WSt w0 B g vb0 st W' := by
  obtain ⟨vb, h1, h2, h3⟩ := h
  exact ⟨vb, h1.up hb, h2.trans (hb.mono hB), h3.below hb⟩
theorem WSt.bel {w0 W : World} {B g : Nat} {vb0 : Value} {st : Nat × Nat} (h : WSt w0 B g vb0 st W) : Below B w0 W := by
  obtain ⟨vb, h1, h2, h3⟩ := h; exact h2
theorem WSt.lt {w0 W : World} {B g : Nat} {vb0 : Value} {st : Nat × Nat} (h : WSt w0 B g vb0 st W) : g < W.heap.size ∧ B ≤ g := by
  obtain ⟨vb, h1, h2, h3⟩ := h; exact ⟨h1.box.lt, h1.ge⟩
theorem WSt.size {w0 W : World} {B g : Nat} {vb0 : Value} {st : Nat × Nat} (h : WSt w0 B g vb0 st W) : w0.heap.size ≤ W.heap.size := h.bel.size
/-- a block that was there and is none of the writer's stays -/
theorem WSt.own {w0 W : World} {B g B' E : Nat} {vb0 v : Value} {st : Nat × Nat} {xs : List Value} (h : WSt w0 B g vb0 st W) (ho : Own w0 B' E v xs) (h1 : v.ownBlock ≠ some g) (h2 : ∀ k, v.ownBlock = some k → vb0.ownBlock ≠ some k) : Own W B' E v xs := by
  obtain ⟨vb, -, -, h3⟩ := h
  exact ho.of_blk fun k hk => h3.1 k (ho.lt k hk).2 (fun e => h1 (by rw [hk, e])) (h2 k hk)
/-- a writing that begins where one has ended -/
theorem WSt.join {w0 W : World} {B g : Nat} {vb0 : Value} {st st' : Nat × Nat} {P : Program} {f : FuncId} {args : Array Value} {Q : Ending → Prop} (h : WSt w0 B g vb0 st W)
    (hc : ∀ vb, WrtV W B g st.1 st.2 vb → Calls P f args W fun e w' => Q e ∧ WSt W B g vb st' w') : Calls P f args W fun e w' => Q e ∧ WSt w0 B g vb0 st' w' := by
  obtain ⟨vb, h1, h2, h3⟩ := h
  exact (hc vb h1).mono fun e w' ⟨hq, vb', g1, g2, g3⟩ => ⟨hq, vb', g1, h2.trans g2, h3.trans g3⟩
theorem putW {w0 W : World} {B g : Nat} {vb0 : Value} {st : Nat × Nat} (h : WSt w0 B g vb0 st W) (v n : Nat) (hv : v < 2 ^ n) (hn : n ≤ 32) (hL : st.2 + n ≤ 34359738368) :
    Calls Try.prog 65 #[.pointer (some ⟨g, 0, none⟩), .int .i64 v, .int .i64 n] W fun e w' => e = .returned (.int .i64 0) ∧ WSt w0 B g vb0 (st.1 + v * 2 ^ st.2, st.2 + n) w' :=
  h.join (Q := fun e => e = .returned (.int .i64 0)) fun _ hb => (putV hb v n hv hn hL).mono fun _ _ ⟨he, vb', h1, h2, h3⟩ => ⟨he, vb', h1, h2, h3⟩
theorem codeW {w0 W : World} {B g : Nat} {vb0 : Value} {st : Nat × Nat} (h : WSt w0 B g vb0 st W) (v n : Nat) (hv : v < 2 ^ n) (hn : n ≤ 32) (hL : st.2 + n ≤ 34359738368) :
    Calls Try.prog 94 #[.pointer (some ⟨g, 0, none⟩), .int .i64 v, .int .i64 n] W fun e w' => e = .returned (.int .i64 0) ∧ WSt w0 B g vb0 (st.1 + turnN v n * 2 ^ st.2, st.2 + n) w' :=
  h.join (Q := fun e => e = .returned (.int .i64 0)) fun _ hb => (codeV hb v n hv hn hL).mono fun _ _ ⟨he, vb', h1, h2, h3⟩ => ⟨he, vb', h1, h2, h3⟩
theorem alignWP {w0 W : World} {B g : Nat} {vb0 : Value} {st : Nat × Nat} (h : WSt w0 B g vb0 st W) (hL : st.2 ≤ 300000000) :
    Calls Try.prog 67 #[.pointer (some ⟨g, 0, none⟩)] W fun e w' => e = .returned (.tuple #[]) ∧ WSt w0 B g vb0 (alignW st) w' := by
  obtain ⟨N, L⟩ := st
  have HW := Lib.hid h
  obtain ⟨vb, h1, -, -⟩ := h
  have HBX := Lib.hid h1.box
  have c3 := h1.box.c3
  have hg := h1.box.lt
  have hr : L % 8 < 8 := Nat.mod_lt _ (by decide)
  by_cases h0 : L % 8 = 0
  · have HA : Hid (alignW (N, L) = (N, L)) := Lib.hid (by unfold alignW alignN; dsimp only; congr 1; omega)
    rw [h0] at c3
    rw [HA.out]
    clear h1 h0
    go_enter Try.func67, Try.ntmps67
    go_wp2_with (go_at_call 69; refine (thereP HBX.out).mono ?_; rintro e w' ⟨rfl, hw'⟩; rw [hw']; clear hw')
    go_end0
    exact ⟨rfl, HW.out⟩
  · have HA : Hid (alignW (N, L) = (N + 0 * 2 ^ L, L + (8 - L % 8))) := Lib.hid (by unfold alignW alignN; dsimp only; rw [Nat.zero_mul, Nat.add_zero]; congr 1; omega)
    have HPW := Lib.hid (putW HW.out 0 (8 - L % 8) (Nat.two_pow_pos _) (by omega) (by simp only at hL ⊢; omega))
    rw [show ((0 : Nat) : Int) = 0 from rfl] at HPW
    have hi : ((L % 8 : Nat) : Int) > 0 := by omega
    have hsub : (8 : Int) - ((L % 8 : Nat) : Int) = ((8 - L % 8 : Nat) : Int) := by omega
    rw [HA.out]
    clear h1 h0
    generalize hm : L % 8 = m at *
    generalize 8 - m = d at *
    go_enter Try.func67, Try.ntmps67
    go_wp2_with (first | (go_at_call 69; refine (thereP HBX.out).mono ?_; rintro e w' ⟨rfl, hw'⟩; rw [hw']; clear hw') | (go_at_call 65; (with_reducible refine HPW.out.mono ?_); rintro e w2 ⟨rfl, hq⟩; have HQ := Lib.hid hq; clear hq))
    go_end0
    exact ⟨rfl, HQ.out⟩
end Go.Cm
