/- Texts of this claim, joined: walks of small functions and plain facts about them. Conditions: as each says. -/
import Derived.Test.YtmophmeiemfikaaQE
import Derived.Test.YtmophmeiemfikaaRows
import Derived.WalkKit
import Derived.WalkSpells
import Derived.WalkLawsBesides
import Derived.Deep.QuietTactic
import Derived.BigQuiet
import Derived.Lib.Hide
import Derived.Laws.Small
import Derived.Deep.LoopGhost
import Derived.Laws.BitsLemmas
import Derived.Deep.DeepCutAuto
import Derived.Deep.CutBlock
import Derived.Deep.CutRange
/- What a step of the machine keeps, and that it comes to an end, in plain Lean. Conditions: as each says. -/
namespace Go.Cm

def muI (T : Nat) (z : IS) : Nat := 2 * (T - z.p) + (if z.md = 1 then 1 else 0)
/-- what a good step does -/
structure StepOk (T pre : Nat) (z z' : IS) : Prop where
  p : z'.p ≤ T
  md : z'.md ≤ 3
  al : z'.md = 1 → z'.p % 8 = 0
  left : z'.left ≤ 65535
  li : errI (nls z'.li) = 0 ∨ z'.md ≠ 2
  di : errI (nls z'.di) = 0 ∨ z'.md ≠ 2
  mu : muI T z' < muI T z
  ap : ∃ c, z'.h = z.h ++ c ∧ c.length ≤ 65535
theorem numB_ok {N T p : Nat} {y : Nat × Nat × Bool} (h : (numB N T p y).2.1 = 0) : y.2.2 = true ∧ (numB N T p y).2.2 = p + y.2.1 ∧ p + y.2.1 ≤ T ∧ (numB N T p y).1 = y.1 + valN N p y.2.1 := by
  unfold numB at h ⊢
  by_cases h1 : y.2.2 = false
  · rw [if_pos h1] at h; cases h
  · rw [if_neg h1] at h ⊢
    obtain ⟨h2, h3⟩ := bitsA_ok h
    refine ⟨by simpa using h1, h2, h3, ?_⟩
    show y.1 + (bitsA N T p y.2.1).1 = _
    unfold bitsA
    rw [if_pos h3]
theorem readF_le (L : List Nat) (V left : Nat) : (readF L V left).2.2 ≤ left := read_le (readF_ok L V left)
theorem readF_pos {L : List Nat} {V left : Nat} (h : (readF L V left).2.1 = 0) : 1 ≤ (readF L V left).2.2 ∧ (readF L V left).1 < L.length ∧ (readF L V left).2.2 = L.getD (readF L V left).1 0 ∧ hitN L V (readF L V left).1 := by
  rcases readF_ok L V left with ⟨h1, h2, h3, h4, h5⟩ | ⟨h1, h2, h3, h4⟩
  · have := h2.1
    exact ⟨by rw [h5]; omega, h1, h5, h2⟩
  · rw [h] at h4; split at h4 <;> cases h4
theorem copyN_app (b : Byts) (d : Nat) : ∀ k, ∃ c, copyN b d k = b ++ c ∧ c.length = k
  | 0 => ⟨[], by simp [copyN], rfl⟩
  | k + 1 => by
    obtain ⟨c, h1, h2⟩ := copyN_app b d k
    refine ⟨c ++ [(copyN b d k).getD ((copyN b d k).length - d) 0], ?_, by simp [h2]⟩
    rw [copyN, h1]
    simp
theorem close_md (z : IS) : (closeI z).md = 3 ∨ (closeI z).md = 0 := by unfold closeI; simp only; split <;> simp
theorem close_ne (z : IS) : (closeI z).md ≠ 1 ∧ (closeI z).md ≠ 2 := by rcases close_md z with h | h <;> rw [h] <;> decide
theorem lenB_le {s : Nat} (h : (lenB s).2.2 = true) : (lenB s).1 ≤ 258 ∧ (lenB s).2.1 ≤ 5 ∧ 3 ≤ (lenB s).1 ∧ (lenB s).1 + 2 ^ (lenB s).2.1 ≤ 259 := by
  unfold lenB at h ⊢
  by_cases h1 : s = 285
  · rw [if_pos h1]; decide
  · rw [if_neg h1] at h ⊢
    by_cases h2 : 257 ≤ s ∧ s < 285
    · rw [if_pos h2]
      have hk : ∀ i, i < 28 → spBase 3 4 i ≤ 258 ∧ spB 4 i ≤ 5 ∧ 3 ≤ spBase 3 4 i ∧ spBase 3 4 i + 2 ^ spB 4 i ≤ 259 := by decide +kernel
      have h3 : s - 257 < 28 := by omega
      generalize s - 257 = i at *
      exact hk i h3
    · rw [if_neg h2] at h; cases h
theorem dstB_le {s : Nat} (h : (dstB s).2.2 = true) : 1 ≤ (dstB s).1 ∧ (dstB s).2.1 ≤ 13 ∧ (dstB s).1 + 2 ^ (dstB s).2.1 ≤ 32769 := by
  unfold dstB at h ⊢
  by_cases h2 : s < 30
  · rw [if_pos h2]
    have hk : ∀ i, i < 30 → 1 ≤ spBase 1 2 i ∧ spB 2 i ≤ 13 ∧ spBase 1 2 i + 2 ^ spB 2 i ≤ 32769 := by decide +kernel
    exact hk s h2
  · rw [if_neg h2] at h; cases h
theorem valN_lt (N p n : Nat) : valN N p n < 2 ^ n := Nat.mod_lt _ (Nat.pow_pos (by decide))
theorem cpyI3_ok {T pre n : Nat} {z : IS} {y : Nat × Nat × Nat} (hi : IOk T pre z) (h2 : z.md = 2) (hn : n ≤ 65535) (hy : y.2.1 = 0 → z.p < y.2.2 ∧ y.2.2 ≤ T) (h : (cpyI3 z n y).1 = 0) : StepOk T pre z (cpyI3 z n y).2 := by
  unfold cpyI3 at h ⊢
  by_cases h0 : y.2.1 ≠ 0
  · rw [if_pos h0] at h; exact absurd h h0
  rw [if_neg h0] at h ⊢
  obtain ⟨y1, y2⟩ := hy (by simpa using h0)
  by_cases h1 : min z.h.length 32768 < y.1
  · rw [if_pos h1] at h; cases h
  rw [if_neg h1]
  obtain ⟨c, c1, c2⟩ := copyN_app z.h y.1 n
  refine ⟨y2, hi.md, fun e => absurd (h2.symm.trans e) (by decide), hi.left, hi.li, hi.di, ?_, c, c1, by omega⟩
  unfold muI
  simp only [h2]
  have := hi.p
  simp
  omega
theorem cpyI_ok {N T pre s p : Nat} {z : IS} (hi : IOk T pre z) (h2 : z.md = 2) (hp : z.p < p) (h : (cpyI N T z s p).1 = 0) : StepOk T pre z (cpyI N T z s p).2 := by
  unfold cpyI at h ⊢
  by_cases h0 : (numB N T p (lenB s)).2.1 ≠ 0
  · rw [if_pos h0] at h; exact absurd h h0
  rw [if_neg h0] at h ⊢
  obtain ⟨n1, n2, n3, n4⟩ := numB_ok (by simpa using h0)
  obtain ⟨l1, l2, l3, l4⟩ := lenB_le n1
  have hv := valN_lt N p (lenB s).2.1
  unfold cpyI2 at h ⊢
  by_cases h3 : (readF z.di (N / 2 ^ (numB N T p (lenB s)).2.2) (T - (numB N T p (lenB s)).2.2)).2.1 ≠ 0
  · rw [if_pos h3] at h; exact absurd h h3
  rw [if_neg h3] at h ⊢
  have hl := readF_le z.di (N / 2 ^ (numB N T p (lenB s)).2.2) (T - (numB N T p (lenB s)).2.2)
  refine cpyI3_ok hi h2 (by rw [n4]; omega) (fun e => ?_) h
  obtain ⟨m1, m2, m3, -⟩ := numB_ok e
  rw [m2]
  exact ⟨by omega, m3⟩
theorem codI_ok {N T pre : Nat} {z : IS} (hi : IOk T pre z) (h2 : z.md = 2) (h : (codI N T z).1 = 0) : StepOk T pre z (codI N T z).2 := by
  unfold codI at h ⊢
  have hl := readF_le z.li (N / 2 ^ z.p) (T - z.p)
  have hpos := readF_pos (L := z.li) (V := N / 2 ^ z.p) (left := T - z.p)
  generalize readF z.li (N / 2 ^ z.p) (T - z.p) = r at *
  have := hi.p
  unfold codI2 at h ⊢
  by_cases h0 : r.2.1 ≠ 0
  · rw [if_pos h0] at h; exact absurd h h0
  rw [if_neg h0] at h ⊢
  obtain ⟨h1, -⟩ := hpos (by simpa using h0)
  by_cases h3 : r.1 = 256
  · rw [if_pos h3]
    obtain ⟨g1, g2⟩ := close_ne { z with p := z.p + r.2.2 }
    refine ⟨by show z.p + r.2.2 ≤ T; omega, by rcases close_md { z with p := z.p + r.2.2 } with e | e <;> rw [e] <;> decide, fun e => absurd e g1, hi.left, .inr g2, .inr g2, ?_, [], by simp [closeI], by simp⟩
    unfold muI
    rw [if_neg g1, if_neg (by rw [h2]; decide)]
    show 2 * (T - (z.p + r.2.2)) + 0 < _
    omega
  rw [if_neg h3] at h ⊢
  by_cases h4 : 256 < r.1
  · rw [if_pos h4] at h ⊢
    exact cpyI_ok hi h2 (by omega) h
  rw [if_neg h4]
  refine ⟨by show z.p + r.2.2 ≤ T; omega, hi.md, fun e => absurd (h2.symm.trans e) (by decide), hi.left, hi.li, hi.di, ?_, _, rfl, by simp⟩
  unfold muI
  simp only [h2]
  simp
  omega
theorem storI_ok {T pre : Nat} {bs : Byts} {z : IS} (hi : IOk T pre z) (h1 : z.md = 1) (h : (storI T bs z).1 = 0) : StepOk T pre z (storI T bs z).2 := by
  unfold storI at h ⊢
  by_cases h0 : z.left = 0
  · rw [if_pos h0]
    obtain ⟨g1, g2⟩ := close_ne z
    refine ⟨hi.p, by rcases close_md z with e | e <;> rw [e] <;> decide, fun e => absurd e g1, hi.left, .inr g2, .inr g2, ?_, [], by simp [closeI], by simp⟩
    unfold muI
    rw [if_neg g1, if_pos h1]
    show 2 * (T - z.p) + 0 < _
    omega
  rw [if_neg h0] at h ⊢
  by_cases h2 : min z.left ((T - z.p) / 8) = 0
  · rw [if_pos h2] at h; cases h
  rw [if_neg h2]
  have hp := hi.p
  have ha := hi.al h1
  have hl := hi.left
  refine ⟨by show z.p + 8 * min z.left ((T - z.p) / 8) ≤ T; omega, hi.md, fun _ => by show (z.p + 8 * min z.left ((T - z.p) / 8)) % 8 = 0; omega, by show z.left - _ ≤ _; omega, hi.li, hi.di, ?_, _, rfl, by rw [List.length_take]; omega⟩
  unfold muI
  simp only [h1]
  simp
  omega
theorem headI_ok {N T pre : Nat} {z : IS} (h8 : 8 ∣ T) (hi : IOk T pre z) (h1 : z.md = 0) (h : (headI N T pre z).1 = 0) : StepOk T pre z (headI N T pre z).2 := by
  unfold headI at h ⊢
  by_cases h0 : (headF N T z.p).2.1 ≠ 0
  · rw [if_pos h0] at h; exact absurd h h0
  rw [if_neg h0]
  have he : (headF N T z.p).2.1 = 0 := by simpa using h0
  obtain ⟨b1, b2, -⟩ := headF_ok h8 hi.p he
  have hk := head_kinds he
  have hr := head_err h8 hi.p he
  have hz := head_size h8 hi.p he
  refine ⟨b2, by show (if _ then 1 else 2) ≤ 3; split <;> decide, fun e => ?_, hz, ?_, ?_, ?_, [], by simp, by simp⟩
  · have e' : (if (headF N T z.p).1.kind = 0 then 1 else 2) = 1 := e
    rcases hk with ⟨-, k2⟩ | ⟨k1, -⟩ | k1
    · exact k2
    · rw [k1] at e'; cases e'
    · rw [k1] at e'; cases e'
  · show errI (nls (headF N T z.p).1.lits) = 0 ∨ (if (headF N T z.p).1.kind = 0 then 1 else 2) ≠ 2
    by_cases k : (headF N T z.p).1.kind = 0
    · rw [if_pos k]; exact .inr (by decide)
    · exact .inl (hr k).1
  · show errI (nls (headF N T z.p).1.dists) = 0 ∨ (if (headF N T z.p).1.kind = 0 then 1 else 2) ≠ 2
    by_cases k : (headF N T z.p).1.kind = 0
    · rw [if_pos k]; exact .inr (by decide)
    · exact .inl (hr k).2
  · unfold muI
    show 2 * (T - (headF N T z.p).2.2) + (if (if (headF N T z.p).1.kind = 0 then 1 else 2) = 1 then 1 else 0) < _
    rw [if_neg (show ¬ z.md = 1 by rw [h1]; decide)]
    have : (if (if (headF N T z.p).1.kind = 0 then 1 else 2) = 1 then 1 else 0) ≤ 1 := by
      generalize (if (headF N T z.p).1.kind = 0 then 1 else 2) = q
      by_cases hq : q = 1
      · rw [if_pos hq]; exact Nat.le_refl _
      · rw [if_neg hq]; exact Nat.zero_le _
    omega
theorem stI_ok {N T pre : Nat} {bs : Byts} {z : IS} (h8 : 8 ∣ T) (hi : IOk T pre z) (hm : z.md ≠ 3) (h : (stI N T pre bs z).1 = 0) : StepOk T pre z (stI N T pre bs z).2 := by
  unfold stI at h ⊢
  by_cases h0 : z.md = 0
  · rw [if_pos h0] at h ⊢; exact headI_ok h8 hi h0 h
  rw [if_neg h0] at h ⊢
  by_cases h1 : z.md = 1
  · rw [if_pos h1] at h ⊢; exact storI_ok hi h1 h
  rw [if_neg h1] at h ⊢
  by_cases h2 : z.md = 2
  · rw [if_pos h2] at h ⊢; exact codI_ok hi h2 h
  · have := hi.md; omega
end Go.Cm

/- The walks of a symbol's writing, where the lengths lie beside the writer. Conditions: the lengths stay while the writer writes. -/
namespace Go.Cm
open Go.RowKit Go.Proofs

set_option maxRecDepth 100000 in
set_option maxHeartbeats 1000000 in
theorem writeVF {w : World} {B g N L : Nat} {vb : Value} (v : Value) (l : List Int) (n : Int) (h0 : IntsAt w v l) (hst : ∀ W vb', Fr g vb vb' w W → IntsAt W v l) (h : WrtV w B g N L vb) (hL : L ≤ 2147483648 - 32) :
    Calls Try.prog 98 #[.pointer (some ⟨g, 0, none⟩), v, .int .i64 n] w (RetV WrtV l n B g N L vb w) := by
  have HP := Lib.hid (putV h 0 0 (by decide) (by decide) (by omega))
  rw [Nat.zero_mul, Nat.add_zero, Nat.add_zero] at HP
  have hBw : B ≤ w.heap.size := by have := h.ge; have := h.box.lt; omega
  have HCO : Hid (∀ w' vb', Fr g vb vb' w w' → Calls Try.prog 112 #[v] w' (RetCodes l w')) := Lib.hid (fun w' vb' hf => codesP v l w' (hst w' vb' hf))
  obtain ⟨oa, cap, b, off, rfl, hd, hc⟩ := h0.open
  have hix := index_any (P := Try.prog) 39 3 Try.underlying39 (by kernel_rfl) hd
  have hm := hd.len
  have hbk := hd.hblk
  have HCW : Hid (∀ W vb', Fr g vb vb' w W → ∀ i, i < l.length → W.cell? ⟨b, off + i, none⟩ = w.cell? ⟨b, off + i, none⟩ ∧ b < W.heap.size) := Lib.hid (fun W vb' hf i hi => by
    obtain ⟨oa', cap', b', off', hv', hd', hc'⟩ := (hst W vb' hf).open
    injection hv' with e1 e2 e3
    have h1 := hd.hat (by omega)
    have h2 := hd'.hat (by omega)
    rw [← e1, h1] at h2
    injection h2 with h2
    injection h2 with h3 h4 h5
    subst h3 h4
    exact ⟨by rw [hc' i hi, hc i hi], hd'.hblk (by omega)⟩)
  have HC := Lib.hid hc
  clear hc h0 hst h hd
  unfold RetCodes at HCO
  by_cases he : errI l = 0
  · rw [he] at HCO
    by_cases hn : 0 ≤ n ∧ n < l.length ∧ l.getD n.toNat 0 ≠ 0
    · have hE := errW_ok he hn
      obtain ⟨h1, h2, h3⟩ := hn
      obtain ⟨i, rfl⟩ : ∃ i : Nat, n = (i : Int) := ⟨n.toNat, by omega⟩
      rw [Int.toNat_natCast] at h3
      obtain ⟨M, rfl, hlen, h15, hk⟩ := errI_zero he
      have hi : i < M.length := by rw [nls_length] at h2; omega
      have hn1 : ¬ (i : Int) < 0 := by omega
      have hcell := HC.out i (by omega)
      have HCI := Lib.hid (fun W vb' hf => HCW.out W vb' hf i (by omega))
      clear HCW
      rw [nls_getD] at hcell h3
      have hx15 := h15 _ (getD_mem M i 0 hi)
      have hcl := code_lt h15 hk i hi
      unfold RetV numW
      rw [hE, if_pos (by trivial), nls_toNat, Int.toNat_natCast, nls_getD, Int.toNat_natCast]
      rw [nls_toNat, if_pos rfl] at HCO
      have HCL := Lib.hid hcl
      have hcg := codesN_getD M i hi
      have hcle := codesN_length M
      clear hE he h15 hk hcl HC
      rw [nls_length] at *
      generalize M.getD i 0 = x at *
      generalize codeN M i = c at *
      have hx0 : ((x : Int) == 0) = false := by simpa using h3
      have hx00 : ¬ (x : Int) = 0 := h3
      have hn2 : ¬ (i : Int) ≥ (M.length : Int) := by omega
      have hb : b < w.heap.size := hbk (by omega)
      go_enter Try.func98, Try.ntmps98
      go_wp2_with (first | (go_at_call 65; refine HP.out.mono ?_; rintro e w1 ⟨rfl, vb1, hq1, hq2, hf1⟩; have HQ1 := Lib.hid hq1; have HQ2 := Lib.hid hq2; have HF1 := Lib.hid hf1; clear hq1 hq2 hf1) | (go_at_call 112; refine (HCO.out _ _ HF1.out).mono ?_; rintro e w2 ⟨vc, rfl, hq3, hq4⟩; have HQ3 := Lib.hid hq3; have HQ4 := Lib.hid hq4; have hcell2 := (HCI.out _ _ (HF1.out.below HQ4.out)).1.trans hcell; clear hq3 hq4; have hb2 : b < w2.heap.size := (HCI.out _ _ (HF1.out.below HQ4.out)).2))
      have hicd := HQ3.out.sl
      obtain ⟨oc, cc, bc, fc, rfl, hdc, hcc⟩ := (show IntsAt w2 vc (nls (codesN M)) from hicd).open
      rw [nls_length, hcle] at hdc hcc
      have hcc2 := hcc i hi
      rw [nls_getD, hcg] at hcc2
      have hixc := index_any (P := Try.prog) 39 3 Try.underlying39 (by kernel_rfl) hdc
      have hbc := hdc.hblk (by omega)
      have HCO2 : Hid (Calls Try.prog 94 #[.pointer (some ⟨g, 0, none⟩), .int .i64 c, .int .i64 x] w2.drew fun e w' => e = .returned (.int .i64 0) ∧ ∃ vb2, WrtV w' B g (N + turnN c x * 2 ^ L) (L + x) vb2 ∧ Below B w2.drew w' ∧ Fr g vb1 vb2 w2.drew w') := Lib.hid (by
        exact codeV (HQ1.out.up (b_drew1 HQ4.out)) c x HCL.out (by omega) (by omega))
      have HB2 : Hid (Below B w w2.drew) := Lib.hid (b_drew1 (HQ2.out.trans (HQ4.out.mono (Nat.le_trans hBw HQ2.out.size))))
      clear hcc hicd hdc hcg hcle
      rw [show (nls (codesN M)).length = M.length by rw [nls_length, codesN_length]]
      refine wp_region_tailg [0,1,2,3,4,5,6,7,8] [] [9,10] (by kernel_rfl) (by kernel_rfl) ?_
      simp only [pick, List.map_cons, List.map_nil, List.getD_cons_zero, List.getD_cons_succ]
      repeat (go_big_quiet_step (fail))
      refine wpQuiet_nil ?_
      unfold wpAct
      unfold wpAct
      go_wp2_with (go_at_call 94; refine HCO2.out.mono ?_; rintro e w3 ⟨rfl, vb2, hq5, hq6, hf6⟩; have HQ5 := Lib.hid hq5; have HQ6 := Lib.hid hq6; have HF6 := Lib.hid hf6; clear hq5 hq6 hf6)
      refine ⟨trivial, ?_⟩
      unfold wpAct
      go_wp2
      refine ⟨trivial, ?_⟩
      unfold wpAct
      go_wp2
      go_ret
      exact ⟨rfl, vb2, HQ5.out, HB2.out.trans HQ6.out, (HF1.out.below (b_drew1 HQ4.out)).trans HF6.out⟩
    · have hE := errW_arg he hn
      have hE0 : errW l n ≠ 0 := by omega
      unfold RetV
      rw [numW_bad hE0, hE]
      clear hE hE0 he
      by_cases h1 : n < 0
      · go_enter Try.func98, Try.ntmps98
        go_wp2_with (first | (go_at_call 65; refine HP.out.mono ?_; rintro e w1 ⟨rfl, vb1, hq1, hq2, hf1⟩; have HQ1 := Lib.hid hq1; have HQ2 := Lib.hid hq2; have HF1 := Lib.hid hf1; clear hq1 hq2 hf1) | (go_at_call 112; refine (HCO.out _ _ HF1.out).mono ?_; rintro e w2 ⟨vc, rfl, hq3, hq4⟩; have HQ4 := Lib.hid hq4; clear hq3 hq4))
        go_ret
        exact ⟨rfl, vb1, HQ1.out.up HQ4.out, HQ2.out.trans (HQ4.out.mono (Nat.le_trans hBw HQ2.out.size)), HF1.out.below HQ4.out⟩
      · by_cases h2 : n ≥ (l.length : Int)
        · go_enter Try.func98, Try.ntmps98
          go_wp2_with (first | (go_at_call 65; refine HP.out.mono ?_; rintro e w1 ⟨rfl, vb1, hq1, hq2, hf1⟩; have HQ1 := Lib.hid hq1; have HQ2 := Lib.hid hq2; have HF1 := Lib.hid hf1; clear hq1 hq2 hf1) | (go_at_call 112; refine (HCO.out _ _ HF1.out).mono ?_; rintro e w2 ⟨vc, rfl, hq3, hq4⟩; have HQ4 := Lib.hid hq4; clear hq3 hq4))
          go_ret
          exact ⟨rfl, vb1, HQ1.out.up HQ4.out, HQ2.out.trans (HQ4.out.mono (Nat.le_trans hBw HQ2.out.size)), HF1.out.below HQ4.out⟩
        · obtain ⟨i, rfl⟩ : ∃ i : Nat, n = (i : Int) := ⟨n.toNat, by omega⟩
          have hi : i < l.length := by omega
          have hcell := HC.out i hi
          have HCI := Lib.hid (fun W vb' hf => HCW.out W vb' hf i hi)
          clear HCW
          have hb : b < w.heap.size := hbk (by omega)
          have hx : l.getD i 0 = 0 := by
            apply Classical.byContradiction; intro hx
            exact hn ⟨by omega, by omega, hx⟩
          rw [hx] at hcell
          have hx0 : ((0 : Int) == 0) = true := rfl
          clear hn
          go_enter Try.func98, Try.ntmps98
          go_wp2_with (first | (go_at_call 65; refine HP.out.mono ?_; rintro e w1 ⟨rfl, vb1, hq1, hq2, hf1⟩; have HQ1 := Lib.hid hq1; have HQ2 := Lib.hid hq2; have HF1 := Lib.hid hf1; clear hq1 hq2 hf1) | (go_at_call 112; refine (HCO.out _ _ HF1.out).mono ?_; rintro e w2 ⟨vc, rfl, hq3, hq4⟩; have HQ4 := Lib.hid hq4; have hcell2 := (HCI.out _ _ (HF1.out.below HQ4.out)).1.trans hcell; clear hq3 hq4; have hb2 : b < w2.heap.size := (HCI.out _ _ (HF1.out.below HQ4.out)).2))
          go_ret
          exact ⟨rfl, vb1, HQ1.out.up HQ4.out, HQ2.out.trans (HQ4.out.mono (Nat.le_trans hBw HQ2.out.size)), HF1.out.below HQ4.out⟩
  · have hE := errW_codes (n := n) he
    have hE0 : errW l n ≠ 0 := by omega
    have hne : ¬ (errI l : Int) = 0 := by omega
    unfold RetV
    rw [numW_bad hE0, hE]
    clear hE hE0
    generalize errI l = q at *
    go_enter Try.func98, Try.ntmps98
    go_wp2_with (first | (go_at_call 65; refine HP.out.mono ?_; rintro e w1 ⟨rfl, vb1, hq1, hq2, hf1⟩; have HQ1 := Lib.hid hq1; have HQ2 := Lib.hid hq2; have HF1 := Lib.hid hf1; clear hq1 hq2 hf1) | (go_at_call 112; refine (HCO.out _ _ HF1.out).mono ?_; rintro e w2 ⟨vc, rfl, hq3, hq4⟩; have HQ4 := Lib.hid hq4; clear hq3 hq4))
    go_ret
    exact ⟨rfl, vb1, HQ1.out.up HQ4.out, HQ2.out.trans (HQ4.out.mono (Nat.le_trans hBw HQ2.out.size)), HF1.out.below HQ4.out⟩
end Go.Cm

/- 'append(s, text...)': a text behind bytes of one's own. Conditions: none. -/
namespace Go.Cm
open Go.RowKit Go.Proofs

theorem run_firstCells_str {P : Program} (w : World) (k : Nat) (s : ByteArray) : (Builtin.firstCells k s.size (.string s)).run P w = .ok (bytesV s.data.toList).toArray w := by
  unfold Builtin.firstCells
  rw [Sem.run_pure]
  have h : (s.extract 0 s.size) = s := by simp
  rw [h]
  congr 1
  apply Array.ext'
  simp [bytesV]
theorem run_app_str {P : Program} (w : World) (B : Nat) (t u ty E : TypeId) (z : Value) (bytes : Nat) (ht : P.underlying t = some (.slice E)) (hu : P.underlying u = some .string) (hinf : (P.info? E).map (fun i => (i.zero, i.size, i.bytes)) = some (some z, 1, bytes)) (hz : z.cells.size = 1) (hby : bytes ≤ 24)
    (v : Value) (xs : List Value) (hown : Own w B E v xs) (s : ByteArray) (hlen : xs.length + s.size ≤ 4294967296) (hB : B ≤ w.heap.size) :
    ∃ v' w', (Builtin.append_ #[t, u] ty #[v, .string s]).run P w = .ok v' w' ∧ Own w' B E v' (xs ++ bytesV s.data.toList) ∧ w.grownBy w' v.ownBlock ∧ (∀ k, v'.ownBlock = some k → v.ownBlock = some k ∨ w.heap.size ≤ k) := by
  obtain ⟨i, hi, hz0, hz1, hz2⟩ : ∃ i0, P.info? E = some i0 ∧ i0.zero = some z ∧ i0.size = 1 ∧ i0.bytes = bytes := by
    cases hq : P.info? E with
    | none => simp [hq] at hinf
    | some i0 => simp [hq] at hinf; exact ⟨i0, rfl, hinf.1, hinf.2.1, hinf.2.2⟩
  have hnl : (bytesV s.data.toList).length = s.size := by rw [bytesV_length]; simp
  have h1 := bytesV_one s.data.toList
  have hl1 : xs.length + s.size ≤ maxLen := by simp only [maxLen]; omega
  have hl2 : (xs.length + s.size) * bytes ≤ 140737488355328 := by
    have := Nat.mul_le_mul hlen hby; omega
  have hf := fun w' => run_firstCells_str (P := P) w' 1 s
  generalize bytesV s.data.toList = news at *
  rcases hown with ⟨hrow, hsm⟩
  have hxl := hrow.1
  rw [Nat.mul_one] at hxl
  have grown : ∀ (old : Nat), old < xs.length + s.size → ∀ (row : Option Nat),
      (w.drew.alloc (.cells (xs.toArray ++ news.toArray ++ Builtin.zeroCells z.cells (grownCap w (xs.length + s.size) old E - (xs.length + s.size))) E)).ownsRow B E 1
        (.slice (some ⟨w.heap.size, 0, none⟩) (xs.length + s.size) (grownCap w (xs.length + s.size) old E)) (xs.length + s.size) (xs ++ news) ∧
      w.grownBy (w.drew.alloc (.cells (xs.toArray ++ news.toArray ++ Builtin.zeroCells z.cells (grownCap w (xs.length + s.size) old E - (xs.length + s.size))) E)) row := by
    intro old ho row
    have hge := grownCap_ge w (xs.length + s.size) old E
    have hcm : grownCap w (xs.length + s.size) old E ≤ maxLen := grownCap_le_maxLen w (xs.length + s.size) old E hl1
    refine ⟨⟨by simp [hnl], .inr ⟨w.heap.size, _, _, rfl, hB, heap_alloc_new w.drew _, hge, hcm, ?_, ?_⟩⟩, ⟨rfl, rfl, rfl, by simp, fun k hk _ => Below.heap_alloc w.drew _ k hk⟩⟩
    · simp only [Array.size_append, List.size_toArray, size_zeroCells, hz, hnl]
      omega
    · simp only [Array.toList_append, List.append_assoc]
      rw [← List.append_assoc, Nat.mul_one, ← hnl, ← List.length_append]
      exact List.take_left
  have hlen' : (xs ++ news).length ≤ 140737488351232 := by rw [List.length_append, hnl]; omega
  rcases hrow.2 with ⟨rfl, hx0⟩ | ⟨g, cap, cur, rfl, hbg, hg, hnc, hcm, hcs, htake⟩
  · obtain rfl : xs = [] := List.length_eq_zero_iff.1 hx0
    by_cases hs : s.size = 0
    · have hn : news = [] := List.length_eq_zero_iff.1 (by rw [hnl, hs])
      subst hn
      refine ⟨.slice none 0 0, w, ?_, Own.nil _ _ _, ⟨rfl, rfl, rfl, Nat.le_refl _, fun _ _ _ => rfl⟩, fun k hk => by simp [Value.ownBlock] at hk⟩
      have hf0 := hf w
      rw [hs] at hf0
      simp [Builtin.append_, run_underlying ht, run_underlying hu, sizeOf, typeInfo, hi, hz1, Builtin.lenOf, hs, hf0]
    · obtain ⟨g1, g2⟩ := grown 0 (by simp; omega) (Value.ownBlock (.slice none 0 0))
      simp only [List.length_nil, Nat.zero_add, List.nil_append] at g1 g2 hlen'
      refine ⟨_, _, ?_, ⟨by simpa [hnl] using g1, by simpa using hlen'⟩, g2, fun k hk => .inr (by simp [Value.ownBlock] at hk; omega)⟩
      have h63' : ¬ (9223372036854775807 < (s.size : Int)) := by simp at hlen; omega
      have h48' : ¬ (281474976710656 < Builtin.nextslicecap s.size 0 * i.bytes) := by rw [nextslicecap_zero (by omega), hz2]; simp at hl2; omega
      have hf0 := hf w.drew
      simp [Builtin.append_, run_underlying ht, run_underlying hu, sizeOf, typeInfo, zeroValue, hi, hz0, hz1, Builtin.lenOf, hs, h63', h48', Question.forced, run_firstCells_none, hf0, newRow, grownCap]
  · by_cases hroom : xs.length + s.size ≤ cap
    · have hfit : xs.length * 1 + news.length ≤ cur.size := by rw [hnl, hcs]; omega
      have hst := run_storeCells_at P g (xs.length * 1) E news 0 cur w hg (by simpa using hfit) h1
      simp only [Nat.add_zero, Nat.mul_one] at hst
      generalize hR : (cur.toList.take xs.length ++ news ++ cur.toList.drop (xs.length + news.length)).toArray = R at hst
      refine ⟨.slice (some ⟨g, 0, none⟩) (xs.length + s.size) cap, w.setRow g R, ?_, ⟨⟨by simp [hnl], .inr ⟨g, cap, R, ?_, hbg, setRow_heap w g cur R E _ hg, ?_, hcm, ?_, ?_⟩⟩, hlen'⟩, ⟨rfl, rfl, rfl, by simp, fun k _ hk => setRow_other w g k _ (fun e => hk (by simp [Value.ownBlock, e]))⟩, fun k hk => .inl hk⟩
      · have hf0 := hf w
        simp [Builtin.append_, run_underlying ht, run_underlying hu, sizeOf, typeInfo, hi, hz1, Builtin.lenOf, hroom, hf0, Addr.add_lit, hst]
      · rw [List.length_append, hnl]
      · rw [List.length_append, hnl]; exact hroom
      · rw [← hR]
        simp only [List.size_toArray, List.length_append, List.length_take, List.length_drop, Array.length_toList]
        omega
      · rw [Nat.mul_one] at htake
        rw [Nat.mul_one, ← hR, htake]
        exact List.take_left
    · have holds : ∀ j u, xs[j]? = some u → w.cell? ((⟨g, 0, none⟩ : Addr).add j) = some u := World.ownsRow.cells (g := g) hrow rfl
      obtain ⟨g1, g2⟩ := grown cap (by omega) (Value.ownBlock (.slice (some ⟨g, 0, none⟩) xs.length cap))
      refine ⟨_, _, ?_, ⟨by rw [List.length_append, hnl]; exact g1, hlen'⟩, g2, fun k hk => .inr (by simp [Value.ownBlock] at hk; omega)⟩
      have hn : ¬ (xs.length + s.size ≤ cap) := hroom
      have h63' : ¬ (9223372036854775807 < ((xs.length : Int) + (s.size : Int))) := by omega
      have h48' : ¬ (281474976710656 < Builtin.nextslicecap (xs.length + s.size) cap * i.bytes) := by
        have := growslice_fits (need := xs.length + s.size) (old := cap) (bytes := bytes) (by omega) hl2
        rw [hz2]; omega
      have hf0 := hf w.drew
      have hfo := run_firstCells_some (P := P) w.drew 1 xs.length ⟨g, 0, none⟩ xs.length cap xs (by omega) (by simpa using holds)
      simp [Builtin.append_, run_underlying ht, run_underlying hu, sizeOf, typeInfo, zeroValue, hi, hz0, hz1, Builtin.lenOf, hn, h63', h48', Question.forced, hf0, hfo, newRow, grownCap]
      congr 2
      apply Array.ext'
      simp [List.append_assoc]
theorem wpList_app_str {P : Program} {ops : Array Oper} {rest : List Oper} {o : Oper} {a : Act} {w : World} {Q : Exit → Act → World → Prop} (hgd : o.guard = none) (s x : Operand) (t u : TypeId)
    (ho : o.op = .call { callee := .builtin .append, args := #[s, x], argTypes := #[t, u] })
    (B E : TypeId) (z : Value) (bytes : Nat) (ht : P.underlying t = some (.slice E)) (hu : P.underlying u = some .string) (hinf : (P.info? E).map (fun i => (i.zero, i.size, i.bytes)) = some (some z, 1, bytes)) (hz : z.cells.size = 1) (hby : bytes ≤ 24)
    (v : Value) (xs : List Value) (hs : a.eval s = v) (hown : Own w B E v xs) (tx : ByteArray) (hxe : a.eval x = .string tx) (hlen : xs.length + tx.size ≤ 4294967296) (hB : B ≤ w.heap.size)
    (h : ∀ v' w', Own w' B E v' (xs ++ bytesV tx.data.toList) → w.grownBy w' v.ownBlock → (∀ k, v'.ownBlock = some k → v.ownBlock = some k ∨ w.heap.size ≤ k) → wpList P ops Q rest (a.put o.dst v') w') : wpList P ops Q (o :: rest) a w := by
  obtain ⟨v', w', hr, h2, h3, h4⟩ := run_app_str (P := P) w B t u o.type E z bytes ht hu hinf hz hby v xs hown tx hlen hB
  refine wpList_plain hgd fun K hK => ?_
  unfold Oper.wp execOp
  simp only [ho, resolve, invoke, builtin, Sem.run_bind, Sem.run_pure, Result.andThen_ok, List.map_toArray, List.map_cons, List.map_nil, hs, hxe, hr]
  exact hK _ _ (h v' w' h2 h3 h4)
end Go.Cm

/- The document's writer while numbers are put, and the walk of its Align. Conditions: the writer is there. -/
namespace Go.Cm
open Go.RowKit Go.Proofs

/-- the document's writer in block g, whose row was vb0 in world w0 -/
def RSt (w0 : World) (B g : Nat) (vb0 : Value) (st : Nat × Nat) (W : World) : Prop := ∃ vb, WrtRV W B g st.1 st.2 vb ∧ Below B w0 W ∧ Fr g vb0 vb w0 W
theorem RSt.start {w : World} {B g N L : Nat} {vb : Value} (h : WrtRV w B g N L vb) : RSt w B g vb (N, L) w := ⟨vb, h, Below.refl _ _, Fr.refl _ _ _⟩
theorem RSt.up {w0 W W' : World} {B g : Nat} {vb0 : Value} {st : Nat × Nat} (h : RSt w0 B g vb0 st W) (hb : Below W.heap.size W W') (hB : B ≤ W.heap.size) : RSt w0 B g vb0 st W' := by
  obtain ⟨vb, h1, h2, h3⟩ := h
  exact ⟨vb, h1.up hb, h2.trans (hb.mono hB), h3.below hb⟩
theorem RSt.bel {w0 W : World} {B g : Nat} {vb0 : Value} {st : Nat × Nat} (h : RSt w0 B g vb0 st W) : Below B w0 W := by
  obtain ⟨vb, h1, h2, h3⟩ := h; exact h2
theorem RSt.size {w0 W : World} {B g : Nat} {vb0 : Value} {st : Nat × Nat} (h : RSt w0 B g vb0 st W) : w0.heap.size ≤ W.heap.size := h.bel.size
theorem RSt.own {w0 W : World} {B g B' E : Nat} {vb0 v : Value} {st : Nat × Nat} {xs : List Value} (h : RSt w0 B g vb0 st W) (ho : Own w0 B' E v xs) (h1 : v.ownBlock ≠ some g) (h2 : ∀ k, v.ownBlock = some k → vb0.ownBlock ≠ some k) : Own W B' E v xs := by
  obtain ⟨vb, -, -, h3⟩ := h
  exact ho.of_blk fun k hk => h3.1 k (ho.lt k hk).2 (fun e => h1 (by rw [hk, e])) (h2 k hk)
theorem RSt.join {w0 W : World} {B g : Nat} {vb0 : Value} {st st' : Nat × Nat} {P : Program} {f : FuncId} {args : Array Value} {Q : Ending → Prop} (h : RSt w0 B g vb0 st W)
    (hc : ∀ vb, WrtRV W B g st.1 st.2 vb → Calls P f args W fun e w' => Q e ∧ RSt W B g vb st' w') : Calls P f args W fun e w' => Q e ∧ RSt w0 B g vb0 st' w' := by
  obtain ⟨vb, h1, h2, h3⟩ := h
  exact (hc vb h1).mono fun e w' ⟨hq, vb', g1, g2, g3⟩ => ⟨hq, vb', g1, h2.trans g2, h3.trans g3⟩
theorem RSt.from1 {w w1 W : World} {B g : Nat} {vb0 : Value} {st : Nat × Nat} (h : RSt w1 B g vb0 st W) (hb : Below w.heap.size w w1) (hB : B ≤ w.heap.size) : RSt w B g vb0 st W := by
  obtain ⟨vb, h1, h2, h3⟩ := h
  exact ⟨vb, h1, (hb.mono hB).trans h2, ((Fr.refl g vb0 w).below hb).trans h3⟩
end Go.Cm

/- The walks of what lays bytes behind bits. Conditions: the writers are there. -/
namespace Go.Cm
open Go.RowKit Go.Proofs

def bytS (l : Byts) (st : Nat × Nat) : Nat × Nat := putS (l.map fun b => (b.toNat, 8)) st
theorem bytS_snoc (l : Byts) (b : UInt8) (st : Nat × Nat) : bytS (l ++ [b]) st = ((bytS l st).1 + b.toNat * 2 ^ (bytS l st).2, (bytS l st).2 + 8) := by
  unfold bytS; rw [List.map_append]; exact putS_snoc _ _ _
theorem bytS_len (l : Byts) (st : Nat × Nat) : (bytS l st).2 = st.2 + 8 * l.length := by
  unfold bytS
  rw [putS_len]
  congr 1
  induction l with
  | nil => rfl
  | cons b l ih => simp only [List.map_cons, List.sum_cons, ih, List.length_cons]; omega
theorem bytS_take {l : Byts} {k : Nat} (hk : k < l.length) (st : Nat × Nat) : bytS (l.take (k + 1)) st = ((bytS (l.take k) st).1 + (l.getD k 0).toNat * 2 ^ (bytS (l.take k) st).2, (bytS (l.take k) st).2 + 8) := by
  rw [List.take_succ_eq_append_getElem hk, bytS_snoc]
  have : l.getD k 0 = l[k] := by simp [List.getD, hk]
  rw [this]
theorem put_byte {N L v : Nat} (hN : N < 2 ^ L) (h8 : L % 8 = 0) (hv : v < 256) :
    bytesN (N + v * 2 ^ L) ((L + 8) / 8) = bytesN N (L / 8) ++ [.int .u8 (v : Nat)] ∧ N + v * 2 ^ L < 2 ^ (L + 8) ∧ (L + 8) % 8 = 0 := by
  have e1 : (L + 8) / 8 = L / 8 + 1 := by omega
  have e2 : 256 ^ (L / 8) = 2 ^ L := by rw [pow256]; congr 1; omega
  refine ⟨?_, num_add_lt hN hv, by omega⟩
  rw [e1, bytesN_succ, bytesN_add]
  congr 2
  unfold byteAt
  rw [e2, Nat.add_mul_div_right _ _ (Nat.two_pow_pos L), Nat.div_eq_of_lt hN, Nat.zero_add, Nat.mod_eq_of_lt hv]
theorem bytS_row {N L : Nat} (hN : N < 2 ^ L) (h8 : L % 8 = 0) (l : Byts) :
    bytesN (bytS l (N, L)).1 ((bytS l (N, L)).2 / 8) = bytesN N (L / 8) ++ bytesV l ∧ (bytS l (N, L)).1 < 2 ^ (bytS l (N, L)).2 ∧ (bytS l (N, L)).2 % 8 = 0 := by
  have key : ∀ n, n ≤ l.length → bytesN (bytS (l.take n) (N, L)).1 ((bytS (l.take n) (N, L)).2 / 8) = bytesN N (L / 8) ++ bytesV (l.take n) ∧ (bytS (l.take n) (N, L)).1 < 2 ^ (bytS (l.take n) (N, L)).2 ∧ (bytS (l.take n) (N, L)).2 % 8 = 0 := by
    intro n
    induction n with
    | zero => intro _; exact ⟨by simp [bytS, putS_nil, bytesV], hN, h8⟩
    | succ n ih =>
      intro hn
      obtain ⟨i1, i2, i3⟩ := ih (by omega)
      rw [bytS_take (by omega)]
      have hb : (l.getD n 0).toNat < 256 := UInt8.toNat_lt _
      obtain ⟨p1, p2, p3⟩ := put_byte i2 i3 hb
      refine ⟨?_, p2, p3⟩
      rw [p1, i1, List.append_assoc, List.take_succ_eq_append_getElem (by omega), bytesV_append]
      congr 2
      have : l.getD n 0 = l[n] := by simp [List.getD, show n < l.length by omega]
      rw [this]
      rfl
  have h := key l.length (Nat.le_refl _)
  rwa [List.take_length] at h
theorem alignW_8 (st : Nat × Nat) : (alignW st).2 % 8 = 0 := by unfold alignW alignN; simp only; omega
theorem alignW_lt {st : Nat × Nat} (h : st.1 < 2 ^ st.2) : (alignW st).1 < 2 ^ (alignW st).2 :=
  Nat.lt_of_lt_of_le h (Nat.pow_le_pow_right (by decide) (by unfold alignW alignN; simp only; omega))
set_option maxRecDepth 100000 in
theorem bytesWP {w0 W : World} {B g : Nat} {vb0 : Value} {st : Nat × Nat} (h : WSt w0 B g vb0 st W) (s : ByteArray) (hs : s.size ≤ 1000000) (hL : st.2 ≤ 200000000) :
    Calls Try.prog 44 #[.pointer (some ⟨g, 0, none⟩), .string s] W fun e w' => e = .returned (.tuple #[]) ∧ WSt w0 B g vb0 (bytS (bys s) (alignW st)) w' := by
  have HA := Lib.hid (alignWP h (by omega))
  obtain ⟨vbx, hx, -, -⟩ := h
  have HB := Lib.hid hx.box
  have hlt : st.1 < 2 ^ st.2 := hx.lt
  have HROW := Lib.hid (bytS_row (alignW_lt hlt) (alignW_8 st) (bys s))
  have HAL : Hid ((alignW st).2 ≤ 200000010) := Lib.hid (by unfold alignW alignN; simp only; omega)
  have HA8 := Lib.hid (alignW_8 st)
  have HALT := Lib.hid (alignW_lt hlt)
  clear hx hlt
  obtain ⟨D, hD⟩ : ∃ D, D = bytS (bys s) (alignW st) := ⟨_, rfl⟩
  rw [← hD]
  rw [show ((alignW st).1, (alignW st).2) = alignW st from rfl, ← hD] at HROW
  clear hD
  generalize alignW st = sa at *
  obtain ⟨Na, La⟩ := sa
  obtain ⟨N', L'⟩ := D
  simp only at HROW HAL HA8 HALT
  go_enter Try.func44, Try.ntmps44
  go_upto_region 2 with (first
    | (go_at_call 69; refine (thereP HB.out).mono ?_; rintro e w' ⟨rfl, hw'⟩; rw [hw']; clear hw')
    | (go_at_call 67; (with_reducible refine HA.out.mono ?_); rintro e w2 ⟨rfl, hq⟩; have HQ := Lib.hid hq; clear hq))
  obtain ⟨vb2, hv2, hb2, hf2⟩ := HQ.out
  simp only at hv2
  have HV2 := Lib.hid hv2
  have HB2 := Lib.hid hb2
  have HF2 := Lib.hid hf2
  have c1 := hv2.box.c1
  have f1 := hv2.box.free 1
  have hg2 := hv2.box.lt
  have hBg : B ≤ w2.heap.size := by have := hv2.ge; omega
  have HT3 : Hid ((bytesN Na (La / 8)).length + s.size ≤ 4294967296) := Lib.hid (by rw [bytesN_length]; have := HAL.out; omega)
  have HT4 := Lib.hid hBg
  clear hv2 hb2 hf2 hBg HA HB
  go_wp2_with (at_builtin; refine wpList_app_str rfl (.tmp 12) (.tmp 13) 43 9 rfl B 5 (.int .u8 0) 1 Try.underlying43 Try.underlying9 (by kernel_rfl) rfl (by decide) vb2 (bytesN Na (La / 8)) rfl HV2.out.own s rfl HT3.out HT4.out ?_; intro v' w5 hown1 hg1 hk1; have HO1 := Lib.hid hown1; have HG1 := Lib.hid hg1; have HK1 := Lib.hid hk1; have hbx5 := HV2.out.box.keep hg1 HV2.out.ne; have HBX5 := Lib.hid hbx5; have c15 := hbx5.c1; have f15 := hbx5.free 1; have hg5 := hbx5.lt; obtain ⟨o5, k5, q5, hv5, -⟩ := hown1.cases; subst hv5; generalize (bytesN Na (La / 8) ++ bytesV s.data.toList).length = l5 at *; have HST := Lib.hid (hbx5.set1 (.slice o5 l5 k5)); clear hown1 hg1 hk1 hbx5)
  go_end0
  have hne : (Value.slice o5 l5 k5).ownBlock ≠ some g := fun e => by
    rcases HK1.out _ e with h | h
    · exact HV2.out.ne h
    · omega
  obtain ⟨r1, r2, r3⟩ := HROW.out
  have e0 : N' / 256 ^ (L' / 8) = 0 := by
    rw [pow256, show 8 * (L' / 8) = L' by omega]
    exact Nat.div_eq_of_lt r2
  have e1 : Na / 256 ^ (La / 8) = 0 := by
    have := HA8.out
    rw [pow256, show 8 * (La / 8) = La by omega]
    exact Nat.div_eq_of_lt HALT.out
  refine ⟨rfl, _, ⟨?_, ?_, hne, HV2.out.ge, r2⟩, ?_, ?_⟩
  · have hb := HST.out.1
    rw [e1, HA8.out] at hb
    simp only [e0, r3]
    exact hb
  · simp only [r1]
    exact HO1.out.keep HST.out.2 (.inr hne)
  · exact ((below_grown HB2.out HT4.out HV2.out.own HG1.out)).grown HST.out.2 (Nat.le_trans HT4.out HG1.out.size) (fun k e => by cases e; exact HV2.out.ge)
  · exact (((HF2.out.step HG1.out (fun k e => .inr e)).val HK1.out HF2.out.2.2).step HST.out.2 (fun k e => by cases e; exact .inl rfl))
end Go.Cm

/- The walks of the program's symbols of lengths and distances. Conditions: none. -/
namespace Go.Cm
open Go.RowKit Go.Proofs

def z30 : Array Value := (ints (List.replicate 30 0)).toArray
theorem zero_30 (W : World) : (zeroValue 180).run Try.prog W = .ok (.agg z30) W := by kernel_rfl
theorem z30_list : z30.toList = ints (nls (List.replicate 30 0)) := rfl
theorem box30 (w : World) (A : Array Value) (hA : A = z30) : BoxA (w.alloc (.cells A 180)) 180 30 w.heap.size (nls (List.replicate 30 0)) := by
  subst hA
  exact boxA_new w 180 z30 (nls (List.replicate 30 0)) z30_list (by decide)
/-- the bases, as far as they have been laid -/
def basL (base each k : Nat) : List Nat := (List.range 30).map fun i => if i < k then spBase base each i else 0
theorem basL_len (base each k : Nat) : (basL base each k).length = 30 := by simp [basL]
theorem basL_getD (base each k i : Nat) (h : i < 30) : (basL base each k).getD i 0 = if i < k then spBase base each i else 0 := by simp [basL, List.getD, h]
theorem basL_zero (base each : Nat) : basL base each 0 = List.replicate 30 0 := by simp [basL, List.map_const']
theorem basL_set (base each k : Nat) : (basL base each k).set k (spBase base each k) = basL base each (k + 1) := by
  refine List.ext_getElem (by simp [basL]) fun i h1 h2 => ?_
  simp only [basL, List.length_set, List.length_map, List.length_range] at h1
  simp only [basL, List.getElem_set, List.getElem_map, List.getElem_range]
  by_cases h : k = i
  · subst h; rw [if_pos rfl, if_pos (by omega)]
  · rw [if_neg h]
    by_cases h3 : i < k
    · rw [if_pos h3, if_pos (by omega)]
    · rw [if_neg h3, if_neg (by omega)]
def kdV4 : Array Value := #[.int .i64 257, .int .i64 28, .int .i64 3, .int .i64 4]
theorem kd4 (w : World) : Calls Try.prog 118 #[] w fun e w' => e = .returned (.agg kdV4) ∧ ∃ x, w' = ext w x := by
  have HO := Lib.hid (own_lit w w.heap.size #[Value.int .i64 257, .int .i64 28, .int .i64 3, .int .i64 4] 166 (by simp) (Nat.le_refl _))
  go_enter Try.func118, Try.ntmps118
  go_wp2
  refine ret_cell rfl rfl rfl (own_load HO.out _ Try.underlying166 rfl (by kernel_rfl)) ?_
  exact ⟨rfl, (ex_ext (by repeat (first | exact Below.refl _ _ | assumption | refine b_drewN ?_ _ | refine Below.drew ?_ | refine b_ext' ?_ _ | refine b_alloc' ?_ _)))⟩
theorem bits4 (i : Nat) (hi : i < 100) (w : World) : Calls Try.prog 135 #[.agg kdV4, .int .i64 i] w fun e w' => e = .returned (.int .i64 (spB 4 i : Nat)) ∧ ∃ x, w' = ext w x := by
  have h1 : (i : Int).tdiv 4 = ((i / 4 : Nat) : Int) := by norm_cast
  have hl : i / 4 < 100 := by omega
  unfold kdV4 spB
  go_enter Try.func135, Try.ntmps135
  go_wp2
  all_goals
    go_ret
    refine ⟨?_, (ex_ext (by repeat (first | exact Below.refl _ _ | assumption | refine b_drewN ?_ _ | refine Below.drew ?_ | refine b_ext' ?_ _ | refine b_alloc' ?_ _)))⟩
    first
      | (rw [show ((i / 4 - 1 : Nat) : Int) = (i : Int) / 4 - 1 by omega]; rfl)
      | (rw [show ((i / 4 - 1 : Nat) : Int) = 0 by omega]; rfl)
theorem spB4_le (i : Nat) (h : i < 30) : spB 4 i ≤ 13 := by unfold spB; omega
theorem spBase4_le : ∀ i, i ≤ 30 → spBase 3 4 i ≤ 40000 := by
  intro i hi
  exact Nat.le_trans (spBase_mono 3 4 hi) (by decide)
set_option maxRecDepth 100000 in
theorem bases4 (w : World) : Calls Try.prog 134 #[.agg kdV4] w fun e w' => e = .returned (.agg (ints (nls (basL 3 4 28))).toArray) ∧ ∃ x, w' = ext w x := by
  have HBI := Lib.hid (fun (i : Nat) (hi : i < 100) (W : World) => bits4 i hi W)
  unfold kdV4 at HBI ⊢
  obtain ⟨w1, hw1⟩ : ∃ w1, w1 = w.alloc (.cells #[.int .i64 257, .int .i64 28, .int .i64 3, .int .i64 4] 166) := ⟨_, rfl⟩
  have hz := zero_30
  obtain ⟨Z, hZ⟩ : ∃ Z, Z = z30 := ⟨_, rfl⟩
  rw [← hZ] at hz
  have hk := own_lit w w.heap.size #[Value.int .i64 257, .int .i64 28, .int .i64 3, .int .i64 4] 166 (by simp) (Nat.le_refl _)
  rw [← hw1] at hk
  have hs1 : w1.heap.size = w.heap.size + 1 := by rw [hw1]; simp
  have hb1 := box30 w1 Z hZ
  have hb2 := box30 (w1.alloc (.cells Z 180)) Z hZ
  rw [show (w1.alloc (.cells Z 180)).heap.size = w.heap.size + 2 by simp [hs1]] at hb2
  rw [hs1] at hb1
  rw [← basL_zero 3 4] at hb2
  obtain ⟨O, hO⟩ : ∃ O : List Int, O = nls (List.replicate 30 0) := ⟨_, rfl⟩
  rw [← hO] at hb1
  have HB1 := Lib.hid (hb1.up (below_alloc _ (.cells Z 180)))
  have HB2 := Lib.hid hb2
  have HK := Lib.hid ((hk.up (below_alloc w1 (.cells Z 180))).up (below_alloc _ (.cells Z 180)))
  have HBL : Hid (Below w.heap.size w ((w1.alloc (.cells Z 180)).alloc (.cells Z 180))) := Lib.hid (by rw [hw1]; exact (by repeat (first | exact Below.refl _ _ | assumption | refine b_drewN ?_ _ | refine Below.drew ?_ | refine b_ext' ?_ _ | refine b_alloc' ?_ _)))
  have HW1 := Lib.hid hw1
  have HS1 := Lib.hid hs1
  clear hw1 hZ hb1 hb2 hk hO hs1
  go_enter Try.func134, Try.ntmps134
  go_wp2
  rw [← HW1.out]
  generalize (w1.alloc (.cells Z 180)).alloc (.cells Z 180) = w3 at *
  go_loopg [4, 10] (28 + 1) (fun gk nv iv wr => ∃ k : Nat, nv = .int .i64 (spBase 3 4 k : Nat) ∧ iv = .int .i64 k ∧ k ≤ 28 ∧ BoxA wr 180 30 (w.heap.size + 2) (nls (basL 3 4 k)) ∧ BoxA wr 180 30 (w.heap.size + 1) O ∧ Own wr w.heap.size 166 (.slice (some ⟨w.heap.size, 0, none⟩) 4 4) [.int .i64 257, .int .i64 28, .int .i64 3, .int .i64 4] ∧ Below w.heap.size w wr ∧ gk = 28 + 1 - k)
  case atStart => exact ⟨0, rfl, rfl, Nat.zero_le _, HB2.out, HB1.out, HK.out, HBL.out, rfl⟩
  case round =>
    clear HB2 HB1 HK HBL
    obtain ⟨k, rfl, rfl, hk, hb2, hb1, hkk, hbel, rfl⟩ := hrel
    have HB2 := Lib.hid hb2
    have HB1 := Lib.hid hb1
    have HK := Lib.hid hkk
    have HBL := Lib.hid hbel
    have hsz := hbel.size
    have hl2 := hb2.lt
    by_cases hlt : k < 28
    · have hlti : (k : Int) < 28 := by omega
      have hc := hb2.cell (c := k) (by omega)
      rw [nls_getD] at hc
      have hf := hb2.free k
      have hst := hb2.set k (spBase 3 4 k : Nat)
      rw [nls_set, basL_set] at hst
      have HST := Lib.hid hst
      have hbs := spBase4_le k (by omega)
      have hb13 := spB4_le k (by omega)
      have hnx := spBase_step 3 4 k
      have HNX := Lib.hid hnx
      clear hb2 hb1 hkk hbel hst hnx
      obtain ⟨A, hgA, hsA, hA⟩ := (HK.out.keep HST.out.2 (.inr (by simp [Value.ownBlock]))).whole
      have hA' : A = #[.int .i64 257, .int .i64 28, .int .i64 3, .int .i64 4] := by rw [← Array.toArray_toList (xs := A), hA]
      subst hA'
      clear hA hsA
      generalize (basL 3 4 k).getD k 0 = z at *
      have HBK := Lib.hid (fun W => HBI.out k (by omega) W)
      have HN1 : Hid (((spBase 3 4 (k + 1) : Nat) : Int) = ((spBase 3 4 k : Nat) : Int) + 2 ^ (spB 4 k)) := Lib.hid (by rw [HNX.out]; norm_cast)
      have hp := Nat.pow_le_pow_right (n := 2) (by decide) hb13
      have hpi : (2 : Int) ^ (spB 4 k) ≤ 8192 := by
        have h : ((2 ^ spB 4 k : Nat) : Int) ≤ 8192 := by omega
        simpa using h
      have hpi0 : (0 : Int) ≤ (2 : Int) ^ (spB 4 k) := Int.pow_nonneg (by decide)
      generalize spBase 3 4 k = q at *
      generalize spB 4 k = b at *
      go_wp2_with (first | (refine load_box rfl 166 4 _ rfl w.heap.size rfl #[.int .i64 257, .int .i64 28, .int .i64 3, .int .i64 4] rfl hgA _ Try.underlying166 rfl (by kernel_rfl) ?_) | (go_at_call 135; (with_reducible refine (HBK.out _).mono ?_); rintro e w4 ⟨rfl, x4, rfl⟩))
      go_roundg (28 + 1 - (k + 1))
      case measure => omega
      case rel => exact ⟨k + 1, by rw [HN1.out], by go_num, by omega, HST.out.1.up (ext_below _ x4), (HB1.out.keep HST.out.2 (by simp)).up (ext_below _ x4), (HK.out.keep HST.out.2 (.inr (by simp [Value.ownBlock]))).up (ext_below _ x4), (HBL.out.grown HST.out.2 hsz (fun q hq => by cases hq; omega)).trans ((ext_below _ x4).mono (Nat.le_trans hsz HST.out.2.size)), rfl⟩
    · obtain rfl : k = 28 := by omega
      obtain ⟨A, hgA, hsA, hA⟩ := hb2.open
      have HA := Lib.hid (congrArg List.toArray hA)
      clear hb2 hb1 hkk hbel HB2 HK hA hlt
      go_wp2_with (first | (refine load_box rfl 180 30 _ rfl (w.heap.size + 2) rfl A hsA hgA _ Try.underlying180 rfl (by kernel_rfl) ?_) | (refine store_box rfl 180 30 _ _ rfl (w.heap.size + 1) rfl O (nls (basL 3 4 28)) (congrArg Value.agg HA.out) (by rw [nls_length, basL_len]) (by kernel_rfl) HB1.out ?_; intro w4 hB4 hg4; have HB4 := Lib.hid hB4; have HG4 := Lib.hid hg4; clear hB4 hg4))
      refine ret_cell rfl rfl rfl (HB4.out.load _ Try.underlying180 rfl (by kernel_rfl)) ?_
      exact ⟨rfl, ex_ext (HBL.out.grown HG4.out hsz (fun q hq => by cases hq; omega))⟩
set_option maxRecDepth 100000 in
theorem symP4 (n : Nat) (hn : 3 ≤ n) (hn2 : n ≤ 40000) (w : World) : Calls Try.prog 119 #[.agg kdV4, .int .i64 n] w fun e w' => e = .returned (.tuple #[.int .i64 ((symOf 257 3 4 n 27).s : Nat), .int .i64 ((symOf 257 3 4 n 27).b : Nat), .int .i64 ((symOf 257 3 4 n 27).v : Nat)]) ∧ ∃ x, w' = ext w x := by
  have HBI := Lib.hid (fun (i : Nat) (hi : i < 100) (W : World) => bits4 i hi W)
  have HBA := Lib.hid (fun (W : World) => bases4 W)
  obtain ⟨s3, hs3⟩ : ∃ s3, s3 = symOf 257 3 4 n 27 := ⟨_, rfl⟩
  rw [← hs3]
  have HS3 := Lib.hid hs3
  clear hs3
  unfold kdV4 at HBI HBA ⊢
  obtain ⟨cl, hcl⟩ : ∃ cl, cl = nls (basL 3 4 28) := ⟨_, rfl⟩
  rw [← hcl] at HBA
  have HCL : Hid (∀ i, i < 28 → cl.getD i 0 = (spBase 3 4 i : Nat)) := Lib.hid (fun i hi => by rw [hcl, nls_getD, basL_getD _ _ _ _ (by omega), if_pos hi])
  have hll : cl.length = 30 := by rw [hcl, nls_length, basL_len]
  clear hcl
  have hz := zero_30
  obtain ⟨Z, hZ⟩ : ∃ Z, Z = z30 := ⟨_, rfl⟩
  rw [← hZ] at hz
  have HB30 := Lib.hid (fun W => box30 W Z hZ)
  clear hZ
  obtain ⟨w1, hw1⟩ : ∃ w1, w1 = w.alloc (.cells #[.int .i64 257, .int .i64 28, .int .i64 3, .int .i64 4] 166) := ⟨_, rfl⟩
  have hk := own_lit w w.heap.size #[Value.int .i64 257, .int .i64 28, .int .i64 3, .int .i64 4] 166 (by simp) (Nat.le_refl _)
  rw [← hw1] at hk
  have HK := Lib.hid hk
  have HW1 := Lib.hid hw1
  have hb1 : Below w.heap.size w w1 := by rw [hw1]; exact below_alloc _ _
  have HB1 := Lib.hid hb1
  obtain ⟨A, hgA, hsA, hA⟩ := hk.whole
  have hA' : A = #[.int .i64 257, .int .i64 28, .int .i64 3, .int .i64 4] := by rw [← Array.toArray_toList (xs := A), hA]
  subst hA'
  rw [hw1] at hgA
  clear hA hsA hk hb1 hw1
  go_enter Try.func119, Try.ntmps119
  go_wp2_with (first | (refine load_box rfl 166 4 _ rfl w.heap.size rfl #[.int .i64 257, .int .i64 28, .int .i64 3, .int .i64 4] rfl hgA _ Try.underlying166 rfl (by kernel_rfl) ?_) | (go_at_call 134; rw [← HW1.out]; (with_reducible refine (HBA.out _).mono ?_); rintro e w2 ⟨rfl, x2, rfl⟩; have HX2 := Lib.hid (ext_below w1 x2); generalize ext w1 x2 = w2 at *; have HB2 := Lib.hid (HB30.out w2); have HK2 := Lib.hid ((HK.out.up HX2.out).up (below_alloc w2 (.cells Z 180))); clear HB30 HK) | (refine store_box rfl 180 30 _ _ rfl w2.heap.size rfl _ cl rfl hll (by kernel_rfl) HB2.out ?_; intro w4 hB4 hg4; have HB4 := Lib.hid hB4; have HK4 := Lib.hid (HK2.out.keep hg4 (.inr (by intro e; have e2 : some w.heap.size = some w2.heap.size := e; injection e2 with e2; have h1 := HX2.out.size; have h2 := (HK2.out.blk).1; have h3 := HB1.out.size; rw [HW1.out] at h1; simp at h1; omega))); have HL4 : Hid (Below w.heap.size w w4) := Lib.hid (((HB1.out.trans (HX2.out.mono HB1.out.size)).alloc (Nat.le_trans HB1.out.size HX2.out.size) _).grown hg4 (Nat.le_trans (Nat.le_trans HB1.out.size HX2.out.size) (below_alloc _ _).size) (fun q hq => by cases hq; exact Nat.le_trans HB1.out.size HX2.out.size)); have c41 : w4.cell? ⟨w.heap.size, 1, none⟩ = some (.int .i64 28) := HK4.out.cell (by simp); have b41 := HK4.out.blk.2; clear hB4 hg4 HB2 HK2))
  have hg4 := HB4.out.lt
  have hb0 : ∀ i, i < 28 → w4.cell? ⟨w2.heap.size, i, none⟩ = some (.int .i64 (spBase 3 4 i : Nat)) := fun i hi => by rw [HB4.out.cell (by omega), HCL.out i hi]
  have HC0 := Lib.hid hb0
  obtain ⟨A4, hgA4, hsA4, hA4⟩ := HK4.out.whole
  have hA4' : A4 = #[.int .i64 257, .int .i64 28, .int .i64 3, .int .i64 4] := by rw [← Array.toArray_toList (xs := A4), hA4]
  subst hA4'
  have c40 : w4.cell? ⟨w.heap.size, 0, none⟩ = some (.int .i64 257) := HK4.out.cell (by simp)
  generalize w2.heap.size = q2 at *
  clear hb0 hA4 hsA4 HCL HBA HB4 HK4 c41 hgA
  have hgk : ∀ w', (∃ x, w' = ext w4 x) → w'.heap[w.heap.size]? = some (.cells #[.int .i64 257, .int .i64 28, .int .i64 3, .int .i64 4] 166 (0, 0)) := fun w' ⟨x, hx⟩ => by rw [hx, heap_ext w4 x _ b41]; exact hgA4
  have HGK := Lib.hid hgk
  clear hgk
  go_loopg [8] 27 (fun gk iv wr => ∃ k : Nat, iv = .int .i64 k ∧ k ≤ 27 ∧ wr = w4 ∧ Hid (spIdx 3 4 n 27 = spIdx 3 4 n k) ∧ gk = k)
  case atStart => exact ⟨27, rfl, Nat.le_refl _, rfl, Lib.hid rfl, rfl⟩
  case round =>
    obtain ⟨k, rfl, hk, rfl, HX, rfl⟩ := hrel
    have hck := HC0.out gk (by omega)
    by_cases h : spBase 3 4 gk ≤ n
    · have hd : decide ((spBase 3 4 gk : Nat) > (n : Int)) = false := by rw [decide_eq_false_iff_not]; omega
      have HE : Hid (s3.s = 257 + gk ∧ s3.b = spB 4 gk ∧ s3.v = n - spBase 3 4 gk) := Lib.hid (by
        have e : spIdx 3 4 n 27 = gk := by rw [HX.out]; exact spIdx_here h
        rw [HS3.out]
        unfold symOf
        rw [e]
        exact ⟨rfl, rfl, rfl⟩)
      have hv : ((n - spBase 3 4 gk : Nat) : Int) = (n : Int) - (spBase 3 4 gk : Nat) := by omega
      have HV := Lib.hid hv
      have HBK := Lib.hid (fun W => HBI.out gk (by omega) W)
      clear hv HX HC0 HS3
      obtain ⟨ss, sb, sv⟩ := s3
      simp only at HE
      obtain ⟨b, hb⟩ : ∃ b, b = spB 4 gk := ⟨_, rfl⟩
      rw [← hb] at HBK HE
      clear hb
      generalize spBase 3 4 gk = q at *
      generalize hvv : n - q = vv at *
      clear hvv
      go_wp2
      refine wp_region_ext (by kernel_rfl) (by kernel_rfl) ?_
      repeat (first | (go_big_quiet_want; refine quiet_load_box 166 4 _ rfl w.heap.size rfl #[.int .i64 257, .int .i64 28, .int .i64 3, .int .i64 4] rfl HGK.out _ Try.underlying166 rfl (by kernel_rfl) ?_; go_simp; go_big_quiet_on) | go_big_quiet_step ((go_at_call 135; exact calls_in (HBK.out _))))
      refine wpQuiet_nil ?_
      rintro w' ⟨x2, rfl⟩
      go_wp2
      go_ret3
      obtain ⟨e1, e2, e3⟩ := HE.out
      subst e1 e2 e3
      refine ⟨?_, ex_ext (HL4.out.trans ((ext_below _ _).mono HL4.out.size))⟩
      rw [HV.out]
      (try rw [Nat.zero_add])
      rfl
    · have hd : decide ((spBase 3 4 gk : Nat) > (n : Int)) = true := by simp; omega
      obtain ⟨j, rfl⟩ : ∃ j, gk = j + 1 := ⟨gk - 1, by
        rcases Nat.eq_zero_or_pos gk with h0 | h0
        · subst h0; exact absurd hn h
        · omega⟩
      have HX2 : Hid (spIdx 3 4 n 27 = spIdx 3 4 n j) := Lib.hid (by rw [HX.out]; exact spIdx_down (by omega))
      generalize spBase 3 4 (j + 1) = q at *
      go_wp2
      go_roundg j
      case measure => omega
      case rel => exact ⟨j, by go_num, by omega, rfl, HX2, rfl⟩
def kdV2 : Array Value := #[.int .i64 0, .int .i64 30, .int .i64 1, .int .i64 2]
theorem kd2 (w : World) : Calls Try.prog 120 #[] w fun e w' => e = .returned (.agg kdV2) ∧ ∃ x, w' = ext w x := by
  have HO := Lib.hid (own_lit w w.heap.size #[Value.int .i64 0, .int .i64 30, .int .i64 1, .int .i64 2] 166 (by simp) (Nat.le_refl _))
  go_enter Try.func120, Try.ntmps120
  go_wp2
  refine ret_cell rfl rfl rfl (own_load HO.out _ Try.underlying166 rfl (by kernel_rfl)) ?_
  exact ⟨rfl, (ex_ext (by repeat (first | exact Below.refl _ _ | assumption | refine b_drewN ?_ _ | refine Below.drew ?_ | refine b_ext' ?_ _ | refine b_alloc' ?_ _)))⟩
theorem bits2 (i : Nat) (hi : i < 100) (w : World) : Calls Try.prog 135 #[.agg kdV2, .int .i64 i] w fun e w' => e = .returned (.int .i64 (spB 2 i : Nat)) ∧ ∃ x, w' = ext w x := by
  have h1 : (i : Int).tdiv 2 = ((i / 2 : Nat) : Int) := by norm_cast
  have hl : i / 2 < 100 := by omega
  unfold kdV2 spB
  go_enter Try.func135, Try.ntmps135
  go_wp2
  all_goals
    go_ret
    refine ⟨?_, (ex_ext (by repeat (first | exact Below.refl _ _ | assumption | refine b_drewN ?_ _ | refine Below.drew ?_ | refine b_ext' ?_ _ | refine b_alloc' ?_ _)))⟩
    first
      | (rw [show ((i / 2 - 1 : Nat) : Int) = (i : Int) / 2 - 1 by omega]; rfl)
      | (rw [show ((i / 2 - 1 : Nat) : Int) = 0 by omega]; rfl)
theorem spB2_le (i : Nat) (h : i < 30) : spB 2 i ≤ 13 := by unfold spB; omega
theorem spBase2_le : ∀ i, i ≤ 30 → spBase 1 2 i ≤ 40000 := by
  intro i hi
  exact Nat.le_trans (spBase_mono 1 2 hi) (by decide)
set_option maxRecDepth 100000 in
theorem bases2 (w : World) : Calls Try.prog 134 #[.agg kdV2] w fun e w' => e = .returned (.agg (ints (nls (basL 1 2 30))).toArray) ∧ ∃ x, w' = ext w x := by
  have HBI := Lib.hid (fun (i : Nat) (hi : i < 100) (W : World) => bits2 i hi W)
  unfold kdV2 at HBI ⊢
  obtain ⟨w1, hw1⟩ : ∃ w1, w1 = w.alloc (.cells #[.int .i64 0, .int .i64 30, .int .i64 1, .int .i64 2] 166) := ⟨_, rfl⟩
  have hz := zero_30
  obtain ⟨Z, hZ⟩ : ∃ Z, Z = z30 := ⟨_, rfl⟩
  rw [← hZ] at hz
  have hk := own_lit w w.heap.size #[Value.int .i64 0, .int .i64 30, .int .i64 1, .int .i64 2] 166 (by simp) (Nat.le_refl _)
  rw [← hw1] at hk
  have hs1 : w1.heap.size = w.heap.size + 1 := by rw [hw1]; simp
  have hb1 := box30 w1 Z hZ
  have hb2 := box30 (w1.alloc (.cells Z 180)) Z hZ
  rw [show (w1.alloc (.cells Z 180)).heap.size = w.heap.size + 2 by simp [hs1]] at hb2
  rw [hs1] at hb1
  rw [← basL_zero 1 2] at hb2
  obtain ⟨O, hO⟩ : ∃ O : List Int, O = nls (List.replicate 30 0) := ⟨_, rfl⟩
  rw [← hO] at hb1
  have HB1 := Lib.hid (hb1.up (below_alloc _ (.cells Z 180)))
  have HB2 := Lib.hid hb2
  have HK := Lib.hid ((hk.up (below_alloc w1 (.cells Z 180))).up (below_alloc _ (.cells Z 180)))
  have HBL : Hid (Below w.heap.size w ((w1.alloc (.cells Z 180)).alloc (.cells Z 180))) := Lib.hid (by rw [hw1]; exact (by repeat (first | exact Below.refl _ _ | assumption | refine b_drewN ?_ _ | refine Below.drew ?_ | refine b_ext' ?_ _ | refine b_alloc' ?_ _)))
  have HW1 := Lib.hid hw1
  have HS1 := Lib.hid hs1
  clear hw1 hZ hb1 hb2 hk hO hs1
  go_enter Try.func134, Try.ntmps134
  go_wp2
  rw [← HW1.out]
  generalize (w1.alloc (.cells Z 180)).alloc (.cells Z 180) = w3 at *
  go_loopg [4, 10] (30 + 1) (fun gk nv iv wr => ∃ k : Nat, nv = .int .i64 (spBase 1 2 k : Nat) ∧ iv = .int .i64 k ∧ k ≤ 30 ∧ BoxA wr 180 30 (w.heap.size + 2) (nls (basL 1 2 k)) ∧ BoxA wr 180 30 (w.heap.size + 1) O ∧ Own wr w.heap.size 166 (.slice (some ⟨w.heap.size, 0, none⟩) 4 4) [.int .i64 0, .int .i64 30, .int .i64 1, .int .i64 2] ∧ Below w.heap.size w wr ∧ gk = 30 + 1 - k)
  case atStart => exact ⟨0, rfl, rfl, Nat.zero_le _, HB2.out, HB1.out, HK.out, HBL.out, rfl⟩
  case round =>
    clear HB2 HB1 HK HBL
    obtain ⟨k, rfl, rfl, hk, hb2, hb1, hkk, hbel, rfl⟩ := hrel
    have HB2 := Lib.hid hb2
    have HB1 := Lib.hid hb1
    have HK := Lib.hid hkk
    have HBL := Lib.hid hbel
    have hsz := hbel.size
    have hl2 := hb2.lt
    by_cases hlt : k < 30
    · have hlti : (k : Int) < 30 := by omega
      have hc := hb2.cell (c := k) (by omega)
      rw [nls_getD] at hc
      have hf := hb2.free k
      have hst := hb2.set k (spBase 1 2 k : Nat)
      rw [nls_set, basL_set] at hst
      have HST := Lib.hid hst
      have hbs := spBase2_le k (by omega)
      have hb13 := spB2_le k (by omega)
      have hnx := spBase_step 1 2 k
      have HNX := Lib.hid hnx
      clear hb2 hb1 hkk hbel hst hnx
      obtain ⟨A, hgA, hsA, hA⟩ := (HK.out.keep HST.out.2 (.inr (by simp [Value.ownBlock]))).whole
      have hA' : A = #[.int .i64 0, .int .i64 30, .int .i64 1, .int .i64 2] := by rw [← Array.toArray_toList (xs := A), hA]
      subst hA'
      clear hA hsA
      generalize (basL 1 2 k).getD k 0 = z at *
      have HBK := Lib.hid (fun W => HBI.out k (by omega) W)
      have HN1 : Hid (((spBase 1 2 (k + 1) : Nat) : Int) = ((spBase 1 2 k : Nat) : Int) + 2 ^ (spB 2 k)) := Lib.hid (by rw [HNX.out]; norm_cast)
      have hp := Nat.pow_le_pow_right (n := 2) (by decide) hb13
      have hpi : (2 : Int) ^ (spB 2 k) ≤ 8192 := by
        have h : ((2 ^ spB 2 k : Nat) : Int) ≤ 8192 := by omega
        simpa using h
      have hpi0 : (0 : Int) ≤ (2 : Int) ^ (spB 2 k) := Int.pow_nonneg (by decide)
      generalize spBase 1 2 k = q at *
      generalize spB 2 k = b at *
      go_wp2_with (first | (refine load_box rfl 166 4 _ rfl w.heap.size rfl #[.int .i64 0, .int .i64 30, .int .i64 1, .int .i64 2] rfl hgA _ Try.underlying166 rfl (by kernel_rfl) ?_) | (go_at_call 135; (with_reducible refine (HBK.out _).mono ?_); rintro e w4 ⟨rfl, x4, rfl⟩))
      go_roundg (30 + 1 - (k + 1))
      case measure => omega
      case rel => exact ⟨k + 1, by rw [HN1.out], by go_num, by omega, HST.out.1.up (ext_below _ x4), (HB1.out.keep HST.out.2 (by simp)).up (ext_below _ x4), (HK.out.keep HST.out.2 (.inr (by simp [Value.ownBlock]))).up (ext_below _ x4), (HBL.out.grown HST.out.2 hsz (fun q hq => by cases hq; omega)).trans ((ext_below _ x4).mono (Nat.le_trans hsz HST.out.2.size)), rfl⟩
    · obtain rfl : k = 30 := by omega
      obtain ⟨A, hgA, hsA, hA⟩ := hb2.open
      have HA := Lib.hid (congrArg List.toArray hA)
      clear hb2 hb1 hkk hbel HB2 HK hA hlt
      go_wp2_with (first | (refine load_box rfl 180 30 _ rfl (w.heap.size + 2) rfl A hsA hgA _ Try.underlying180 rfl (by kernel_rfl) ?_) | (refine store_box rfl 180 30 _ _ rfl (w.heap.size + 1) rfl O (nls (basL 1 2 30)) (congrArg Value.agg HA.out) (by rw [nls_length, basL_len]) (by kernel_rfl) HB1.out ?_; intro w4 hB4 hg4; have HB4 := Lib.hid hB4; have HG4 := Lib.hid hg4; clear hB4 hg4))
      refine ret_cell rfl rfl rfl (HB4.out.load _ Try.underlying180 rfl (by kernel_rfl)) ?_
      exact ⟨rfl, ex_ext (HBL.out.grown HG4.out hsz (fun q hq => by cases hq; omega))⟩
set_option maxRecDepth 100000 in
theorem symP2 (n : Nat) (hn : 1 ≤ n) (hn2 : n ≤ 40000) (w : World) : Calls Try.prog 119 #[.agg kdV2, .int .i64 n] w fun e w' => e = .returned (.tuple #[.int .i64 ((symOf 0 1 2 n 29).s : Nat), .int .i64 ((symOf 0 1 2 n 29).b : Nat), .int .i64 ((symOf 0 1 2 n 29).v : Nat)]) ∧ ∃ x, w' = ext w x := by
  have HBI := Lib.hid (fun (i : Nat) (hi : i < 100) (W : World) => bits2 i hi W)
  have HBA := Lib.hid (fun (W : World) => bases2 W)
  obtain ⟨s3, hs3⟩ : ∃ s3, s3 = symOf 0 1 2 n 29 := ⟨_, rfl⟩
  rw [← hs3]
  have HS3 := Lib.hid hs3
  clear hs3
  unfold kdV2 at HBI HBA ⊢
  obtain ⟨cl, hcl⟩ : ∃ cl, cl = nls (basL 1 2 30) := ⟨_, rfl⟩
  rw [← hcl] at HBA
  have HCL : Hid (∀ i, i < 30 → cl.getD i 0 = (spBase 1 2 i : Nat)) := Lib.hid (fun i hi => by rw [hcl, nls_getD, basL_getD _ _ _ _ (by omega), if_pos hi])
  have hll : cl.length = 30 := by rw [hcl, nls_length, basL_len]
  clear hcl
  have hz := zero_30
  obtain ⟨Z, hZ⟩ : ∃ Z, Z = z30 := ⟨_, rfl⟩
  rw [← hZ] at hz
  have HB30 := Lib.hid (fun W => box30 W Z hZ)
  clear hZ
  obtain ⟨w1, hw1⟩ : ∃ w1, w1 = w.alloc (.cells #[.int .i64 0, .int .i64 30, .int .i64 1, .int .i64 2] 166) := ⟨_, rfl⟩
  have hk := own_lit w w.heap.size #[Value.int .i64 0, .int .i64 30, .int .i64 1, .int .i64 2] 166 (by simp) (Nat.le_refl _)
  rw [← hw1] at hk
  have HK := Lib.hid hk
  have HW1 := Lib.hid hw1
  have hb1 : Below w.heap.size w w1 := by rw [hw1]; exact below_alloc _ _
  have HB1 := Lib.hid hb1
  obtain ⟨A, hgA, hsA, hA⟩ := hk.whole
  have hA' : A = #[.int .i64 0, .int .i64 30, .int .i64 1, .int .i64 2] := by rw [← Array.toArray_toList (xs := A), hA]
  subst hA'
  rw [hw1] at hgA
  clear hA hsA hk hb1 hw1
  go_enter Try.func119, Try.ntmps119
  go_wp2_with (first | (refine load_box rfl 166 4 _ rfl w.heap.size rfl #[.int .i64 0, .int .i64 30, .int .i64 1, .int .i64 2] rfl hgA _ Try.underlying166 rfl (by kernel_rfl) ?_) | (go_at_call 134; rw [← HW1.out]; (with_reducible refine (HBA.out _).mono ?_); rintro e w2 ⟨rfl, x2, rfl⟩; have HX2 := Lib.hid (ext_below w1 x2); generalize ext w1 x2 = w2 at *; have HB2 := Lib.hid (HB30.out w2); have HK2 := Lib.hid ((HK.out.up HX2.out).up (below_alloc w2 (.cells Z 180))); clear HB30 HK) | (refine store_box rfl 180 30 _ _ rfl w2.heap.size rfl _ cl rfl hll (by kernel_rfl) HB2.out ?_; intro w4 hB4 hg4; have HB4 := Lib.hid hB4; have HK4 := Lib.hid (HK2.out.keep hg4 (.inr (by intro e; have e2 : some w.heap.size = some w2.heap.size := e; injection e2 with e2; have h1 := HX2.out.size; have h2 := (HK2.out.blk).1; have h3 := HB1.out.size; rw [HW1.out] at h1; simp at h1; omega))); have HL4 : Hid (Below w.heap.size w w4) := Lib.hid (((HB1.out.trans (HX2.out.mono HB1.out.size)).alloc (Nat.le_trans HB1.out.size HX2.out.size) _).grown hg4 (Nat.le_trans (Nat.le_trans HB1.out.size HX2.out.size) (below_alloc _ _).size) (fun q hq => by cases hq; exact Nat.le_trans HB1.out.size HX2.out.size)); have c41 : w4.cell? ⟨w.heap.size, 1, none⟩ = some (.int .i64 30) := HK4.out.cell (by simp); have b41 := HK4.out.blk.2; clear hB4 hg4 HB2 HK2))
  have hg4 := HB4.out.lt
  have hb0 : ∀ i, i < 30 → w4.cell? ⟨w2.heap.size, i, none⟩ = some (.int .i64 (spBase 1 2 i : Nat)) := fun i hi => by rw [HB4.out.cell (by omega), HCL.out i hi]
  have HC0 := Lib.hid hb0
  obtain ⟨A4, hgA4, hsA4, hA4⟩ := HK4.out.whole
  have hA4' : A4 = #[.int .i64 0, .int .i64 30, .int .i64 1, .int .i64 2] := by rw [← Array.toArray_toList (xs := A4), hA4]
  subst hA4'
  have c40 : w4.cell? ⟨w.heap.size, 0, none⟩ = some (.int .i64 0) := HK4.out.cell (by simp)
  generalize w2.heap.size = q2 at *
  clear hb0 hA4 hsA4 HCL HBA HB4 HK4 c41 hgA
  have hgk : ∀ w', (∃ x, w' = ext w4 x) → w'.heap[w.heap.size]? = some (.cells #[.int .i64 0, .int .i64 30, .int .i64 1, .int .i64 2] 166 (0, 0)) := fun w' ⟨x, hx⟩ => by rw [hx, heap_ext w4 x _ b41]; exact hgA4
  have HGK := Lib.hid hgk
  clear hgk
  go_loopg [8] 29 (fun gk iv wr => ∃ k : Nat, iv = .int .i64 k ∧ k ≤ 29 ∧ wr = w4 ∧ Hid (spIdx 1 2 n 29 = spIdx 1 2 n k) ∧ gk = k)
  case atStart => exact ⟨29, rfl, Nat.le_refl _, rfl, Lib.hid rfl, rfl⟩
  case round =>
    obtain ⟨k, rfl, hk, rfl, HX, rfl⟩ := hrel
    have hck := HC0.out gk (by omega)
    by_cases h : spBase 1 2 gk ≤ n
    · have hd : decide ((spBase 1 2 gk : Nat) > (n : Int)) = false := by rw [decide_eq_false_iff_not]; omega
      have HE : Hid (s3.s = 0 + gk ∧ s3.b = spB 2 gk ∧ s3.v = n - spBase 1 2 gk) := Lib.hid (by
        have e : spIdx 1 2 n 29 = gk := by rw [HX.out]; exact spIdx_here h
        rw [HS3.out]
        unfold symOf
        rw [e]
        exact ⟨rfl, rfl, rfl⟩)
      have hv : ((n - spBase 1 2 gk : Nat) : Int) = (n : Int) - (spBase 1 2 gk : Nat) := by omega
      have HV := Lib.hid hv
      have HBK := Lib.hid (fun W => HBI.out gk (by omega) W)
      clear hv HX HC0 HS3
      obtain ⟨ss, sb, sv⟩ := s3
      simp only at HE
      obtain ⟨b, hb⟩ : ∃ b, b = spB 2 gk := ⟨_, rfl⟩
      rw [← hb] at HBK HE
      clear hb
      generalize spBase 1 2 gk = q at *
      generalize hvv : n - q = vv at *
      clear hvv
      go_wp2
      refine wp_region_ext (by kernel_rfl) (by kernel_rfl) ?_
      repeat (first | (go_big_quiet_want; refine quiet_load_box 166 4 _ rfl w.heap.size rfl #[.int .i64 0, .int .i64 30, .int .i64 1, .int .i64 2] rfl HGK.out _ Try.underlying166 rfl (by kernel_rfl) ?_; go_simp; go_big_quiet_on) | go_big_quiet_step ((go_at_call 135; exact calls_in (HBK.out _))))
      refine wpQuiet_nil ?_
      rintro w' ⟨x2, rfl⟩
      go_wp2
      go_ret3
      obtain ⟨e1, e2, e3⟩ := HE.out
      subst e1 e2 e3
      refine ⟨?_, ex_ext (HL4.out.trans ((ext_below _ _).mono HL4.out.size))⟩
      rw [HV.out]
      (try rw [Nat.zero_add])
      rfl
    · have hd : decide ((spBase 1 2 gk : Nat) > (n : Int)) = true := by simp; omega
      obtain ⟨j, rfl⟩ : ∃ j, gk = j + 1 := ⟨gk - 1, by
        rcases Nat.eq_zero_or_pos gk with h0 | h0
        · subst h0; exact absurd hn h
        · omega⟩
      have HX2 : Hid (spIdx 1 2 n 29 = spIdx 1 2 n j) := Lib.hid (by rw [HX.out]; exact spIdx_down (by omega))
      generalize spBase 1 2 (j + 1) = q at *
      go_wp2
      go_roundg j
      case measure => omega
      case rel => exact ⟨j, by go_num, by omega, rfl, HX2, rfl⟩
theorem results_tmp4 {fn : Func} {t u v x : Tmp} (h : fn.results = #[.tmp t, .tmp u, .tmp v, .tmp x]) (tmps : Array Value) (P : Program) (w : World) :
    (results fn tmps).run P w = .ok (.tuple #[tmps.getD t undef, tmps.getD u undef, tmps.getD v undef, tmps.getD x undef]) w := by
  simp [results, h]
/-- a symbol, its further bits, their number, what is wrong -/
def symV (y : SymN) : Value := .tuple #[.int .i64 y.s, .int .i64 y.b, .int .i64 y.v, .int .i64 y.e]
theorem ofLenP (n : Int) (hn1 : -9223372036854775808 ≤ n) (hn2 : n ≤ 9223372036854775807) (w : World) : Calls Try.prog 96 #[.int .i64 n] w fun e w' => e = .returned (symV (lenSy n)) ∧ ∃ x, w' = ext w x := by
  have HK := Lib.hid kd4
  obtain ⟨y, hy⟩ : ∃ y, y = lenSy n := ⟨_, rfl⟩
  rw [← hy]
  have HY := Lib.hid hy
  clear hy
  unfold lenSy at HY
  by_cases h : n < 3 ∨ 258 < n
  · have hor : decide (n < 3) = true ∨ (decide (n < 3) = false ∧ decide (n > 258) = true) := by
      by_cases h1 : n < 3
      · exact .inl (by simpa using h1)
      · exact .inr ⟨by simpa using h1, by rw [decide_eq_true_iff]; omega⟩
    rw [if_pos h] at HY
    clear h
    rcases hor with h | ⟨h1, h2⟩ <;>
    · go_enter Try.func96, Try.ntmps96
      go_wp2
      refine bodyPost_ret (results_tmp4 rfl _ _ _) rfl ?_
      exact ⟨by rw [HY.out]; rfl, (ex_ext (by repeat (first | exact Below.refl _ _ | assumption | refine b_drewN ?_ _ | refine Below.drew ?_ | refine b_ext' ?_ _ | refine b_alloc' ?_ _)))⟩
  · rw [if_neg h] at HY
    have h1 : decide (n < 3) = false := by rw [decide_eq_false_iff_not]; omega
    have h2 : decide (n > 258) = false := by rw [decide_eq_false_iff_not]; omega
    by_cases h3 : n = 258
    · rw [if_pos h3] at HY
      subst h3
      clear h h1 h2
      go_enter Try.func96, Try.ntmps96
      go_wp2
      refine bodyPost_ret (results_tmp4 rfl _ _ _) rfl ?_
      exact ⟨by rw [HY.out]; rfl, (ex_ext (by repeat (first | exact Below.refl _ _ | assumption | refine b_drewN ?_ _ | refine Below.drew ?_ | refine b_ext' ?_ _ | refine b_alloc' ?_ _)))⟩
    · rw [if_neg h3] at HY
      have h3i : (n == 258) = false := by simpa using h3
      obtain ⟨m, rfl⟩ : ∃ m : Nat, n = m := ⟨n.toNat, by omega⟩
      rw [Int.toNat_natCast] at HY
      have HSY := Lib.hid (fun W => symP4 m (by omega) (by omega) W)
      rw [← HY.out] at HSY
      have HE : Hid (y.e = 0) := Lib.hid (by rw [HY.out]; rfl)
      clear h h3 HY
      go_enter Try.func96, Try.ntmps96
      go_wp2_with (first | (go_at_call 118; (with_reducible refine (HK.out _).mono ?_); rintro e w2 ⟨rfl, x2, rfl⟩) | (go_at_call 119; (with_reducible refine (HSY.out _).mono ?_); rintro e w3 ⟨rfl, x3, rfl⟩))
      refine bodyPost_ret (results_tmp4 rfl _ _ _) rfl ?_
      refine ⟨?_, (ex_ext (by repeat (first | exact Below.refl _ _ | assumption | refine b_drewN ?_ _ | refine Below.drew ?_ | refine b_ext' ?_ _ | refine b_alloc' ?_ _)))⟩
      unfold symV
      rw [HE.out]
      rfl
theorem ofDstP (n : Int) (hn1 : -9223372036854775808 ≤ n) (hn2 : n ≤ 9223372036854775807) (w : World) : Calls Try.prog 97 #[.int .i64 n] w fun e w' => e = .returned (symV (dstSy n)) ∧ ∃ x, w' = ext w x := by
  have HK := Lib.hid kd2
  obtain ⟨y, hy⟩ : ∃ y, y = dstSy n := ⟨_, rfl⟩
  rw [← hy]
  have HY := Lib.hid hy
  clear hy
  unfold dstSy at HY
  by_cases h : n < 1 ∨ 32768 < n
  · have hor : decide (n < 1) = true ∨ (decide (n < 1) = false ∧ decide (n > 32768) = true) := by
      by_cases h1 : n < 1
      · exact .inl (by simpa using h1)
      · exact .inr ⟨by simpa using h1, by rw [decide_eq_true_iff]; omega⟩
    rw [if_pos h] at HY
    clear h
    rcases hor with h | ⟨h1, h2⟩ <;>
    · go_enter Try.func97, Try.ntmps97
      go_wp2
      refine bodyPost_ret (results_tmp4 rfl _ _ _) rfl ?_
      exact ⟨by rw [HY.out]; rfl, (ex_ext (by repeat (first | exact Below.refl _ _ | assumption | refine b_drewN ?_ _ | refine Below.drew ?_ | refine b_ext' ?_ _ | refine b_alloc' ?_ _)))⟩
  · rw [if_neg h] at HY
    have h1 : decide (n < 1) = false := by rw [decide_eq_false_iff_not]; omega
    have h2 : decide (n > 32768) = false := by rw [decide_eq_false_iff_not]; omega
    obtain ⟨m, rfl⟩ : ∃ m : Nat, n = m := ⟨n.toNat, by omega⟩
    rw [Int.toNat_natCast] at HY
    have HSY := Lib.hid (fun W => symP2 m (by omega) (by omega) W)
    rw [← HY.out] at HSY
    have HE : Hid (y.e = 0) := Lib.hid (by rw [HY.out]; rfl)
    clear h HY
    go_enter Try.func97, Try.ntmps97
    go_wp2_with (first | (go_at_call 120; (with_reducible refine (HK.out _).mono ?_); rintro e w2 ⟨rfl, x2, rfl⟩) | (go_at_call 119; (with_reducible refine (HSY.out _).mono ?_); rintro e w3 ⟨rfl, x3, rfl⟩))
    refine bodyPost_ret (results_tmp4 rfl _ _ _) rfl ?_
    refine ⟨?_, (ex_ext (by repeat (first | exact Below.refl _ _ | assumption | refine b_drewN ?_ _ | refine Below.drew ?_ | refine b_ext' ?_ _ | refine b_alloc' ?_ _)))⟩
    unfold symV
    rw [HE.out]
    rfl
end Go.Cm

/- The walks of what finds the best copy, and of the ops of a text. Conditions: the places lie in the text. -/
namespace Go.Cm
open Go.RowKit Go.Proofs

theorem op_one (l : Nat) (n d : Int) : ∀ u ∈ (#[Value.int .u8 l, .int .i64 n, .int .i64 d] : Array Value).toList, u.oneCell' = true := by
  intro u hu
  simp only [List.mem_cons, List.not_mem_nil, or_false] at hu
  rcases hu with rfl | rfl | rfl <;> rfl
def opV (o : OpN) : List Value := [.int .u8 o.lit, .int .i64 o.len, .int .i64 o.dist]
theorem bestN_top {t : Byts} {a k : Nat} (h : 258 ≤ (bestN t a k).1) : ∀ j, bestN t a (k + j) = bestN t a k
  | 0 => rfl
  | j + 1 => by
    have ih := bestN_top h j
    rw [← Nat.add_assoc, bestN_succ, ih]
    unfold bestS
    have := runN_le t a (k + j + 1)
    rw [if_neg (by omega)]
/-- the op that the program holds after so many distances -/
def opK (t : Byts) (a k : Nat) : OpN := if 3 ≤ (bestN t a k).1 then ⟨0, (bestN t a k).1, (bestN t a k).2⟩ else ⟨(t.getD a 0).toNat, 0, 0⟩
def lenK (t : Byts) (a k : Nat) : Nat := if 3 ≤ (bestN t a k).1 then (bestN t a k).1 else 2
theorem opK_end {t : Byts} {a k : Nat} (h : k = min 256 a ∨ (258 ≤ lenK t a k ∧ k ≤ min 256 a)) : opK t a k = opAt t a := by
  have e : bestN t a (min 256 a) = bestN t a k := by
    rcases h with rfl | ⟨h, h2⟩
    · rfl
    · obtain ⟨j, hj⟩ : ∃ j, min 256 a = k + j := ⟨min 256 a - k, by omega⟩
      rw [hj]
      refine bestN_top ?_ j
      unfold lenK at h
      split at h <;> omega
  unfold opK opAt
  rw [e]
theorem opK_step {t : Byts} {a k r : Nat} (hr : r = runN' t a (k + 1)) : (lenK t a k < r → lenK t a (k + 1) = r ∧ opK t a (k + 1) = ⟨0, r, (k + 1 : Nat)⟩) ∧ (¬ lenK t a k < r → lenK t a (k + 1) = lenK t a k ∧ opK t a (k + 1) = opK t a k) := by
  unfold lenK opK
  rw [bestN_succ]
  unfold bestS
  rw [← hr]
  generalize bestN t a k = y
  obtain ⟨y1, y2⟩ := y
  constructor
  · intro h
    by_cases h3 : 3 ≤ y1
    · rw [if_pos h3] at h
      rw [if_pos h]
      simp only
      rw [if_pos (by omega), if_pos (by omega)]
      exact ⟨rfl, rfl⟩
    · rw [if_neg h3] at h
      rw [if_pos (show y1 < r by omega)]
      simp only
      rw [if_pos (by omega), if_pos (by omega)]
      exact ⟨rfl, rfl⟩
  · intro h
    by_cases h3 : 3 ≤ y1
    · rw [if_pos h3] at h
      rw [if_neg h]
      exact ⟨rfl, rfl⟩
    · rw [if_neg h3] at h
      by_cases h4 : y1 < r
      · rw [if_pos h4]
        simp only
        rw [if_neg (by omega), if_neg h3, if_neg (by omega), if_neg h3]
        exact ⟨rfl, rfl⟩
      · rw [if_neg h4]
        exact ⟨rfl, rfl⟩
set_option maxRecDepth 100000 in
theorem bestPk (s : ByteArray) (a : Nat) (hs : s.size ≤ 4294967296) (ha : a < s.size) (w : World) :
    Calls Try.prog 54 #[.string s, .int .i64 a] w fun e w' => e = .returned (.agg (opV (opAt (bys s) a)).toArray) ∧ ∃ x, w' = ext w x := by
  have HRUN := Lib.hid (fun (d : Nat) (W : World) (h1 : 1 ≤ d) (h2 : d ≤ a) => runPk s a d hs (by omega) h1 h2 W)
  have hi1 := fun W => index_by (P := Try.prog) 9 Try.underlying9 ha W
  have HS := Lib.hid (fun k r hr => opK_step (t := bys s) (a := a) (k := k) (r := r) hr)
  have he0 := fun k h => opK_end (t := bys s) (a := a) (k := k) h
  obtain ⟨oz, hoz⟩ : ∃ oz, oz = opAt (bys s) a := ⟨_, rfl⟩
  rw [← hoz] at he0 ⊢
  have HE := Lib.hid he0
  clear he0 hoz
  have H0 : Hid (lenK (bys s) a 0 = 2 ∧ opK (bys s) a 0 = ⟨((bys s).getD a 0).toNat, 0, 0⟩) := Lib.hid ⟨rfl, rfl⟩
  have hby : ((bys s).getD a 0).toNat < 256 := UInt8.toNat_lt _
  generalize ((bys s).getD a 0).toNat = y at *
  generalize bys s = t at *
  have hmin : min (a : Int) 256 = ((min 256 a : Nat) : Int) := by omega
  have hm1 : min 256 a ≤ 256 := by omega
  have hm2 : min 256 a ≤ a := by omega
  generalize min 256 a = m at *
  have HO0 : Hid (Own ((w.alloc (.cells #[.int .u8 0, .int .i64 0, .int .i64 0] 75)).alloc (.cells #[.int .u8 y, .int .i64 0, .int .i64 0] 75)) w.heap.size 75 (.slice (some ⟨w.heap.size, 0, none⟩) 3 3) [.int .u8 0, .int .i64 0, .int .i64 0]) := Lib.hid ((own_lit w w.heap.size #[.int .u8 0, .int .i64 0, .int .i64 0] 75 (by simp) (Nat.le_refl _)).up (below_alloc _ _))
  have HO1 : Hid (Own ((w.alloc (.cells #[.int .u8 0, .int .i64 0, .int .i64 0] 75)).alloc (.cells #[.int .u8 y, .int .i64 0, .int .i64 0] 75)) w.heap.size 75 (.slice (some ⟨w.heap.size + 1, 0, none⟩) 3 3) [.int .u8 y, .int .i64 0, .int .i64 0]) := Lib.hid (by
    have h := own_lit (w.alloc (.cells #[.int .u8 0, .int .i64 0, .int .i64 0] 75)) w.heap.size #[.int .u8 y, .int .i64 0, .int .i64 0] 75 (by simp) (by simp)
    simpa using h)
  have HBL : Hid (Below w.heap.size w ((w.alloc (.cells #[.int .u8 0, .int .i64 0, .int .i64 0] 75)).alloc (.cells #[.int .u8 y, .int .i64 0, .int .i64 0] 75))) := Lib.hid (by repeat (first | exact Below.refl _ _ | assumption | refine b_drewN ?_ _ | refine Below.drew ?_ | refine b_ext' ?_ _ | refine b_alloc' ?_ _))
  go_enter Try.func54, Try.ntmps54
  go_wp2
  go_loopg [6, 7] (m + 1) (fun gk nv dv wr => ∃ k : Nat, nv = .int .i64 (lenK t a k : Nat) ∧ dv = .int .i64 ((k : Int) + 1) ∧ k ≤ m ∧ Own wr w.heap.size 75 (.slice (some ⟨w.heap.size, 0, none⟩) 3 3) [.int .u8 0, .int .i64 0, .int .i64 0] ∧ Own wr w.heap.size 75 (.slice (some ⟨w.heap.size + 1, 0, none⟩) 3 3) (opV (opK t a k)) ∧ Below w.heap.size w wr ∧ gk = m + 1 - k)
  case atStart => exact ⟨0, by rw [H0.out.1]; rfl, rfl, Nat.zero_le _, HO0.out, by rw [H0.out.2]; exact HO1.out, HBL.out, rfl⟩
  case round =>
    clear HO0 HO1 HBL H0
    obtain ⟨k, rfl, rfl, hk, ho0, ho1, hbel, rfl⟩ := hrel
    have HO0 := Lib.hid ho0
    have HO1 := Lib.hid ho1
    have HBL := Lib.hid hbel
    have HEK := Lib.hid (HE.out k)
    have HSK := Lib.hid (fun r hr => HS.out k r hr)
    have hsz := hbel.size
    obtain ⟨A, hgA, hsA, hA⟩ := ho1.whole
    have hA' : A = #[.int .u8 (opK t a k).lit, .int .i64 (opK t a k).len, .int .i64 (opK t a k).dist] := by rw [← Array.toArray_toList (xs := A), hA]; rfl
    subst hA'
    clear ho0 ho1 hbel hA hsA HE HS
    obtain ⟨n, hn⟩ : ∃ n, n = lenK t a k := ⟨_, rfl⟩
    obtain ⟨ok, hok⟩ : ∃ ok, ok = opK t a k := ⟨_, rfl⟩
    rw [← hn, ← hok] at HEK
    rw [← hn, ← hok] at HSK
    rw [← hok] at hgA HO1
    rw [← hn]
    clear hn hok
    by_cases h1 : k + 1 ≤ m
    · have h1i : decide ((k : Int) + 1 ≤ (m : Int)) = true := by simp; omega
      by_cases h2 : n < 258
      · have h2i : decide ((n : Int) < 258) = true := by simp; omega
        have HRK := Lib.hid (HRUN.out (k + 1) wr (by omega) (by omega))
        rw [show ((k + 1 : Nat) : Int) = (k : Int) + 1 by omega] at HRK
        obtain ⟨r, hr⟩ : ∃ r, r = runN' t a (k + 1) := ⟨_, rfl⟩
        have hs2 := HSK.out r hr
        have hr258 : r ≤ 258 := by rw [hr]; exact runN_le _ _ _
        rw [← hr] at HRK
        clear hr HRUN HEK HSK
        by_cases h3 : n < r
        · have h3i : decide ((r : Int) > (n : Int)) = true := by simp; omega
          have HN := Lib.hid (hs2.1 h3)
          clear hs2
          go_wp2_with (first | (go_at_call 83; (with_reducible refine HRK.out.mono ?_); rintro e w2 ⟨rfl, x2, rfl⟩) | (refine wpList_store_agg rfl 75 _ _ rfl w.heap.size 75 (w.heap.size + 1) 3 3 rfl #[.int .u8 0, .int .i64 r, .int .i64 ((k : Int) + 1)] rfl (by kernel_rfl) _ (HO1.out.up (ext_below wr x2)) (Nat.le_refl 3) (op_one 0 r ((k : Int) + 1)) ?_; intro w3 ho3 hg3; have HO3 := Lib.hid ho3; have HG3 := Lib.hid hg3; clear ho3 hg3))
          all_goals
            go_roundg (m + 1 - (k + 1))
            case measure => omega
            case rel =>
              refine ⟨k + 1, by rw [HN.out.1], by go_num, h1, (HO0.out.up (ext_below wr x2)).keep HG3.out (.inr (by simp [Value.ownBlock])), ?_, (HBL.out.trans ((ext_below wr x2).mono hsz)).grown HG3.out (by have := size_ext wr x2; omega) (fun q hq => by cases hq; omega), rfl⟩
              rw [HN.out.2]
              exact HO3.out
        · have h3i : decide ((r : Int) > (n : Int)) = false := by rw [decide_eq_false_iff_not]; omega
          have HN := Lib.hid (hs2.2 h3)
          clear hs2
          go_wp2_with (go_at_call 83; (with_reducible refine HRK.out.mono ?_); rintro e w2 ⟨rfl, x2, rfl⟩)
          all_goals
            go_roundg (m + 1 - (k + 1))
            case measure => omega
            case rel =>
              refine ⟨k + 1, by rw [HN.out.1], by go_num, h1, HO0.out.up (ext_below wr x2), ?_, HBL.out.trans ((ext_below wr x2).mono hsz), rfl⟩
              rw [HN.out.2]
              exact HO1.out.up (ext_below wr x2)
      · have h2i : decide ((n : Int) < 258) = false := by rw [decide_eq_false_iff_not]; omega
        have HF := Lib.hid (HEK.out (.inr ⟨by omega, hk⟩))
        clear HRUN HEK HSK
        go_wp2_with (first | (refine load_box rfl 75 3 _ rfl (w.heap.size + 1) rfl #[.int .u8 ok.lit, .int .i64 ok.len, .int .i64 ok.dist] rfl hgA _ Try.underlying75 rfl (by kernel_rfl) ?_) | (refine wpList_store_agg rfl 75 _ _ rfl w.heap.size 75 w.heap.size 3 3 rfl #[.int .u8 ok.lit, .int .i64 ok.len, .int .i64 ok.dist] rfl (by kernel_rfl) _ HO0.out (Nat.le_refl 3) (op_one ok.lit ok.len ok.dist) ?_; intro w3 ho3 hg3; have HO3 := Lib.hid ho3; have HG3 := Lib.hid hg3; clear ho3 hg3))
        all_goals
          refine ret_cell rfl rfl rfl (own_load HO3.out _ Try.underlying75 rfl (by kernel_rfl)) ?_
          refine ⟨?_, ex_ext (HBL.out.grown HG3.out hsz (fun q hq => by cases hq; exact Nat.le_refl _))⟩
          rw [← HF.out]
          rfl
    · have h1i : decide ((k : Int) + 1 ≤ (m : Int)) = false := by rw [decide_eq_false_iff_not]; omega
      have HF := Lib.hid (HEK.out (.inl (by omega)))
      clear HRUN HEK HSK
      go_wp2_with (first | (refine load_box rfl 75 3 _ rfl (w.heap.size + 1) rfl #[.int .u8 ok.lit, .int .i64 ok.len, .int .i64 ok.dist] rfl hgA _ Try.underlying75 rfl (by kernel_rfl) ?_) | (refine wpList_store_agg rfl 75 _ _ rfl w.heap.size 75 w.heap.size 3 3 rfl #[.int .u8 ok.lit, .int .i64 ok.len, .int .i64 ok.dist] rfl (by kernel_rfl) _ HO0.out (Nat.le_refl 3) (op_one ok.lit ok.len ok.dist) ?_; intro w3 ho3 hg3; have HO3 := Lib.hid ho3; have HG3 := Lib.hid hg3; clear ho3 hg3))
      all_goals
        refine ret_cell rfl rfl rfl (own_load HO3.out _ Try.underlying75 rfl (by kernel_rfl)) ?_
        refine ⟨?_, ex_ext (HBL.out.grown HG3.out hsz (fun q hq => by cases hq; exact Nat.le_refl _))⟩
        rw [← HF.out]
        rfl
end Go.Cm

/- The walks of the ops of a text. Conditions: none. -/
namespace Go.Cm
open Go.RowKit Go.Proofs

theorem opVs_len (l : List OpN) : ∀ x ∈ l.map opV, x.length = 3 := by
  intro x hx; obtain ⟨o, -, rfl⟩ := List.mem_map.1 hx; rfl
theorem opVs_one (l : List OpN) : ∀ u ∈ (l.map opV).flatten, u.oneCell' = true := by
  intro u hu
  obtain ⟨x, hx, hu⟩ := List.mem_flatten.1 hu
  obtain ⟨o, -, rfl⟩ := List.mem_map.1 hx
  exact op_one o.lit o.len o.dist u hu
theorem opsFr_next {t : Byts} {f a : Nat} (h : a < t.length) (hf : t.length < a + f) : ∃ g, f = g + 1 ∧ opsFr t f a = opAt t a :: opsFr t g (a + stepAt t a) ∧ t.length < a + stepAt t a + g := by
  obtain ⟨g, rfl⟩ : ∃ g, f = g + 1 := ⟨f - 1, by omega⟩
  have := (stepAt_pos t a).1
  exact ⟨g, rfl, if_pos h, by omega⟩
theorem opsFr_stop {t : Byts} {a : Nat} (h : ¬ a < t.length) : ∀ f, opsFr t f a = []
  | 0 => rfl
  | _ + 1 => if_neg h
theorem opAt_len (t : Byts) (a : Nat) : ((opAt t a).len = 0 ∧ stepAt t a = 1) ∨ (3 ≤ stepAt t a ∧ (opAt t a).len = (stepAt t a : Nat)) := by
  unfold opAt stepAt
  by_cases h : 3 ≤ (bestN t a (min 256 a)).1
  · rw [if_pos h, if_pos h]; exact .inr ⟨h, rfl⟩
  · rw [if_neg h, if_neg h]; exact .inl ⟨rfl, rfl⟩
theorem op_box (w2 : World) (y : Nat) (n d : Int) : Own (w2.alloc (.cells #[.int .u8 y, .int .i64 n, .int .i64 d] 75)) w2.heap.size 75 (.slice (some ⟨w2.heap.size, 0, none⟩) 3 3) (opV ⟨y, n, d⟩) :=
  own_lit w2 w2.heap.size #[.int .u8 y, .int .i64 n, .int .i64 d] 75 (by simp) (Nat.le_refl _)
theorem app_op {w2 : World} {B : Nat} {v : Value} {l : List OpN} (h : OwnK 3 w2 B 75 v (l.map opV)) (y : Nat) (n d : Int) :
    OwnK 3 (w2.alloc (.cells #[.int .u8 y, .int .i64 n, .int .i64 d] 75)) B 75 v (l.map opV) ∧ SlK 3 (w2.alloc (.cells #[.int .u8 y, .int .i64 n, .int .i64 d] 75)) (.slice (some ⟨w2.heap.size, 0, none⟩) 1 1) [opV ⟨y, n, d⟩] := by
  have h2 := slK_lit 3 w2 #[.int .u8 y, .int .i64 n, .int .i64 d] 75 [opV ⟨y, n, d⟩] rfl (opVs_len [⟨y, n, d⟩]) (by simp)
  exact ⟨h.up (below_alloc _ _), by simpa using h2⟩
/-- a list of ops of the call's own -/
def RetOps (l : List OpN) (w : World) (e : Ending) (w' : World) : Prop := ∃ v, e = .returned v ∧ OwnK 3 w' w.heap.size 75 v (l.map opV) ∧ Below w.heap.size w w'
set_option maxRecDepth 100000 in
theorem opsPk (s : ByteArray) (hs : s.size ≤ 100000) (w : World) : Calls Try.prog 20 #[.string s] w (RetOps (opsOf (bys s)) w) := by
  have HBE := Lib.hid (fun (a : Nat) (ha : a < s.size) (W : World) => bestPk s a (by omega) ha W)
  have HL := Lib.hid (bys_len s)
  obtain ⟨R, hR⟩ : ∃ R, R = opsOf (bys s) := ⟨_, rfl⟩
  rw [← hR]
  have HR := Lib.hid hR
  clear hR
  generalize bys s = t at *
  go_enter Try.func20, Try.ntmps20
  go_wp2
  go_loopg [3, 4] (s.size + 1) (fun gk lv av wr => ∃ (a f : Nat) (l : List OpN), av = .int .i64 a ∧ a ≤ s.size ∧ Hid (l ++ opsFr t f a = R) ∧ Hid (t.length < a + f) ∧ l.length ≤ a ∧ OwnK 3 wr w.heap.size 75 lv (l.map opV) ∧ Below w.heap.size w wr ∧ gk = s.size + 1 - a)
  case atStart => exact ⟨0, t.length + 1, [], rfl, Nat.zero_le _, Lib.hid (by rw [HR.out]; rfl), Lib.hid (by omega), Nat.le_refl _, OwnK.nil _ _ _ _, Below.refl _ _, rfl⟩
  case round =>
    obtain ⟨a, f, l, rfl, ha, HLR, HF, hla, hown, hbel, rfl⟩ := hrel
    have HO := Lib.hid hown
    have HW := Lib.hid hbel
    have hsz := hbel.size
    clear hown hbel
    by_cases hlt : a < s.size
    · have HB := Lib.hid (HBE.out a hlt wr)
      obtain ⟨g, -, hg1, hg2⟩ := opsFr_next (t := t) (f := f) (a := a) (by rw [HL.out]; exact hlt) HF.out
      have hin := stepAt_in (t := t) (a := a) (by rw [HL.out]; exact hlt)
      rw [HL.out] at hin
      have hstep := opAt_len t a
      have HLR2 : Hid ((l ++ [opAt t a]) ++ opsFr t g (a + stepAt t a) = R) := Lib.hid (by rw [← HLR.out, hg1, List.append_assoc]; rfl)
      have HF2 := Lib.hid hg2
      clear hg1 hg2 HF HLR HBE HR
      generalize opAt t a = o at *
      generalize stepAt t a = st at *
      obtain ⟨y, n, d⟩ := o
      simp only at hstep
      have hHB : Hid (Calls Try.prog 54 #[.string s, .int .i64 a] wr fun e w' => e = .returned (.agg #[.int .u8 y, .int .i64 n, .int .i64 d]) ∧ ∃ x, w' = ext wr x) := HB
      clear HB
      have hmax : (max 1 n : Int) = (st : Nat) := by omega
      have hst1 : 1 ≤ st := by omega
      have HLN : Hid ((l.map opV).length + [opV ⟨y, n, d⟩].length ≤ 1000000000) := Lib.hid (by rw [List.length_map, List.length_singleton]; omega)
      have HAP := Lib.hid (fun (w2 : World) (hb : Below wr.heap.size wr w2) => app_op (w2 := w2.alloc (.cells #[.int .u8 y, .int .i64 n, .int .i64 d] 75)) (((HO.out.up hb)).up (below_alloc _ _)) y n d)
      go_wp2_with (first
        | (go_at_call 54; (with_reducible refine hHB.out.mono ?_); rintro e w2 ⟨rfl, x2, rfl⟩; have HX2 := Lib.hid (ext_below wr x2); generalize ext wr x2 = w2 at *; obtain ⟨ho, hx⟩ := HAP.out w2 HX2.out; rw [show (w2.alloc (.cells #[.int .u8 y, .int .i64 n, .int .i64 d] 75)).heap.size = w2.heap.size + 1 by simp] at hx; have HO2 := Lib.hid ho; have HN2 := Lib.hid hx; have hs2 := HX2.out.size; clear ho hx)
        | (at_builtin; go_loud (refine wpList_appK 3 rfl (.tmp 13) (.tmp 15) 32 rfl w.heap.size 75 (.agg #[.int .u8 0, .int .i64 0, .int .i64 0]) 24 Try.underlying32 (by kernel_rfl) rfl (by decide) (by decide) u3 _ rfl HO2.out _ _ rfl HN2.out (opVs_len [⟨y, n, d⟩]) (opVs_one [⟨y, n, d⟩]) HLN.out (Nat.le_trans (Nat.le_trans (Nat.le_trans hsz hs2) (below_alloc w2 (.cells #[.int .u8 y, .int .i64 n, .int .i64 d] 75)).size) (below_alloc _ _).size) ?_); intro v' w5 hown1 hg1 hk1; have HO1 := Lib.hid hown1; have HG1 := Lib.hid hg1; have h5 := ((op_box w2 y n d).up (below_alloc _ _)).keep hg1 (.inr (by intro e; have e2 : some w2.heap.size = u3.ownBlock := e; have := HO.out.lt _ e2.symm; omega)); have c5 : w5.cell? ⟨w2.heap.size, 1, none⟩ = some (.int .i64 n) := h5.cell (by simp [opV]); have b5 := h5.blk.2; clear hown1 hg1 hk1 h5))
      all_goals
        have HB5 : Hid (Below w.heap.size w w5) := Lib.hid ((((HW.out.trans (HX2.out.mono hsz)).alloc (by omega) _).alloc (Nat.le_trans (Nat.le_trans hsz hs2) (below_alloc w2 _).size) _).grown HG1.out (Nat.le_trans (Nat.le_trans (Nat.le_trans hsz hs2) (below_alloc w2 (.cells #[.int .u8 y, .int .i64 n, .int .i64 d] 75)).size) (below_alloc _ _).size) (fun k hk => (HO.out.lt k hk).1))
        go_roundg (s.size + 1 - (a + st))
        case measure => omega
        case rel => exact ⟨a + st, g, l ++ [⟨y, n, d⟩], by (first | rw [show ((a + st : Nat) : Int) = (a : Int) + n by omega] | rw [show ((a + st : Nat) : Int) = (a : Int) + 1 by omega]), hin, HLR2, HF2, by rw [List.length_append, List.length_singleton]; omega, by rw [List.map_append]; exact HO1.out, HB5.out, rfl⟩
    · have hlt2 : ¬ (a : Int) < (s.size : Int) := by omega
      go_wp2
      go_ret
      refine ⟨u3, rfl, ?_, HW.out⟩
      rw [← HLR.out, opsFr_stop (by rw [HL.out]; exact hlt), List.append_nil]
      exact HO.out
end Go.Cm

/- The walks of the program's coder: a symbol with its further bits; an op. Conditions: the coder is there, the lengths lie beside it. -/
namespace Go.Cm
open Go.RowKit Go.Proofs

/-- a symbol, and further bits, till one has no code -/
def cPut (l : List Int) (sym : Int) (bits v : Nat) (x : Nat × Nat × Nat) : Nat × Nat × Nat :=
  if x.1 ≠ 0 then x else if errW l sym ≠ 0 then (errW l sym, x.2) else (0, (numW l sym x.2).1 + v * 2 ^ (numW l sym x.2).2, (numW l sym x.2).2 + bits)
def cOp (l1 l2 : List Int) (o : OpN) (x : Nat × Nat × Nat) : Nat × Nat × Nat :=
  if o.len = 0 then cPut l1 o.lit 0 0 x else cPut l2 (dstSy o.dist).s (dstSy o.dist).b (dstSy o.dist).v (cPut l1 (lenSy o.len).s (lenSy o.len).b (lenSy o.len).v x)
def cOps (l1 l2 : List Int) (ops : List OpN) (x : Nat × Nat × Nat) : Nat × Nat × Nat := ops.foldl (fun x o => cOp l1 l2 o x) x
def cAll (l1 l2 : List Int) (ops : List OpN) (st : Nat × Nat) : Nat × Nat × Nat := cPut l1 256 0 0 (cOps l1 l2 ops (0, st))
theorem cPut_stuck {l : List Int} {sym : Int} {bits v : Nat} {x : Nat × Nat × Nat} (h : x.1 ≠ 0) : cPut l sym bits v x = x := if_pos h
theorem cOp_stuck {l1 l2 : List Int} {o : OpN} {x : Nat × Nat × Nat} (h : x.1 ≠ 0) : cOp l1 l2 o x = x := by
  unfold cOp; rw [cPut_stuck h, cPut_stuck h, cPut_stuck h]; split <;> rfl
theorem cOps_stuck {l1 l2 : List Int} {x : Nat × Nat × Nat} (h : x.1 ≠ 0) : ∀ ops, cOps l1 l2 ops x = x
  | [] => rfl
  | o :: ops => by unfold cOps; rw [List.foldl_cons, cOp_stuck h]; exact cOps_stuck h ops
theorem cOps_snoc {l1 l2 : List Int} {x : Nat × Nat × Nat} (ops : List OpN) (o : OpN) : cOps l1 l2 (ops ++ [o]) x = cOp l1 l2 o (cOps l1 l2 ops x) := by unfold cOps; rw [List.foldl_append]; rfl
theorem numW_len (l : List Int) (sym : Int) (st : Nat × Nat) : st.2 ≤ (numW l sym st).2 ∧ (numW l sym st).2 ≤ st.2 + 15 := by
  unfold numW
  by_cases h : errW l sym = 0
  · rw [if_pos h]
    refine ⟨Nat.le_add_right _ _, Nat.add_le_add_left ?_ _⟩
    have h0 : errI l = 0 := by
      apply Classical.byContradiction; intro hn
      rw [errW_codes hn] at h; exact hn h
    obtain ⟨L, rfl, -, h15, -⟩ := errI_zero h0
    rw [nls_getD, Int.toNat_natCast]
    rcases Nat.lt_or_ge sym.toNat L.length with h1 | h1
    · exact h15 _ (getD_mem L _ 0 h1)
    · rw [List.getD_eq_getElem?_getD, List.getElem?_eq_none h1]; exact Nat.zero_le _
  · rw [if_neg h]; exact ⟨Nat.le_refl _, Nat.le_add_right _ _⟩
theorem cPut_len (l : List Int) (sym : Int) (bits v : Nat) (x : Nat × Nat × Nat) : x.2.2 ≤ (cPut l sym bits v x).2.2 ∧ (cPut l sym bits v x).2.2 ≤ x.2.2 + 15 + bits := by
  have := numW_len l sym x.2
  unfold cPut
  split
  · exact ⟨Nat.le_refl _, by omega⟩
  · split
    · exact ⟨Nat.le_refl _, by simp only; omega⟩
    · simp only; omega
theorem lenSy_b (n : Int) : (lenSy n).b ≤ 5 ∧ (lenSy n).v < 2 ^ (lenSy n).b := by
  by_cases h : n < 3 ∨ 258 < n
  · unfold lenSy; rw [if_pos h]; exact ⟨Nat.zero_le _, by decide⟩
  · exact ⟨(lenSy_fits h).2.1, (lenSy_fits h).1⟩
theorem dstSy_b (n : Int) : (dstSy n).b ≤ 13 ∧ (dstSy n).v < 2 ^ (dstSy n).b := by
  by_cases h : n < 1 ∨ 32768 < n
  · unfold dstSy; rw [if_pos h]; exact ⟨Nat.zero_le _, by decide⟩
  · exact ⟨(dstSy_fits h).2.1, (dstSy_fits h).1⟩
theorem cOp_len (l1 l2 : List Int) (o : OpN) (x : Nat × Nat × Nat) : x.2.2 ≤ (cOp l1 l2 o x).2.2 ∧ (cOp l1 l2 o x).2.2 ≤ x.2.2 + 48 := by
  unfold cOp
  split
  · have := cPut_len l1 o.lit 0 0 x; omega
  · have h1 := cPut_len l1 (lenSy o.len).s (lenSy o.len).b (lenSy o.len).v x
    have h2 := cPut_len l2 (dstSy o.dist).s (dstSy o.dist).b (dstSy o.dist).v (cPut l1 (lenSy o.len).s (lenSy o.len).b (lenSy o.len).v x)
    have h3 := (lenSy_b o.len).1
    have h4 := (dstSy_b o.dist).1
    omega
theorem cOps_len (l1 l2 : List Int) : ∀ (ops : List OpN) (x : Nat × Nat × Nat), x.2.2 ≤ (cOps l1 l2 ops x).2.2 ∧ (cOps l1 l2 ops x).2.2 ≤ x.2.2 + 48 * ops.length
  | [], x => ⟨Nat.le_refl _, Nat.le_add_right _ _⟩
  | o :: ops, x => by
    have h1 := cOp_len l1 l2 o x
    have h2 := cOps_len l1 l2 ops (cOp l1 l2 o x)
    have e : cOps l1 l2 (o :: ops) x = cOps l1 l2 ops (cOp l1 l2 o x) := rfl
    rw [e, List.length_cons]
    omega
/-- what a coder in block gc over a writer in block g leaves alone -/
def FrC (g gc : Nat) (vb vb' : Value) (w w' : World) : Prop := (∀ k, k < w.heap.size → k ≠ g → k ≠ gc → vb.ownBlock ≠ some k → w'.heap[k]? = w.heap[k]?) ∧ (∀ k, vb'.ownBlock = some k → vb.ownBlock = some k ∨ w.heap.size ≤ k) ∧ w.heap.size ≤ w'.heap.size
theorem FrC.of {g gc : Nat} {vb vb' : Value} {w w' : World} (h : Fr g vb vb' w w') : FrC g gc vb vb' w w' := ⟨fun k hk h1 _ h3 => h.1 k hk h1 h3, h.2⟩
theorem FrC.refl (g gc : Nat) (vb : Value) (w : World) : FrC g gc vb vb w w := ⟨fun _ _ _ _ _ => rfl, fun _ h => .inl h, Nat.le_refl _⟩
theorem FrC.trans {g gc : Nat} {vb vb' vc : Value} {w w1 w2 : World} (h : FrC g gc vb vb' w w1) (k : FrC g gc vb' vc w1 w2) : FrC g gc vb vc w w2 := by
  refine ⟨fun q hq h1 h2 h3 => ?_, fun q hq => ?_, Nat.le_trans h.2.2 k.2.2⟩
  · rw [k.1 q (Nat.lt_of_lt_of_le hq h.2.2) h1 h2 ?_, h.1 q hq h1 h2 h3]
    intro e
    rcases h.2.1 q e with z | z
    · exact h3 z
    · omega
  · rcases k.2.1 q hq with z | z
    · exact h.2.1 q z
    · exact .inr (Nat.le_trans h.2.2 z)
theorem FrC.below {g gc : Nat} {vb vb' : Value} {w w1 w2 : World} (h : FrC g gc vb vb' w w1) (hb : Below w1.heap.size w1 w2) : FrC g gc vb vb' w w2 :=
  ⟨fun k hk h1 h2 h3 => by rw [hb.block k (Nat.lt_of_lt_of_le hk h.2.2), h.1 k hk h1 h2 h3], h.2.1, Nat.le_trans h.2.2 hb.size⟩
theorem FrC.cell {g gc : Nat} {vb : Value} {w : World} (c : Nat) (v : Value) : FrC g gc vb vb w (w.setCell ⟨gc, c, none⟩ v) :=
  ⟨fun k _ _ h2 _ => by rw [heap_setCell_other _ _ _ _ (by exact h2)], fun _ h => .inl h, by simp⟩
/-- a list of lengths that stays while the coder works -/
def Stay (g gc : Nat) (vb : Value) (w : World) (v : Value) (l : List Int) : Prop := ∀ W vb', FrC g gc vb vb' w W → IntsAt W v l
theorem Stay.next {g gc : Nat} {vb vb' : Value} {w w' : World} {v : Value} {l : List Int} (h : Stay g gc vb w v l) (hf : FrC g gc vb vb' w w') : Stay g gc vb' w' v l := fun W vc hc => h W vc (hf.trans hc)
/-- the coder, what is wrong and the bits -/
structure CdV (w : World) (B g gc : Nat) (vb vl vd : Value) (x : Nat × Nat × Nat) : Prop where
  wr : WrtV w B g x.2.1 x.2.2 vb
  cd : Own w B 118 (.slice (some ⟨gc, 0, none⟩) 4 4) [.pointer (some ⟨g, 0, none⟩), vl, vd, .int .i64 (x.1 : Nat)]
  ne : vb.ownBlock ≠ some gc
  gg : gc ≠ g
theorem CdV.up {w w' : World} {B g gc : Nat} {vb vl vd : Value} {x : Nat × Nat × Nat} (h : CdV w B g gc vb vl vd x) (hb : Below w.heap.size w w') : CdV w' B g gc vb vl vd x := ⟨h.wr.up hb, h.cd.up hb, h.ne, h.gg⟩
/-- the writer has written, the coder is told what is wrong -/
theorem CdV.told {w w1 : World} {B g gc N L : Nat} {vb vb1 vl vd : Value} {x : Nat × Nat × Nat} (h : CdV w B g gc vb vl vd x) (hw : WrtV w1 B g N L vb1) (hf : Fr g vb vb1 w w1) (hb : Below B w w1) (er : Nat) :
    CdV (w1.setCell ⟨gc, 3, none⟩ (.int .i64 (er : Nat))) B g gc vb1 vl vd (er, N, L) ∧ FrC g gc vb vb1 w (w1.setCell ⟨gc, 3, none⟩ (.int .i64 (er : Nat))) ∧ Below B w (w1.setCell ⟨gc, 3, none⟩ (.int .i64 (er : Nat))) := by
  have hcd : Own w1 B 118 (.slice (some ⟨gc, 0, none⟩) 4 4) [.pointer (some ⟨g, 0, none⟩), vl, vd, .int .i64 (x.1 : Nat)] := h.cd.of_blk fun k hk => by
    have e : some gc = some k := hk
    injection e with e
    subst e
    exact hf.1 gc h.cd.blk.2 h.gg h.ne
  have hne : vb1.ownBlock ≠ some gc := fun e => by
    rcases hf.2.1 gc e with q | q
    · exact h.ne q
    · have := h.cd.blk.2; omega
  have hst := hcd.store 3 (.int .i64 (er : Nat))
  refine ⟨⟨⟨hw.box.keep hst.2 (fun e => h.gg (Option.some.inj e)), hw.own.keep hst.2 (.inr hne), hw.ne, hw.ge, hw.lt⟩, hst.1, hne, h.gg⟩, (FrC.of hf).trans (FrC.cell 3 _), hb.grown hst.2 (Nat.le_trans (by have := h.wr.ge; have := h.wr.box.lt; omega) hb.size) (fun k e => by cases e; exact h.cd.blk.1)⟩
/-- the writer has written, the coder is as it was -/
theorem CdV.wrote {w w1 : World} {B g gc N L : Nat} {vb vb1 vl vd : Value} {x : Nat × Nat × Nat} (h : CdV w B g gc vb vl vd x) (hw : WrtV w1 B g N L vb1) (hf : Fr g vb vb1 w w1) : CdV w1 B g gc vb1 vl vd (x.1, N, L) := by
  refine ⟨hw, h.cd.of_blk fun k hk => ?_, fun e => ?_, h.gg⟩
  · have e : some gc = some k := hk
    injection e with e
    subst e
    exact hf.1 gc h.cd.blk.2 h.gg h.ne
  · rcases hf.2.1 gc e with q | q
    · exact h.ne q
    · have := h.cd.blk.2; omega
set_option maxRecDepth 100000 in
theorem putCP {w : World} {B g gc : Nat} {vb vl vd : Value} {x : Nat × Nat × Nat} (h : CdV w B g gc vb vl vd x) (v : Value) (l : List Int) (hs : Stay g gc vb w v l) (sym : Int) (bits z : Nat) (hz : z < 2 ^ bits) (hb : bits ≤ 13) (hL : x.2.2 ≤ 1000000000) :
    Calls Try.prog 73 #[.pointer (some ⟨gc, 0, none⟩), v, .int .i64 sym, .int .i64 bits, .int .i64 z] w fun e w' => e = .returned (.tuple #[]) ∧ ∃ vb', CdV w' B g gc vb' vl vd (cPut l sym bits z x) ∧ FrC g gc vb vb' w w' ∧ Below B w w' := by
  have c0 : w.cell? ⟨gc, 0, none⟩ = some (.pointer (some ⟨g, 0, none⟩)) := h.cd.cell (by simp)
  have c3 : w.cell? ⟨gc, 3, none⟩ = some (.int .i64 (x.1 : Nat)) := h.cd.cell (by simp)
  have f3 := h.cd.free 3
  have hgc := h.cd.blk.2
  have HW := Lib.hid (writeVF v l sym (hs w vb (FrC.refl _ _ _ _)) (fun W vb' hf => hs W vb' (FrC.of hf)) h.wr (by omega))
  have HH := Lib.hid h
  have HNL := Lib.hid (numW_len l sym x.2)
  obtain ⟨er, N, L⟩ := x
  simp only at hL c3 HW HNL
  unfold RetV at HW
  by_cases hx : er = 0
  · subst hx
    obtain ⟨y, hy⟩ : ∃ y, y = cPut l sym bits z (0, N, L) := ⟨_, rfl⟩
    rw [← hy]
    have HY := Lib.hid hy
    unfold cPut at HY
    rw [if_neg (fun h => h rfl)] at HY
    clear hy h hs
    generalize hnw : numW l sym (N, L) = nl at *
    obtain ⟨N1, L1⟩ := nl
    simp only at HW HNL HY
    by_cases he : errW l sym = 0
    · rw [he] at HW
      have HYE : Hid (y = (0, N1 + z * 2 ^ L1, L1 + bits)) := Lib.hid (by rw [HY.out, if_neg (by omega)])
      have HPT := Lib.hid (fun (W : World) (vb1 : Value) (hv : WrtV W B g N1 L1 vb1) => putV hv z bits hz (by omega) (by have := HNL.out; omega))
      have hgc2 := HH.out.gg
      clear HY hnw he
      go_enter Try.func73, Try.ntmps73
      go_wp2_with (first
        | (go_at_call 98; (with_reducible refine HW.out.mono ?_); rintro e w1 ⟨rfl, vb1, hq1, hq2, hf1⟩; obtain ⟨ht1, ht2, ht3⟩ := HH.out.told hq1 hf1 hq2 0; have HT1 := Lib.hid ht1; have HT2 := Lib.hid ht2; have HT3 := Lib.hid ht3; have hcd1 := HH.out.cd.of_blk (w' := w1) (fun k hk => by have e : some gc = some k := hk; injection e with e; subst e; exact hf1.1 gc HH.out.cd.blk.2 HH.out.gg HH.out.ne); have f31 := hcd1.free 3; have c31 : w1.cell? ⟨gc, 3, none⟩ = some (.int .i64 0) := hcd1.cell (by simp); have c01 : w1.cell? ⟨gc, 0, none⟩ = some (.pointer (some ⟨g, 0, none⟩)) := hcd1.cell (by simp); have hgc1 := hcd1.blk.2; rw [show ((0 : Nat) : Int) = 0 from rfl] at HT1 HT2 HT3; clear hq1 hq2 hf1 ht1 ht2 ht3 hcd1)
        | (go_at_call 65; (with_reducible refine (HPT.out _ _ HT1.out.wr).mono ?_); rintro e w2 ⟨rfl, vb2, hq1, hq2, hf1⟩; have HQ1 := Lib.hid hq1; have HQ2 := Lib.hid hq2; have HF1 := Lib.hid hf1; clear hq1 hq2 hf1))
      go_end0
      refine ⟨rfl, vb2, ?_, HT2.out.trans (FrC.of HF1.out), HT3.out.trans HQ2.out⟩
      rw [HYE.out]
      exact HT1.out.wrote HQ1.out HF1.out
    · have HYE : Hid (y = (errW l sym, N, L)) := Lib.hid (by rw [HY.out, if_pos he])
      have hnw2 : (N1, L1) = (N, L) := by rw [← hnw]; exact numW_bad he
      injection hnw2 with e1 e2
      subst e1 e2
      clear HY hnw HNL
      generalize errW l sym = q at *
      have hqi : ((q : Int) == 0) = false := by simpa using he
      clear he
      go_enter Try.func73, Try.ntmps73
      go_wp2_with (go_at_call 98; (with_reducible refine HW.out.mono ?_); rintro e w1 ⟨rfl, vb1, hq1, hq2, hf1⟩; obtain ⟨ht1, ht2, ht3⟩ := HH.out.told hq1 hf1 hq2 q; have HT1 := Lib.hid ht1; have HT2 := Lib.hid ht2; have HT3 := Lib.hid ht3; have hcd1 := HH.out.cd.of_blk (w' := w1) (fun k hk => by have e : some gc = some k := hk; injection e with e; subst e; exact hf1.1 gc HH.out.cd.blk.2 HH.out.gg HH.out.ne); have f31 := hcd1.free 3; have c31 : w1.cell? ⟨gc, 3, none⟩ = some (.int .i64 0) := hcd1.cell (by simp); have c01 : w1.cell? ⟨gc, 0, none⟩ = some (.pointer (some ⟨g, 0, none⟩)) := hcd1.cell (by simp); have hgc1 := hcd1.blk.2; clear hq1 hq2 hf1 ht1 ht2 ht3 hcd1)
      go_end0
      refine ⟨rfl, vb1, ?_, HT2.out, HT3.out⟩
      rw [HYE.out]
      exact HT1.out
  · have HE : Hid (cPut l sym bits z (er, N, L) = (er, N, L)) := Lib.hid (cPut_stuck hx)
    have hxi : ((er : Int) == 0) = false := by simpa using hx
    rw [HE.out]
    clear HW hx HNL h hs
    go_enter Try.func73, Try.ntmps73
    go_wp2
    go_end0
    exact ⟨rfl, vb, HH.out, FrC.refl _ _ _ _, Below.refl _ _⟩
set_option maxRecDepth 100000 in
theorem opCP {w : World} {B g gc : Nat} {vb vl vd : Value} {x : Nat × Nat × Nat} (h : CdV w B g gc vb vl vd x) (l1 l2 : List Int) (hs1 : Stay g gc vb w vl l1) (hs2 : Stay g gc vb w vd l2) (o : OpN) (ho : o.lit < 256) (hn1 : -9223372036854775808 ≤ o.len) (hn2 : o.len ≤ 9223372036854775807) (hd1 : -9223372036854775808 ≤ o.dist) (hd2 : o.dist ≤ 9223372036854775807) (hL : x.2.2 ≤ 900000000) :
    Calls Try.prog 72 #[.pointer (some ⟨gc, 0, none⟩), .agg #[.int .u8 o.lit, .int .i64 o.len, .int .i64 o.dist]] w fun e w' => e = .returned (.tuple #[]) ∧ ∃ vb', CdV w' B g gc vb' vl vd (cOp l1 l2 o x) ∧ FrC g gc vb vb' w w' ∧ Below B w w' := by
  obtain ⟨ol, on, od⟩ := o
  simp only at ho hn1 hn2 hd1 hd2
  obtain ⟨w1, hw1⟩ : ∃ w1, w1 = w.alloc (.cells #[.int .u8 (ol : Nat), .int .i64 on, .int .i64 od] 75) := ⟨_, rfl⟩
  have hb1 : Below w.heap.size w w1 := by rw [hw1]; exact below_alloc _ _
  have hop := op_box w ol on od
  rw [← hw1] at hop
  have HW1 := Lib.hid hw1
  have HH := Lib.hid (h.up hb1)
  have HF := Lib.hid ((FrC.refl g gc vb w).below hb1)
  have hBw : B ≤ w.heap.size := by have := h.cd.blk; omega
  have HBL := Lib.hid (hb1.mono hBw)
  have HOP := Lib.hid hop
  have p0 : w1.cell? ⟨w.heap.size, 0, none⟩ = some (.int .u8 (ol : Nat)) := hop.cell (by simp [opV])
  have p1 : w1.cell? ⟨w.heap.size, 1, none⟩ = some (.int .i64 on) := hop.cell (by simp [opV])
  have hp := hop.blk.2
  have hgc := HH.out.cd.blk.2
  have c1 : w1.cell? ⟨gc, 1, none⟩ = some vl := HH.out.cd.cell (by simp)
  obtain ⟨y, hy⟩ : ∃ y, y = cOp l1 l2 ⟨ol, on, od⟩ x := ⟨_, rfl⟩
  rw [← hy]
  have HY := Lib.hid hy
  unfold cOp at HY
  simp only at HY
  have HS1 := Lib.hid (hs1.next HF.out)
  have HS2 := Lib.hid (hs2.next HF.out)
  have hqb : w.heap.size ≠ g := by have := h.wr.box.lt; omega
  have hqc : w.heap.size ≠ gc := by have := h.cd.blk.2; omega
  have HVQ : Hid (vb.ownBlock ≠ some w.heap.size) := Lib.hid (fun e => by have := (h.wr.own.lt _ e).2; omega)
  clear hy hw1 hb1 hop h hs1 hs2
  by_cases hn : on = 0
  · rw [if_pos hn] at HY
    subst hn
    have HP := Lib.hid (fun (W : World) (hb : Below w1.heap.size w1 W) => putCP (HH.out.up hb) vl l1 (HS1.out.next ((FrC.refl g gc vb w1).below hb)) ol 0 0 (by decide) (by omega) (by omega))
    rw [show ((0 : Nat) : Int) = 0 from rfl, ← HY.out] at HP
    go_enter Try.func72, Try.ntmps72
    go_upto_region 1 with fail
    rw [← HW1.out]
    go_wp2
    refine wp_region_tailg [0,1,2,3,4,5,6,7] [] [8] (by kernel_rfl) (by kernel_rfl) ?_
    simp only [pick, List.map_cons, List.map_nil, List.getD_cons_zero, List.getD_cons_succ]
    repeat (go_big_quiet_step (fail))
    refine wpQuiet_nil ?_
    unfold wpAct
    unfold wpAct
    go_wp2_with (go_at_call 73; (with_reducible refine (HP.out _ (b_drew1 (Below.refl _ _))).mono ?_); rintro e w3 ⟨rfl, vb3, hq1, hq2, hq3⟩; have HQ1 := Lib.hid hq1; have HQ2 := Lib.hid hq2; have HQ3 := Lib.hid hq3; clear hq1 hq2 hq3)
    refine ⟨trivial, ?_⟩
    unfold wpAct
    go_wp2
    ((try simp only [Exit.inBlock, Exit.then]); refine bodyPost_ret (results_none rfl _ _ _) rfl ?_)
    exact ⟨rfl, vb3, HQ1.out, ((HF.out.below (below_drewN w1 1)).trans (World.drew_is_drewN w1 ▸ HQ2.out)), (HBL.out.trans ((below_drewN w1 1).mono (Nat.le_trans hBw (Nat.le_of_lt hp)))).trans (World.drew_is_drewN w1 ▸ HQ3.out)⟩
  · rw [if_neg hn] at HY
    have hni : (on == 0) = false := by simpa using hn
    obtain ⟨hlb, hlv⟩ := lenSy_b on
    obtain ⟨hdb, hdv⟩ := dstSy_b od
    have HOL := Lib.hid (ofLenP on hn1 hn2)
    have HOD := Lib.hid (ofDstP od hd1 hd2)
    obtain ⟨s, hs⟩ : ∃ s, s = lenSy on := ⟨_, rfl⟩
    obtain ⟨d, hd⟩ : ∃ d, d = dstSy od := ⟨_, rfl⟩
    rw [← hs] at hlb hlv HOL HY
    rw [← hd] at hdb hdv HOD HY
    clear hs hd hn
    obtain ⟨ss, sb, sv, se⟩ := s
    obtain ⟨ds, db, dv, de⟩ := d
    simp only at hlb hlv hdb hdv HY
    unfold symV at HOL HOD
    simp only at HOL HOD
    have HP1 := Lib.hid (fun (W : World) (hb : Below w1.heap.size w1 W) => putCP (HH.out.up hb) vl l1 (HS1.out.next ((FrC.refl g gc vb w1).below hb)) ss sb sv hlv (by omega) (by omega))
    have HLN := Lib.hid (cPut_len l1 ss sb sv x)
    generalize hx1 : cPut l1 ss sb sv x = x1 at *
    have HP2 : Hid (∀ (W : World) (vb1 : Value), CdV W B g gc vb1 vl vd x1 → FrC g gc vb vb1 w1 W → Calls Try.prog 73 #[.pointer (some ⟨gc, 0, none⟩), vd, .int .i64 ds, .int .i64 db, .int .i64 dv] W fun e w' => e = .returned (.tuple #[]) ∧ ∃ vb', CdV w' B g gc vb' vl vd y ∧ FrC g gc vb1 vb' W w' ∧ Below B W w') := Lib.hid (fun W vb1 hc hf => by
      rw [HY.out]
      exact putCP hc vd l2 (HS2.out.next hf) ds db dv hdv (by omega) (by have := HLN.out; omega))
    clear hx1 HY HLN
    go_enter Try.func72, Try.ntmps72
    go_upto_region 1 with fail
    rw [← HW1.out]
    go_upto_region 4 with (go_at_call 96; (with_reducible refine (HOL.out _).mono ?_); rintro e w2 ⟨rfl, x2, rfl⟩)
    have hX2 := ext_below w1 x2
    have HX2 := Lib.hid hX2
    have c12 : (ext w1 x2).cell? ⟨gc, 1, none⟩ = some vl := (hX2.cell (p := ⟨gc, 1, none⟩) hgc).trans c1
    have hgc2 : gc < (ext w1 x2).heap.size := Nat.lt_of_lt_of_le hgc hX2.size
    clear hX2 c1 p0 p1 hgc
    generalize ext w1 x2 = w2 at *
    go_upto_region 5 with (go_at_call 73; (with_reducible refine (HP1.out _ HX2.out).mono ?_); rintro e w3 ⟨rfl, vb3, hq1, hq2, hq3⟩; have HQ1 := Lib.hid hq1; have HQ2 := Lib.hid (((FrC.refl g gc vb w1).below HX2.out).trans hq2); have HQ3 := Lib.hid ((HBL.out.trans (HX2.out.mono (Nat.le_trans hBw (Nat.le_of_lt hp)))).trans hq3); clear hq1 hq2 hq3)
    have hop3 : Own w3 w.heap.size 75 (.slice (some ⟨w.heap.size, 0, none⟩) 3 3) (opV ⟨ol, on, od⟩) := HOP.out.of_blk fun k hk => by
      have e : some w.heap.size = some k := hk
      injection e with e
      subst e
      exact HQ2.out.1 _ hp hqb hqc HVQ.out
    have p2 : w3.cell? ⟨w.heap.size, 2, none⟩ = some (.int .i64 od) := hop3.cell (by simp [opV])
    have hp3 := hop3.blk.2
    clear hop3 c12 hgc2
    go_upto_region 6 with (go_at_call 97; (with_reducible refine (HOD.out _).mono ?_); rintro e w4 ⟨rfl, x4, rfl⟩)
    have hX4 := ext_below w3 x4
    have HX4 := Lib.hid hX4
    have c2 : (ext w3 x4).cell? ⟨gc, 2, none⟩ = some vd := (HQ1.out.up hX4).cd.cell (by simp)
    have hgc4 := (HQ1.out.up hX4).cd.blk.2
    clear hX4 p2
    generalize ext w3 x4 = w4 at *
    go_wp2_with (go_at_call 73; (with_reducible refine (HP2.out _ _ (HQ1.out.up HX4.out) (HQ2.out.below HX4.out)).mono ?_); rintro e w5 ⟨rfl, vb5, hq1, hq2, hq3⟩; have HR1 := Lib.hid hq1; have HR2 := Lib.hid hq2; have HR3 := Lib.hid hq3; clear hq1 hq2 hq3)
    go_end0
    exact ⟨rfl, vb5, HR1.out, (HF.out.trans (HQ2.out.below HX4.out)).trans HR2.out, (HQ3.out.trans (HX4.out.mono (Nat.le_trans hBw (Nat.le_of_lt hp3)))).trans HR3.out⟩
end Go.Cm

/- 'append(s, x...)', which leaves what stood there as it was; a world in which a row has grown behind its first cells. Conditions: none. -/
namespace Go.Cm
open Go.RowKit Go.Proofs

/-- a world in which the row in block b may have changed, but for its first n cells -/
noncomputable def kept (w : World) (b n : Nat) (x : World) : World := @ite _ (w.grownBy x (some b) ∧ ∀ o, o < n → x.cell? ⟨b, o, none⟩ = w.cell? ⟨b, o, none⟩) (Classical.propDecidable _) x w
theorem kept_grown (w : World) (b n : Nat) (x : World) : w.grownBy (kept w b n x) (some b) := by
  unfold kept; split
  · rename_i h; exact h.1
  · exact grown_refl w _
theorem ex_kept {w x : World} {b n : Nat} (h : w.grownBy x (some b)) (hc : ∀ o, o < n → x.cell? ⟨b, o, none⟩ = w.cell? ⟨b, o, none⟩) : ∃ y, x = kept w b n y := ⟨x, by unfold kept; rw [if_pos ⟨h, hc⟩]⟩
@[go_sem] theorem cell?_kept_other (w : World) (b n : Nat) (x : World) (k o : Nat) (h : k < w.heap.size) (hr : k ≠ b) : (kept w b n x).cell? ⟨k, o, none⟩ = w.cell? ⟨k, o, none⟩ := World.cell?_of_block ((kept_grown w b n x).block k h (fun e => hr (Option.some.inj e)))
@[go_sem] theorem frozen?_kept_other (w : World) (b n : Nat) (x : World) (k o : Nat) (h : k < w.heap.size) (hr : k ≠ b) : (kept w b n x).frozen? ⟨k, o, none⟩ = w.frozen? ⟨k, o, none⟩ := World.frozen?_of_block ((kept_grown w b n x).block k h (fun e => hr (Option.some.inj e)))
@[go_sem] theorem cell?_kept_same (w : World) (b n : Nat) (x : World) (o : Nat) (h : o < n) : (kept w b n x).cell? ⟨b, o, none⟩ = w.cell? ⟨b, o, none⟩ := by
  unfold kept; split
  · rename_i hh; exact hh.2 o h
  · rfl
theorem kept_below {w x : World} {b n : Nat} (h : Below w.heap.size w x) (hb : b < w.heap.size) : ∃ y, x = kept w b n y := ex_kept (grown_below h _) (fun o _ => h.cell (p := ⟨b, o, none⟩) hb)
/-- 'append(s, x...)' of one-cell elements: s is owned, x reads as a list. -/
theorem run_app2 {P : Program} (w : World) (B : Nat) (t ty E : TypeId) (z : Value) (bytes : Nat) (ht : P.underlying t = some (.slice E)) (hinf : (P.info? E).map (fun i => (i.zero, i.size, i.bytes)) = some (some z, 1, bytes)) (hz : z.cells.size = 1) (hby : bytes ≤ 24)
    (v : Value) (xs : List Value) (hown : Own w B E v xs) (xv : Value) (news : List Value) (hx : Sl w xv news) (h1 : ∀ u ∈ news, u.oneCell' = true) (hlen : xs.length + news.length ≤ 4294967296) (hB : B ≤ w.heap.size) :
    ∃ v' w', (Builtin.append_ #[t, t] ty #[v, xv]).run P w = .ok v' w' ∧ Own w' B E v' (xs ++ news) ∧ w.grownBy w' v.ownBlock ∧ (∀ k, v'.ownBlock = some k → v.ownBlock = some k ∨ w.heap.size ≤ k) ∧ (∀ g i, v.ownBlock = some g → i < xs.length → w'.cell? ⟨g, i, none⟩ = w.cell? ⟨g, i, none⟩) := by
  obtain ⟨i0, hi, hz0, hz1, hz2⟩ : ∃ i0, P.info? E = some i0 ∧ i0.zero = some z ∧ i0.size = 1 ∧ i0.bytes = bytes := by
    cases hq : P.info? E with
    | none => simp [hq] at hinf
    | some i0 => simp [hq] at hinf; exact ⟨i0, rfl, hinf.1, hinf.2.1, hinf.2.2⟩
  have hl1 : xs.length + news.length ≤ maxLen := by simp only [maxLen]; omega
  have hl2 : (xs.length + news.length) * bytes ≤ 140737488355328 := by
    have := Nat.mul_le_mul hlen hby; omega
  obtain ⟨oa, cx, b, off, rfl, hd, hc⟩ := hx
  have hlen' : xs.length + news.length ≤ 140737488351232 := by omega
  rcases hown with ⟨hrow, hsm⟩
  by_cases hn : news = []
  · subst hn
    refine ⟨v, w, ?_, ⟨by simpa using hrow, by simpa using hsm⟩, ⟨rfl, rfl, rfl, Nat.le_refl _, fun _ _ _ => rfl⟩, fun k hk => .inl hk, fun _ _ _ _ => rfl⟩
    rcases hrow.2 with ⟨rfl, hx0⟩ | ⟨g, cap, cur, rfl, _, _, hnc, _⟩
    · cases oa <;> simp [Builtin.append_, run_underlying ht, sizeOf, typeInfo, hi, Builtin.lenOf, Builtin.firstCells, loadCells, loadCellsFrom]
    · cases oa <;> simp [Builtin.append_, run_underlying ht, sizeOf, typeInfo, hi, Builtin.lenOf, Builtin.firstCells, loadCells, loadCellsFrom, hnc, storeCells]
  · have hpos : 0 < news.length := List.length_pos_iff.2 hn
    obtain rfl := hd.hat hpos
    have hnews : ∀ j u, news[j]? = some u → w.cell? ((⟨b, off, none⟩ : Addr).add j) = some u := fun j u hu => by
      have hj := (List.getElem?_eq_some_iff.1 hu).1
      rw [add_off, hc j hj]; simp [List.getD, hu]
    rcases hrow.2 with ⟨rfl, hx0⟩ | ⟨g, cap, cur, rfl, hbg, hg, hnc, hcm, hcs, htake⟩
    · obtain rfl : xs = [] := List.length_eq_zero_iff.1 hx0
      obtain ⟨v', w', hr, ho, hgr, -⟩ := run_append_own (P := P) w w.heap.size t ty E i0 z 1 bytes ht hi hz0 hz1 hz2 hz (by decide) (.slice none 0 0) 0 [] (World.ownsRow_nil _ _ _ _) ⟨b, off, none⟩ news.length cx news (by simp) hnews h1 (by simpa using hl1) (by simpa using hl2) (Nat.le_refl _)
      have hk := ho.lt
      refine ⟨v', w', hr, ⟨⟨by simp, ?_⟩, by simp only [List.nil_append]; omega⟩, hgr, fun k hk' => .inr (hk k hk').1, fun g i hg _ => by simp [Value.ownBlock] at hg⟩
      simp only [Nat.zero_add, List.nil_append] at ho
      rcases ho.2 with ⟨h1, h2⟩ | ⟨g, cap, cur, h1, h2, h3⟩
      · exact .inl ⟨h1, by simpa using h2⟩
      · exact .inr ⟨g, cap, cur, h1, by omega, by simpa using h3⟩
    · by_cases hroom : xs.length + news.length ≤ cap
      · obtain ⟨w', hr, ho, hgr⟩ := run_append_fits (P := P) w B t ty E i0 1 ht hi hz1 g xs.length cap xs ⟨hrow.1, .inr ⟨g, cap, cur, rfl, hbg, hg, hnc, hcm, hcs, htake⟩⟩ ⟨b, off, none⟩ news.length cx news (by simp) hnews h1 hroom
        have hown2 : Own w' B E (.slice (some ⟨g, 0, none⟩) (xs.length + news.length) cap) (xs ++ news) := ⟨by rw [List.length_append]; exact ho, by rw [List.length_append]; exact hlen'⟩
        have hown1 : Own w B E (.slice (some ⟨g, 0, none⟩) xs.length cap) xs := ⟨⟨hrow.1, .inr ⟨g, cap, cur, rfl, hbg, hg, hnc, hcm, hcs, htake⟩⟩, hsm⟩
        refine ⟨_, w', hr, hown2, hgr, fun k hk => .inl hk, fun g' i hg' hi' => ?_⟩
        obtain rfl : g = g' := by simpa [Value.ownBlock] using hg'
        rw [hown2.cell (by rw [List.length_append]; omega), hown1.cell hi']
        simp [List.getD, List.getElem?_append_left hi']
      · have holds : ∀ j u, xs[j]? = some u → w.cell? ((⟨g, 0, none⟩ : Addr).add j) = some u := World.ownsRow.cells (g := g) hrow rfl
        have hsmall : xs.length + news.length ≤ 9223372036854775807 := by omega
        have hr := run_append_grow (P := P) w t ty E i0 z ht hi hz0 ⟨g, 0, none⟩ xs.length cap xs (by rw [hz1]; exact hrow.1) holds ⟨b, off, none⟩ news.length cx news (by rw [hz1]; simp) hnews (by omega) (by omega) (growslice_fits (by omega) (by rw [hz2]; exact hl2))
        have hge := grownCap_ge w (xs.length + news.length) cap E
        have hcm' : grownCap w (xs.length + news.length) cap E ≤ maxLen := grownCap_le_maxLen w _ cap E hl1
        refine ⟨_, _, hr, ⟨⟨by simp, .inr ⟨w.heap.size, _, _, by rw [List.length_append], hB, heap_alloc_new w.drew _, by rw [List.length_append]; exact hge, hcm', ?_, ?_⟩⟩, by rw [List.length_append]; exact hlen'⟩, ⟨rfl, rfl, rfl, by simp, fun k hk _ => Below.heap_alloc w.drew _ k hk⟩, fun k hk => .inr (by simp [Value.ownBlock] at hk; omega), fun g' i hg' _ => ?_⟩
        · simp only [Array.size_append, List.size_toArray, size_zeroCells, hz]
          omega
        · simp only [Array.toList_append, List.append_assoc]
          rw [← List.append_assoc, Nat.mul_one]
          exact List.take_left
        · obtain rfl : g = g' := by simpa [Value.ownBlock] using hg'
          exact World.cell?_of_block (Below.heap_alloc w.drew _ g (Array.getElem?_eq_some_iff.1 hg).1)
theorem wpList_app2 {P : Program} {ops : Array Oper} {rest : List Oper} {o : Oper} {a : Act} {w : World} {Q : Exit → Act → World → Prop} (hgd : o.guard = none) (s x : Operand) (t : TypeId)
    (ho : o.op = .call { callee := .builtin .append, args := #[s, x], argTypes := #[t, t] })
    (B E : TypeId) (z : Value) (bytes : Nat) (ht : P.underlying t = some (.slice E)) (hinf : (P.info? E).map (fun i => (i.zero, i.size, i.bytes)) = some (some z, 1, bytes)) (hz : z.cells.size = 1) (hby : bytes ≤ 24)
    (v : Value) (xs : List Value) (hs : a.eval s = v) (hown : Own w B E v xs) (xv : Value) (news : List Value) (hxe : a.eval x = xv) (hx : Sl w xv news) (h1 : ∀ u ∈ news, u.oneCell' = true) (hlen : xs.length + news.length ≤ 4294967296) (hB : B ≤ w.heap.size)
    (h : ∀ v' w', Own w' B E v' (xs ++ news) → w.grownBy w' v.ownBlock → (∀ k, v'.ownBlock = some k → v.ownBlock = some k ∨ w.heap.size ≤ k) → (∀ g i, v.ownBlock = some g → i < xs.length → w'.cell? ⟨g, i, none⟩ = w.cell? ⟨g, i, none⟩) → wpList P ops Q rest (a.put o.dst v') w') : wpList P ops Q (o :: rest) a w := by
  obtain ⟨v', w', hr, h2, h3, h4, h5⟩ := run_app2 (P := P) w B t o.type E z bytes ht hinf hz hby v xs hown xv news hx h1 hlen hB
  refine wpList_plain hgd fun K hK => ?_
  unfold Oper.wp execOp
  simp only [ho, resolve, invoke, builtin, Sem.run_bind, Sem.run_pure, Result.andThen_ok, List.map_toArray, List.map_cons, List.map_nil, hs, hxe, hr]
  exact hK _ _ (h v' w' h2 h3 h4 h5)
end Go.Cm
