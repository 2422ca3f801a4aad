/- Texts of this claim, joined: walks of small functions and plain facts about them. Conditions: as each says. -/
import Derived.Test.YtmophmeiemfikaaGreatBJ
import Derived.Test.YtmophmeiemfikaaGreatRows
import Derived.WalkKit
import Derived.WalkSpells
import Derived.WalkLawsBesides
import Derived.Deep.QuietTactic
import Derived.BigQuiet
import Derived.Lib.Hide
import Derived.Laws.BitsLemmas
import Derived.Deep.LoopGhost
import Derived.Laws.Small
import Derived.Deep.DeepCutAuto
import Derived.Deep.CutBlock
import Derived.Deep.CutRange
/- The walk of the document's dynamic head. Conditions: the reader is there. -/
namespace Go.Cm
open Go.RowKit Go.Proofs

theorem dynM_err {N T a b c : Nat} {st : Nat × Nat} (h : st.1 ≠ 0) : dynM N T a b c st = ([], [], st) := by
  have h4 : (if 286 < 257 + a ∨ 30 < 1 + b then xf 3 st else st) = st := by
    split
    · exact xf_of h
    · rfl
  unfold dynM dynL
  rw [h4, codeK_err N T c 19 (List.replicate 19 0, st) h]
  exact if_pos h
theorem dynM_big {N T a b c p : Nat} (h : 286 < 257 + a ∨ 30 < 1 + b) : dynM N T a b c (0, p) = ([], [], (3, p)) := by
  unfold dynM dynL
  rw [if_pos h, codeK_err N T c 19 (List.replicate 19 0, xf 3 (0, p)) (by show (3 : Nat) ≠ 0; decide)]
  exact if_pos (by show (3 : Nat) ≠ 0; decide)
theorem dyn_good {N T p : Nat} {a b c p1 p2 p3 : Nat} (h1 : bitsA N T p 5 = (a, 0, p1)) (h2 : bitsA N T p1 5 = (b, 0, p2)) (h3 : bitsA N T p2 4 = (c, 0, p3)) : dynN N T (0, p) = dynM N T a b c (0, p3) := by
  unfold dynN
  simp only [xb_zero, h1, h2, h3]
theorem dyn_bad {N T p : Nat} {a b c e1 e2 e3 p1 p2 p3 : Nat} (h1 : bitsA N T p 5 = (a, e1, p1)) (h2 : bitsA N T p1 5 = (b, e2, p2)) (h3 : bitsA N T p2 4 = (c, e3, p3)) (h : e1 ≠ 0 ∨ e2 ≠ 0 ∨ e3 ≠ 0) : (dynN N T (0, p)).2.2.1 = 2 := by
  have t1 := bitsA_two (N := N) (T := T) (p := p) (n := 5)
  have t2 := bitsA_two (N := N) (T := T) (p := p1) (n := 5)
  have t3 := bitsA_two (N := N) (T := T) (p := p2) (n := 4)
  rw [h1] at t1
  rw [h2] at t2
  rw [h3] at t3
  unfold dynN
  by_cases he1 : e1 = 0
  · subst he1
    by_cases he2 : e2 = 0
    · subst he2
      have he3 : e3 ≠ 0 := by omega
      simp only [xb_zero, h1, h2, h3]
      rw [dynM_err (by exact he3)]
      exact t3 he3
    · simp only [xb_zero, h1, h2, xb_bad he2]
      rw [dynM_err (by exact he2)]
      exact t2 he2
  · simp only [xb_zero, h1, xb_bad he1]
    rw [dynM_err (by exact he1)]
    exact t1 he1
theorem codeK_fix (N T c : Nat) (x : List Nat × (Nat × Nat)) (j : Nat) (h : (codeK N T c j x).2.1 ≠ 0) : ∀ d, codeK N T c (j + d) x = codeK N T c j x
  | 0 => rfl
  | d + 1 => by
    rw [← Nat.add_assoc, codeK_step, codeK_fix N T c x j h d, if_neg (fun z => h z.2)]
theorem codeK_stay (N T c : Nat) (x : List Nat × (Nat × Nat)) : ∀ d, codeK N T c (4 + c + d) x = codeK N T c (4 + c) x
  | 0 => rfl
  | d + 1 => by
    rw [← Nat.add_assoc, codeK_step, codeK_stay N T c x d, if_neg (fun z => by have := z.1; omega)]
set_option maxRecDepth 100000 in
set_option maxHeartbeats 4000000 in
theorem dynamicRR {w : World} {g p k : Nat} {s : ByteArray} {fin : Bool} (h : BoxT w g s p) (hs : s.size ≤ 4294967296) (hp : p ≤ 8 * s.size) :
    Calls Tryz.prog 45 #[.pointer (some ⟨g, 0, none⟩), .agg #[.bool fin, .int .i64 (k : Nat), .int .i64 0, .slice none 0 0, .slice none 0 0]] w
      (RetHR (if (dynN (numS s) (8 * s.size) (0, p)).2.2.1 = 0 then ⟨fin, k, 0, (dynN (numS s) (8 * s.size) (0, p)).1, (dynN (numS s) (8 * s.size) (0, p)).2.1⟩ else HeadN.zero) (dynN (numS s) (8 * s.size) (0, p)).2.2.1 (dynN (numS s) (8 * s.size) (0, p)).2.2.2 s g w) := by
  have HB := Lib.hid h
  have hgw := h.lt
  have HBT := Lib.hid (fun (W : World) (p n : Nat) (hn : n ≤ 32) (hb : BoxT W g s p) (hp : p ≤ 8 * s.size) => bitsT hb hs n hn hp)
  have HRW := Lib.hid (fun (W : World) (p n : Nat) (L : List Nat) (v : Value) (hb : BoxT W g s p) (hv : Own W w.heap.size 3 v (ints (nls L))) (hL : errI (nls L) = 0) (hl : L.length ≤ 19) (hn : n ≤ 1000) (hp : p ≤ 8 * s.size) => rowRR hb hv hgw hL hl hn hs hp)
  obtain ⟨D, hD⟩ : ∃ D, D = dynN (numS s) (8 * s.size) (0, p) := ⟨_, rfl⟩
  rw [← hD]
  obtain ⟨H, hH⟩ : ∃ H, H = if D.2.2.1 = 0 then (⟨fin, k, 0, D.1, D.2.1⟩ : HeadN) else HeadN.zero := ⟨_, rfl⟩
  rw [← hH]
  have HHD := Lib.hid hH
  clear hH
  obtain ⟨r1, h1⟩ : ∃ r1, r1 = bitsA (numS s) (8 * s.size) p 5 := ⟨_, rfl⟩
  obtain ⟨a, e1, p1⟩ := r1
  obtain ⟨r2, h2⟩ : ∃ r2, r2 = bitsA (numS s) (8 * s.size) p1 5 := ⟨_, rfl⟩
  obtain ⟨b, e2, p2⟩ := r2
  obtain ⟨r3, h3⟩ : ∃ r3, r3 = bitsA (numS s) (8 * s.size) p2 4 := ⟨_, rfl⟩
  obtain ⟨c, e3, p3⟩ := r3
  have HP1 : Hid (p1 ≤ 8 * s.size) := Lib.hid (by have := (bitsA_le (N := numS s) (n := 5) hp).1; rw [← h1] at this; exact this)
  have HP2 : Hid (p2 ≤ 8 * s.size) := Lib.hid (by have := (bitsA_le (N := numS s) (n := 5) HP1.out).1; rw [← h2] at this; exact this)
  have HP3 : Hid (p3 ≤ 8 * s.size) := Lib.hid (by have := (bitsA_le (N := numS s) (n := 4) HP2.out).1; rw [← h3] at this; exact this)
  have ha : a < 32 := by have := bitsA_lt (N := numS s) (T := 8 * s.size) (p := p) (n := 5); rw [← h1] at this; exact this
  have hb : b < 32 := by have := bitsA_lt (N := numS s) (T := 8 * s.size) (p := p1) (n := 5); rw [← h2] at this; exact this
  have hc : c < 16 := by have := bitsA_lt (N := numS s) (T := 8 * s.size) (p := p2) (n := 4); rw [← h3] at this; exact this
  have HB1 : Hid (∀ W, BoxT W g s p → Calls Tryz.prog 31 #[.pointer (some ⟨g, 0, none⟩), .int .i64 5] W fun e w' => e = .returned (.tuple #[.int .i64 (a : Nat), .int .i64 (e1 : Nat)]) ∧ BoxT w' g s p1 ∧ W.grownBy w' (some g)) := Lib.hid (fun W h => by
    have := HBT.out W p 5 (by omega) h hp
    unfold RetBits at this
    rw [← h1] at this
    exact this)
  have HB2 : Hid (∀ W, BoxT W g s p1 → Calls Tryz.prog 31 #[.pointer (some ⟨g, 0, none⟩), .int .i64 5] W fun e w' => e = .returned (.tuple #[.int .i64 (b : Nat), .int .i64 (e2 : Nat)]) ∧ BoxT w' g s p2 ∧ W.grownBy w' (some g)) := Lib.hid (fun W h => by
    have := HBT.out W p1 5 (by omega) h HP1.out
    unfold RetBits at this
    rw [← h2] at this
    exact this)
  have HB3 : Hid (∀ W, BoxT W g s p2 → Calls Tryz.prog 31 #[.pointer (some ⟨g, 0, none⟩), .int .i64 4] W fun e w' => e = .returned (.tuple #[.int .i64 (c : Nat), .int .i64 (e3 : Nat)]) ∧ BoxT w' g s p3 ∧ W.grownBy w' (some g)) := Lib.hid (fun W h => by
    have := HBT.out W p2 4 (by omega) h HP2.out
    unfold RetBits at this
    rw [← h3] at this
    exact this)
  have HBAD : Hid (e1 ≠ 0 ∨ e2 ≠ 0 ∨ e3 ≠ 0 → D.2.2.1 = 2) := Lib.hid (fun h => by rw [hD]; exact dyn_bad h1.symm h2.symm h3.symm h)
  have HGOOD : Hid (e1 = 0 → e2 = 0 → e3 = 0 → D = dynM (numS s) (8 * s.size) a b c (0, p3)) := Lib.hid (fun q1 q2 q3 => by subst q1 q2 q3; rw [hD]; exact dyn_good h1.symm h2.symm h3.symm)
  have HR0 : Hid (∀ w1 : World, (w.alloc (.cells #[Value.bool fin, .int .i64 (k : Nat), .int .i64 0, .slice none 0 0, .slice none 0 0] 60)).alloc (.cells #[Value.bool false, .int .i64 0, .int .i64 0, .slice none 0 0, .slice none 0 0] 60) = w1 → Own w1 (w.heap.size + 1) 60 (.slice (some ⟨w.heap.size + 1, 0, none⟩) 5 5) zH.toList ∧ Own w1 w.heap.size 60 (.slice (some ⟨w.heap.size, 0, none⟩) 5 5) [Value.bool fin, .int .i64 (k : Nat), .int .i64 (0 : Nat), .slice none 0 0, .slice none 0 0] ∧ BoxT w1 g s p ∧ Below w.heap.size w w1) := Lib.hid (fun w1 e => by
    subst e
    have h1 := own_lit (w.alloc (.cells #[Value.bool fin, .int .i64 (k : Nat), .int .i64 0, .slice none 0 0, .slice none 0 0] 60)) (w.heap.size + 1) zH 60 (by simp [zH]) (by simp)
    have h2 := (own_lit w w.heap.size #[Value.bool fin, .int .i64 (k : Nat), .int .i64 0, .slice none 0 0, .slice none 0 0] 60 (by simp) (Nat.le_refl _)).up (below_alloc _ (.cells zH 60))
    refine ⟨by simpa [zH] using h1, by simpa [zH] using h2, HB.out.up (by repeat (first | exact Below.refl _ _ | assumption | refine b_drewN ?_ _ | refine Below.drew ?_ | refine b_ext' ?_ _ | refine b_alloc' ?_ _)), (by repeat (first | exact Below.refl _ _ | assumption | refine b_drewN ?_ _ | refine Below.drew ?_ | refine b_ext' ?_ _ | refine b_alloc' ?_ _))⟩)
  clear hD h h1 h2 h3
  unfold RetHR
  go_enter Tryz.func45, Tryz.ntmps45
  go_upto_region 4 with (go_at_call 31; first | ((obtain ⟨hr0, hh0, hx0, hbl0⟩ := HR0.out _ rfl); (with_reducible refine (HB1.out _ hx0).mono ?_); rintro e w1 ⟨rfl, hb1, hg1⟩; (have hne1 := hbl0.size; have HR_w1 := Lib.hid (hr0.keepN hg1 (fun e => by injection e with e; omega)); have HH_w1 := Lib.hid (hh0.keepN hg1 (fun e => by injection e with e; omega)); have HG_w1 := Lib.hid (grown_trans (grown_below hbl0 (some g)) hg1); have HX_w1 := Lib.hid hb1; have HC2 := Lib.hid (HB2.out w1 hb1); clear hr0 hh0 hx0 hbl0 hb1 hg1 HR0 HB1)) | ((with_reducible refine HC2.out.mono ?_); rintro e w2 ⟨rfl, hb1, hg1⟩; (have HR_w2 := Lib.hid (HR_w1.out.keepN hg1 (fun e => by injection e with e; omega)); have HH_w2 := Lib.hid (HH_w1.out.keepN hg1 (fun e => by injection e with e; omega)); have HG_w2 := Lib.hid (grown_trans HG_w1.out hg1); have HX_w2 := Lib.hid hb1; have HC3 := Lib.hid (HB3.out w2 hb1); clear hb1 hg1 HC2)) | ((with_reducible refine HC3.out.mono ?_); rintro e w3 ⟨rfl, hb1, hg1⟩; (have HR_w3 := Lib.hid (HR_w2.out.keepN hg1 (fun e => by injection e with e; omega)); have HH_w3 := Lib.hid (HH_w2.out.keepN hg1 (fun e => by injection e with e; omega)); have HG_w3 := Lib.hid (grown_trans HG_w2.out hg1); have HX_w3 := Lib.hid hb1; clear hb1 hg1 HC3)))
  clear HR_w1 HH_w1 HG_w1 HX_w1 HR_w2 HH_w2 HG_w2 HX_w2 HB2 HB3
  have hs3 := HG_w3.out.size
  by_cases he : e1 ≠ 0 ∨ e2 ≠ 0 ∨ e3 ≠ 0
  · have HDE := Lib.hid (HBAD.out he)
    have HNE : Hid (¬ (2 : Nat) = 0) := Lib.hid (by decide)
    clear HBAD HGOOD HRW HBT
    by_cases q1 : e1 = 0
    · subst q1
      by_cases q2 : e2 = 0
      · subst q2
        have q3 : ((e3 : Int) != 0) = true := by have : e3 ≠ 0 := by omega
                                                 simpa using this
        clear he
        go_wp2_with (refine wpList_store_agg rfl 60 _ _ rfl (w.heap.size + 1) 60 (w.heap.size + 1) 5 5 rfl zH rfl (by kernel_rfl) _ HR_w3.out (by simp [zH]) zH_one ?_; intro wz hownz hgz; (have HGZ := Lib.hid hgz; have HRZ : Hid (Own wz (w.heap.size + 1) 60 (.slice (some ⟨w.heap.size + 1, 0, none⟩) 5 5) zH.toList) := Lib.hid hownz; clear hownz hgz))
        refine ret_cell_tmp (s := 4) (b := 5) (ad := ⟨w.heap.size + 1, 0, none⟩) (x := .agg zH) (y := .int .i64 2) rfl rfl rfl rfl (load_whole (n := 5) HRZ.out _ Tryz.underlying60 rfl (by kernel_rfl)) ?_
        have hhz : H = HeadN.zero := by rw [HHD.out, HDE.out]; exact if_neg HNE.out
        rw [hhz, HDE.out]
        have hxz := HX_w3.out.stay HGZ.out (fun e => by injection e with e; omega)
        have hgz := grown_new HG_w3.out HGZ.out (by omega)
        first | exact ⟨_, _, p3, rfl, Own.nil _ _ _, Own.nil _ _ _, hxz, HP3.out, (fun h => absurd h HNE.out), hgz⟩ | exact ⟨_, _, rfl, Own.nil _ _ _, Own.nil _ _ _, p3, hxz, HP3.out, (fun h => absurd h HNE.out), hgz⟩ | exact ⟨_, rfl, Own.nil _ _ _, _, Own.nil _ _ _, p3, hxz, HP3.out, (fun h => absurd h HNE.out), hgz⟩
      · have q2' : ((e2 : Int) != 0) = true := by simpa using q2
        clear he q2
        go_wp2_with (refine wpList_store_agg rfl 60 _ _ rfl (w.heap.size + 1) 60 (w.heap.size + 1) 5 5 rfl zH rfl (by kernel_rfl) _ HR_w3.out (by simp [zH]) zH_one ?_; intro wz hownz hgz; (have HGZ := Lib.hid hgz; have HRZ : Hid (Own wz (w.heap.size + 1) 60 (.slice (some ⟨w.heap.size + 1, 0, none⟩) 5 5) zH.toList) := Lib.hid hownz; clear hownz hgz))
        refine ret_cell_tmp (s := 4) (b := 5) (ad := ⟨w.heap.size + 1, 0, none⟩) (x := .agg zH) (y := .int .i64 2) rfl rfl rfl rfl (load_whole (n := 5) HRZ.out _ Tryz.underlying60 rfl (by kernel_rfl)) ?_
        have hhz : H = HeadN.zero := by rw [HHD.out, HDE.out]; exact if_neg HNE.out
        rw [hhz, HDE.out]
        have hxz := HX_w3.out.stay HGZ.out (fun e => by injection e with e; omega)
        have hgz := grown_new HG_w3.out HGZ.out (by omega)
        first | exact ⟨_, _, p3, rfl, Own.nil _ _ _, Own.nil _ _ _, hxz, HP3.out, (fun h => absurd h HNE.out), hgz⟩ | exact ⟨_, _, rfl, Own.nil _ _ _, Own.nil _ _ _, p3, hxz, HP3.out, (fun h => absurd h HNE.out), hgz⟩ | exact ⟨_, rfl, Own.nil _ _ _, _, Own.nil _ _ _, p3, hxz, HP3.out, (fun h => absurd h HNE.out), hgz⟩
    · have q1' : ((e1 : Int) != 0) = true := by simpa using q1
      clear he q1
      go_wp2_with (refine wpList_store_agg rfl 60 _ _ rfl (w.heap.size + 1) 60 (w.heap.size + 1) 5 5 rfl zH rfl (by kernel_rfl) _ HR_w3.out (by simp [zH]) zH_one ?_; intro wz hownz hgz; (have HGZ := Lib.hid hgz; have HRZ : Hid (Own wz (w.heap.size + 1) 60 (.slice (some ⟨w.heap.size + 1, 0, none⟩) 5 5) zH.toList) := Lib.hid hownz; clear hownz hgz))
      refine ret_cell_tmp (s := 4) (b := 5) (ad := ⟨w.heap.size + 1, 0, none⟩) (x := .agg zH) (y := .int .i64 2) rfl rfl rfl rfl (load_whole (n := 5) HRZ.out _ Tryz.underlying60 rfl (by kernel_rfl)) ?_
      have hhz : H = HeadN.zero := by rw [HHD.out, HDE.out]; exact if_neg HNE.out
      rw [hhz, HDE.out]
      have hxz := HX_w3.out.stay HGZ.out (fun e => by injection e with e; omega)
      have hgz := grown_new HG_w3.out HGZ.out (by omega)
      first | exact ⟨_, _, p3, rfl, Own.nil _ _ _, Own.nil _ _ _, hxz, HP3.out, (fun h => absurd h HNE.out), hgz⟩ | exact ⟨_, _, rfl, Own.nil _ _ _, Own.nil _ _ _, p3, hxz, HP3.out, (fun h => absurd h HNE.out), hgz⟩ | exact ⟨_, rfl, Own.nil _ _ _, _, Own.nil _ _ _, p3, hxz, HP3.out, (fun h => absurd h HNE.out), hgz⟩
  · obtain ⟨q1, q2, q3⟩ : e1 = 0 ∧ e2 = 0 ∧ e3 = 0 := by omega
    subst q1 q2 q3
    have HDM := Lib.hid (HGOOD.out rfl rfl rfl)
    clear HBAD HGOOD he
    by_cases hbig : 286 < 257 + a ∨ 30 < 1 + b
    · have HDE : Hid (D.2.2.1 = 3) := Lib.hid (by rw [HDM.out, dynM_big hbig])
      have HNE : Hid (¬ (3 : Nat) = 0) := Lib.hid (by decide)
      clear HDM HRW HBT
      by_cases hb1 : 286 < 257 + a
      · have hi : (a : Int) + 257 > 286 := by omega
        clear hbig
        go_wp2_with (refine wpList_store_agg rfl 60 _ _ rfl (w.heap.size + 1) 60 (w.heap.size + 1) 5 5 rfl zH rfl (by kernel_rfl) _ HR_w3.out (by simp [zH]) zH_one ?_; intro wz hownz hgz; (have HGZ := Lib.hid hgz; have HRZ : Hid (Own wz (w.heap.size + 1) 60 (.slice (some ⟨w.heap.size + 1, 0, none⟩) 5 5) zH.toList) := Lib.hid hownz; clear hownz hgz))
        refine ret_cell_tmp (s := 4) (b := 5) (ad := ⟨w.heap.size + 1, 0, none⟩) (x := .agg zH) (y := .int .i64 3) rfl rfl rfl rfl (load_whole (n := 5) HRZ.out _ Tryz.underlying60 rfl (by kernel_rfl)) ?_
        have hhz : H = HeadN.zero := by rw [HHD.out, HDE.out]; exact if_neg HNE.out
        rw [hhz, HDE.out]
        have hxz := HX_w3.out.stay HGZ.out (fun e => by injection e with e; omega)
        have hgz := grown_new HG_w3.out HGZ.out (by omega)
        first | exact ⟨_, _, p3, rfl, Own.nil _ _ _, Own.nil _ _ _, hxz, HP3.out, (fun h => absurd h HNE.out), hgz⟩ | exact ⟨_, _, rfl, Own.nil _ _ _, Own.nil _ _ _, p3, hxz, HP3.out, (fun h => absurd h HNE.out), hgz⟩ | exact ⟨_, rfl, Own.nil _ _ _, _, Own.nil _ _ _, p3, hxz, HP3.out, (fun h => absurd h HNE.out), hgz⟩
      · have hi : ¬ (a : Int) + 257 > 286 := by omega
        have hi2 : (b : Int) + 1 > 30 := by omega
        clear hbig
        go_wp2_with (refine wpList_store_agg rfl 60 _ _ rfl (w.heap.size + 1) 60 (w.heap.size + 1) 5 5 rfl zH rfl (by kernel_rfl) _ HR_w3.out (by simp [zH]) zH_one ?_; intro wz hownz hgz; (have HGZ := Lib.hid hgz; have HRZ : Hid (Own wz (w.heap.size + 1) 60 (.slice (some ⟨w.heap.size + 1, 0, none⟩) 5 5) zH.toList) := Lib.hid hownz; clear hownz hgz))
        refine ret_cell_tmp (s := 4) (b := 5) (ad := ⟨w.heap.size + 1, 0, none⟩) (x := .agg zH) (y := .int .i64 3) rfl rfl rfl rfl (load_whole (n := 5) HRZ.out _ Tryz.underlying60 rfl (by kernel_rfl)) ?_
        have hhz : H = HeadN.zero := by rw [HHD.out, HDE.out]; exact if_neg HNE.out
        rw [hhz, HDE.out]
        have hxz := HX_w3.out.stay HGZ.out (fun e => by injection e with e; omega)
        have hgz := grown_new HG_w3.out HGZ.out (by omega)
        first | exact ⟨_, _, p3, rfl, Own.nil _ _ _, Own.nil _ _ _, hxz, HP3.out, (fun h => absurd h HNE.out), hgz⟩ | exact ⟨_, _, rfl, Own.nil _ _ _, Own.nil _ _ _, p3, hxz, HP3.out, (fun h => absurd h HNE.out), hgz⟩ | exact ⟨_, rfl, Own.nil _ _ _, _, Own.nil _ _ _, p3, hxz, HP3.out, (fun h => absurd h HNE.out), hgz⟩
    · have hla : 257 + a ≤ 286 := by omega
      have hlb : 1 + b ≤ 30 := by omega
      have hi : ¬ (a : Int) + 257 > 286 := by omega
      have hi2 : ¬ (b : Int) + 1 > 30 := by omega
      have HDL : Hid (D = dynL (numS s) (8 * s.size) a b (codeK (numS s) (8 * s.size) c 19 (List.replicate 19 0, (0, p3)))) := Lib.hid (by rw [HDM.out]; unfold dynM; rw [if_neg hbig])
      clear HDM hbig
      have hmk : ∀ W : World, (Instr.makeSlice 35 (.int .i64 19) (.int .i64 19)).run Tryz.prog W = .ok (.slice (some ⟨W.heap.size, 0, none⟩) 19 19) (W.alloc (.cells (madeCells #[Value.int .i64 0] 19) 3)) := run_mk (P := Tryz.prog) 35 3 (.int .i64 0) 8 19 Tryz.underlying35 (by kernel_rfl) rfl (by decide) (by omega)
      have hom := own_made w3 w.heap.size 3 (.int .i64 0) 19 hs3 (by decide)
      have hzl : List.replicate 19 (Value.int .i64 0) = ints (nls (List.replicate 19 0)) := rfl
      rw [hzl] at hom
      clear hzl
      obtain ⟨Z, hZ⟩ : ∃ Z, Z = List.replicate 19 0 := ⟨_, rfl⟩
      rw [← hZ] at hom HDL
      have HZ : Hid (Z.length = 19) := Lib.hid (by rw [hZ]; rfl)
      have HOM := Lib.hid hom
      have HB4 := Lib.hid (below_alloc w3 (.cells (madeCells #[Value.int .i64 0] 19) 3))
      clear hZ hom
      generalize madeCells #[Value.int .i64 0] 19 = MC at *
      have HSTEP := Lib.hid (fun j => codeK_step (numS s) (8 * s.size) c j (Z, (0, p3)))
      have HCL := Lib.hid (fun j => codeK_len (numS s) (8 * s.size) c (Z, (0, p3)) j)
      have HFIX := Lib.hid (fun j h d => codeK_fix (numS s) (8 * s.size) c (Z, (0, p3)) j h d)
      have HSTAY := Lib.hid (fun d => codeK_stay (numS s) (8 * s.size) c (Z, (0, p3)) d)
      have HK0 : Hid (codeK (numS s) (8 * s.size) c 0 (Z, (0, p3)) = (Z, (0, p3))) := Lib.hid rfl
      have HBS : Hid (∀ (W : World) (p : Nat), BoxT W g s p → p ≤ 8 * s.size → Calls Tryz.prog 31 #[.pointer (some ⟨g, 0, none⟩), .int .i64 3] W (RetBits BoxT s p 3 g W)) := Lib.hid (fun W p hb hp => HBT.out W p 3 (by omega) hb hp)
      clear HBT
      go_wp2_with (go_at_call 69; (with_reducible refine (ordR _).mono ?_); rintro e w5 ⟨vo, rfl, ho5, hb5⟩; (have HOX := Lib.hid ho5; have HOO := Lib.hid (ho5.mono (B' := w.heap.size) (Nat.le_trans hs3 HB4.out.size)); have HB5 := Lib.hid hb5; clear ho5 hb5))
      have hol : (ints (nls ordN)).length = 19 := rfl
      obtain ⟨oo, co, go, hvo, hdo, -⟩ := HOO.out.cases
      rw [hol] at hvo hdo
      obtain rfl := hdo.hat (by omega)
      subst hvo
      have HO5 := Lib.hid (HOM.out.up HB5.out)
      have HGO : Hid (∀ j, j < 19 → (ints (nls ordN)).getD j undef = .int .i64 (ordN.getD j 0 : Nat)) := Lib.hid (fun j hj => by have hl : j < ordN.length := hj; simp [ints, nls, List.getD, hl])
      have HOL := Lib.hid hol
      have hixo := fun (W : World) (j : Nat) (hj : j < 19) => index_any (P := Tryz.prog) 35 3 Tryz.underlying35 (by kernel_rfl) hdo W .i64 (j : Int) (by omega) (by omega)
      simp only [Nat.zero_add, Int.toNat_natCast] at hixo
      have hdc : Hd w5 (some ⟨w3.heap.size, 0, none⟩) 19 19 w3.heap.size 0 := ⟨fun _ => rfl, Nat.le_refl _, by decide, by decide, fun _ => Nat.lt_of_lt_of_le (by simp) HB5.out.size⟩
      have hixc := fun (W : World) (j : Nat) (hj : j < 19) => index_any (P := Tryz.prog) 35 3 Tryz.underlying35 (by kernel_rfl) hdc W .i64 (j : Int) (by omega) (by omega)
      simp only [Nat.zero_add, Int.toNat_natCast] at hixc
      have HIXO := Lib.hid hixo
      have HIXC := Lib.hid hixc
      have HNEB : Hid (go ≠ w3.heap.size) := Lib.hid (by
        have h1 : w3.heap.size < (w3.alloc (.cells MC 3)).heap.size := by simp
        have h2 := (HOX.out.lt go rfl).1
        omega)
      clear HOX
      have HR5 := Lib.hid ((HR_w3.out.up HB4.out).up HB5.out)
      have HH5 := Lib.hid ((HH_w3.out.up HB4.out).up HB5.out)
      have HX5 := Lib.hid ((HX_w3.out.up HB4.out).up HB5.out)
      have HG5 : Hid (w.grownBy w5 (some g)) := Lib.hid (grown_trans (grown_trans HG_w3.out (grown_below HB4.out _)) (grown_below HB5.out _))
      have hgs4 : w.heap.size + 1 < w3.heap.size := (HR_w3.out.lt _ rfl).2
      clear HOM HB4 HB5 hmk HR_w3 HH_w3 HX_w3 HG_w3 hixo hixc hdc hdo hol
      have hgs3 : w.heap.size ≤ w3.heap.size := hs3
      clear hs3
      generalize w3.heap.size = gc at *
      go_loopg [14] 20 (fun gk i wr => ∃ j pj L, j ≤ 4 + c ∧ i = .int .i64 (j : Nat) ∧ Hid (codeK (numS s) (8 * s.size) c j (Z, (0, p3)) = (L, (0, pj))) ∧ Own wr w.heap.size 3 (.slice (some ⟨gc, 0, none⟩) 19 19) (ints (nls L)) ∧ Own wr w.heap.size 3 (.slice (some ⟨go, 0, none⟩) 19 co) (ints (nls ordN)) ∧ BoxT wr g s pj ∧ pj ≤ 8 * s.size ∧ w.grownBy wr (some g) ∧ Own wr (w.heap.size + 1) 60 (.slice (some ⟨w.heap.size + 1, 0, none⟩) 5 5) zH.toList ∧ Own wr w.heap.size 60 (.slice (some ⟨w.heap.size, 0, none⟩) 5 5) [Value.bool fin, .int .i64 (k : Nat), .int .i64 (0 : Nat), .slice none 0 0, .slice none 0 0] ∧ gk = 20 - j)
      case atStart => exact ⟨0, p3, Z, Nat.zero_le _, rfl, HK0, HO5.out, HOO.out, HX5.out, HP3.out, HG5.out, HR5.out, HH5.out, rfl⟩
      case round =>
        clear HO5 HOO HX5 HG5 HR5 HH5 HK0
        obtain ⟨j, pj, L, hj, rfl, HK, ho, hoo, hx, hpj, hgr, hr, hh, hgk⟩ := hrel
        have HO := Lib.hid ho
        have HOO := Lib.hid hoo
        have HX := Lib.hid hx
        have HG := Lib.hid hgr
        have HR := Lib.hid hr
        have HH := Lib.hid hh
        have hst := HSTEP.out j
        have hcl := HCL.out j
        rw [HK.out] at hst hcl
        have HLL : Hid (L.length = 19) := Lib.hid (by rw [← HZ.out]; exact hcl)
        clear ho hoo hx hgr hr hh hcl HSTEP HCL HZ
        by_cases hlt : j < 4 + c
        · have hji : (j : Int) < (c : Int) + 4 := by omega
          have hj19 : j < 19 := by omega
          rw [if_pos ⟨hlt, rfl⟩, xb_zero] at hst
          have hy := ordN_lt j
          have HC := Lib.hid (HBS.out _ pj HX.out hpj)
          have HPJ := Lib.hid (bitsA_le (N := numS s) (n := 3) hpj).1
          have hGO := HGO.out j hj19
          have hixj := fun W => HIXO.out W j hj19
          have hixy := fun W => HIXC.out W (ordN.getD j 0) hy
          unfold RetBits at HC
          clear HBS HGO HIXO HIXC
          generalize bitsA (numS s) (8 * s.size) pj 3 = r at *
          obtain ⟨n, e4, p4⟩ := r
          have HST := Lib.hid hst
          dsimp only at HST HPJ
          clear hst
          generalize ordN.getD j 0 = y at *
          by_cases h4 : e4 = 0
          · subst h4
            have HSL : Hid ((ints (nls L)).set y (.int .i64 (n : Nat)) = ints (nls (L.set y n))) := Lib.hid (by rw [ints_set', nls_set])
            go_wp2_with (go_at_call 31; (with_reducible refine HC.out.mono ?_); rintro e w6 ⟨rfl, hb1, hg1⟩; (have HX6 := Lib.hid hb1; have HG6 := Lib.hid (grown_trans HG.out hg1); have HO6 := Lib.hid (HO.out.keepN hg1 (fun e => by injection e with e; omega)); have HOO6 := Lib.hid (HOO.out.keepN hg1 (fun e => by have := (HOO.out.lt go rfl).1; injection e with e; omega)); have HR6 := Lib.hid (HR.out.keepN hg1 (fun e => by injection e with e; omega)); have HH6 := Lib.hid (HH.out.keepN hg1 (fun e => by injection e with e; omega)); have hcj := HOO6.out.cell (i := j) hj19; rw [hGO] at hcj; have hgo6 := (HOO6.out.lt go rfl).2; have hgc6 := (HO6.out.lt gc rfl).2; have hf6 := HO6.out.free y; have hcy := HO6.out.cell (i := y) (by rw [ints_nls_len, HLL.out]; exact hy); have HSET := Lib.hid (HO6.out.store y (.int .i64 (n : Nat))); clear hb1 hg1))
            have hwg := HG6.out.size
            have hgob := (HOO6.out.lt go rfl).1
            have hngo := HNEB.out
            go_roundg (20 - (j + 1))
            case measure => omega
            case rel =>
              have hset := HSET.out
              rw [HSL.out] at hset
              have hcoh : ∀ (b' : Nat), b' ≠ gc → some gc ≠ some b' := fun b' h e => h (by injection e with e; exact e.symm)
              exact ⟨j + 1, p4, L.set y n, by omega, by go_num, HST, hset.1, HOO6.out.keepN hset.2 (hcoh _ hngo), HX6.out.stay hset.2 (hcoh _ (by omega)), HPJ.out, grown_new HG6.out hset.2 hgs3, HR6.out.keepN hset.2 (hcoh _ (by omega)), HH6.out.keepN hset.2 (hcoh _ (by omega)), rfl⟩
          · have h4' : ((e4 : Int) != 0) = true := by simpa using h4
            have HDE : Hid (D.2.2.1 = e4) := Lib.hid (by
              have hk := HST.out
              have hf := HFIX.out (j + 1) (by rw [hk]; exact h4) (19 - (j + 1))
              rw [show j + 1 + (19 - (j + 1)) = 19 by omega, hk] at hf
              rw [HDL.out, hf]
              unfold dynL
              rw [if_pos (by exact h4)])
            have HNE := Lib.hid h4
            clear h4 HST HDL HFIX HSTAY HRW HOO
            go_wp2_with (first | (go_at_call 31; (with_reducible refine HC.out.mono ?_); rintro e w6 ⟨rfl, hb1, hg1⟩; (have HX6 := Lib.hid hb1; have HG6 := Lib.hid (grown_trans HG.out hg1); have HR6 := Lib.hid (HR.out.keepN hg1 (fun e => by injection e with e; omega)); clear hb1 hg1)) | (refine wpList_store_agg rfl 60 _ _ rfl (w.heap.size + 1) 60 (w.heap.size + 1) 5 5 rfl zH rfl (by kernel_rfl) _ HR6.out (by simp [zH]) zH_one ?_; intro wz hownz hgz; (have HGZ := Lib.hid hgz; have HRZ : Hid (Own wz (w.heap.size + 1) 60 (.slice (some ⟨w.heap.size + 1, 0, none⟩) 5 5) zH.toList) := Lib.hid hownz; clear hownz hgz)))
            refine ret_cell_tmp (s := 4) (b := 5) (ad := ⟨w.heap.size + 1, 0, none⟩) (x := .agg zH) (y := .int .i64 (e4 : Nat)) rfl rfl rfl rfl (load_whole (n := 5) HRZ.out _ Tryz.underlying60 rfl (by kernel_rfl)) ?_
            have hhz : H = HeadN.zero := by rw [HHD.out, HDE.out]; exact if_neg HNE.out
            rw [hhz, HDE.out]
            have hxz := HX6.out.stay HGZ.out (fun e => by injection e with e; omega)
            have hgz := grown_new HG6.out HGZ.out (by omega)
            first | exact ⟨_, _, p4, rfl, Own.nil _ _ _, Own.nil _ _ _, hxz, HPJ.out, (fun h => absurd h HNE.out), hgz⟩ | exact ⟨_, _, rfl, Own.nil _ _ _, Own.nil _ _ _, p4, hxz, HPJ.out, (fun h => absurd h HNE.out), hgz⟩ | exact ⟨_, rfl, Own.nil _ _ _, _, Own.nil _ _ _, p4, hxz, HPJ.out, (fun h => absurd h HNE.out), hgz⟩
        · obtain rfl : j = 4 + c := by omega
          have hji : ¬ ((4 + c : Nat) : Int) < (c : Int) + 4 := by omega
          have hjj : ((4 + c : Nat) : Int) = 4 + (c : Int) := by omega
          have HDK : Hid (D = dynL (numS s) (8 * s.size) a b (L, (0, pj))) := Lib.hid (by
            have h := HSTAY.out (15 - c)
            rw [show 4 + c + (15 - c) = 19 by omega, HK.out] at h
            rw [HDL.out, h])
          clear HDL HSTAY HFIX HK hst HBS HGO HIXO HIXC HOO hlt
          have HFC := Lib.hid (fitsR (.slice (some ⟨gc, 0, none⟩) 19 19) (nls L) false wr (show IntsAt wr _ (nls L) from HO.out.sl))
          have HFE := Lib.hid (fun h => fitsE_bad (l := nls L) false h)
          have hhd := HDK.out
          unfold dynL at hhd
          dsimp only at hhd
          have hen0 : ¬ ((0 : Nat) ≠ 0) := fun h => h rfl
          rw [if_neg hen0] at hhd
          have HD2 := Lib.hid hhd
          clear HDK hhd hen0
          generalize hFF : fitsE (nls L) false = F at *
          by_cases hF : F = 0
          · have hE : errI (nls L) = 0 := by
              apply Classical.byContradiction; intro hn
              have := HFE.out hn
              omega
            subst hF
            have HD3 : Hid (D = if (rowN (numS s) (8 * s.size) L (257 + a + (1 + b)) (257 + a + (1 + b) + 1) [] (0, pj)).2.1 ≠ 0 then ([], [], (rowN (numS s) (8 * s.size) L (257 + a + (1 + b)) (257 + a + (1 + b) + 1) [] (0, pj)).2) else ((rowN (numS s) (8 * s.size) L (257 + a + (1 + b)) (257 + a + (1 + b) + 1) [] (0, pj)).1.take (257 + a), (rowN (numS s) (8 * s.size) L (257 + a + (1 + b)) (257 + a + (1 + b) + 1) [] (0, pj)).1.drop (257 + a), fits2 ((rowN (numS s) (8 * s.size) L (257 + a + (1 + b)) (257 + a + (1 + b) + 1) [] (0, pj)).1.take (257 + a)) ((rowN (numS s) (8 * s.size) L (257 + a + (1 + b)) (257 + a + (1 + b) + 1) [] (0, pj)).1.drop (257 + a)), (rowN (numS s) (8 * s.size) L (257 + a + (1 + b)) (257 + a + (1 + b) + 1) [] (0, pj)).2.2)) := Lib.hid (by rw [HD2.out, if_neg (fun h => h rfl)])
            clear HD2 HFE hFF
            obtain ⟨r, hr⟩ : ∃ r, r = rowN (numS s) (8 * s.size) L (257 + a + (1 + b)) (257 + a + (1 + b) + 1) [] (0, pj) := ⟨_, rfl⟩
            have HRL : Hid (r.2.1 = 0 → r.1.length = 257 + a + (1 + b)) := Lib.hid (fun h => by rw [hr] at h ⊢; exact rowN_len _ _ _ _ _ _ _ (Nat.zero_le _) (by simp) h)
            have hnn : ((257 + a : Nat) : Int) + (b : Int) + 1 = ((257 + a + (1 + b) : Nat) : Int) := by omega
            have hlad : (a : Int) + 257 = ((257 + a : Nat) : Int) := by omega
            have HROW : Hid (∀ W, BoxT W g s pj → Own W w.heap.size 3 (.slice (some ⟨gc, 0, none⟩) 19 19) (ints (nls L)) → w.heap.size ≤ W.heap.size → Calls Tryz.prog 71 #[.pointer (some ⟨g, 0, none⟩), .slice (some ⟨gc, 0, none⟩) 19 19, .int .i64 ((257 + a + (1 + b) : Nat) : Int)] W (RetRowR r s g W)) := Lib.hid (fun W hb hv hB => by rw [hr]; exact rowRR hb hv hgw hE (by rw [HLL.out]; decide) (by omega) hs hpj)
            rw [← hr] at HD3
            unfold RetRowR at HROW
            clear hr hE HRW
            obtain ⟨R, en6, p6⟩ := r
            dsimp only at HD3 HRL HROW
            have hnr : 257 + a ≤ 257 + a + (1 + b) := by omega
            have hl256 : 256 < 257 + a := by omega
            have hnb : 257 + a + (1 + b) ≤ 400 := by omega
            generalize 257 + a + (1 + b) = nr at *
            generalize 257 + a = la at *
            by_cases h6 : en6 = 0
            · subst h6
              have HD4 : Hid (D = (R.take la, R.drop la, fits2 (R.take la) (R.drop la), p6)) := Lib.hid (by rw [HD3.out]; exact if_neg (fun h => h rfl))
              have HRL2 : Hid (R.length = nr) := Lib.hid (HRL.out rfl)
              clear HD3 HRL
              go_wp2_with (first | (go_at_call 70; (with_reducible refine HFC.out.mono ?_); rintro e w7 ⟨rfl, hb7⟩; (have HB7 := Lib.hid hb7; have HR7 := Lib.hid (HR.out.up hb7); have HH7 := Lib.hid (HH.out.up hb7); have HX7 := Lib.hid (HX.out.up hb7); have HO7 := Lib.hid (HO.out.up hb7); have HG7 := Lib.hid (grown_trans HG.out (grown_below hb7 _)); clear hb7)) | (go_at_call 71; (with_reducible refine (HROW.out w7 HX7.out HO7.out HG7.out.size).mono ?_); rintro e w8 ⟨v8, p8, rfl, ho8, hx8, hp8, hg8⟩; (have HV8 := Lib.hid ho8; have HR8 := Lib.hid (HR7.out.keepN hg8 (fun e => by injection e with e; omega)); have HH8 := Lib.hid (HH7.out.keepN hg8 (fun e => by injection e with e; omega)); have HX8 := Lib.hid hx8; have HP8 := Lib.hid hp8; have HG8 := Lib.hid (grown_trans HG7.out hg8); have hsz7 := HG7.out.size; clear ho8 hx8 hp8 hg8)))
              obtain ⟨hv8, rfl⟩ := HV8.out (by trivial)
              have HW8 := Lib.hid hv8
              have hrl := HRL2.out
              obtain ⟨u1, hu1, hsl1⟩ := hv8.sl.low (P := Tryz.prog) 35 3 Tryz.underlying35 (by kernel_rfl) la (by rw [ints_nls_len]; omega)
              rw [ints_take] at hsl1
              have HL1 := Lib.hid hsl1
              have HN1 : Hid ((ints (nls (R.take la))).length ≤ 4294967296 ∧ (ints (nls (R.drop la))).length ≤ 4294967296) := Lib.hid (by simp [ints, nls]; omega)
              have HLT : Hid (256 < (R.take la).length) := Lib.hid (by rw [List.length_take]; omega)
              have hs8 := HG8.out.size
              have hz7 : w.heap.size + 1 < w7.heap.size := HR7.out.blk.2
              have hz8 : w.heap.size + 1 < w8.heap.size := HR8.out.blk.2
              have hc3 := HH8.out.cell (i := 3) (by simp)
              have hb8 := HH8.out.blk.2
              clear hv8 hsl1 hrl HV8 HR7 HH7 HX7 HO7 HG7 HB7 HFC HROW HR HH HX HO HG
              refine wp_region_tailg [0,1,2,3,4,5] [6,7] [8] (by kernel_rfl) (by kernel_rfl) ?_
              simp only [pick, List.map_cons, List.map_nil, List.getD_cons_zero, List.getD_cons_succ]
              repeat (go_big_quiet_step (fail))
              refine wpQuiet_nil ?_
              have HB9 : Hid (Below w8.heap.size w8 w8.drew) := Lib.hid (b_drew1 (Below.refl _ _))
              generalize w8.drew = w9 at *
              unfold wpAct
              go_wp2_with (at_builtin; refine wpList_app rfl (.tmp 100) (.tmp 104) 35 rfl w.heap.size 3 (.int .i64 0) 8 Tryz.underlying35 (by kernel_rfl) rfl (by decide) (.slice none 0 0) [] rfl (Own.nil _ _ _) u1 (ints (nls (R.take la))) rfl (HL1.out.up HB9.out) (ints_cell _) (by have := HN1.out.1; simpa using this) (Nat.le_trans hs8 HB9.out.size) ?_; intro v1 w10 hown1 hg1 hk1; (have HO10 := Lib.hid hown1; have HB10 : Hid (Below w8.heap.size w8 w10) := Lib.hid (HB9.out.grown hg1 HB9.out.size (fun k hk => by cases hk)); have HK1 := Lib.hid hk1; clear hown1 hg1 hk1))
              refine ⟨ex_ext HB10.out, ?_⟩
              (unfold wpAct; go_wp2; refine ⟨ex_ext HB10.out, ?_⟩)
              unfold wpAct
              rw [List.nil_append] at HO10
              obtain ⟨o1, c1', g1, hv1, -⟩ := HO10.out.cases
              subst hv1
              generalize (ints (nls (R.take la))).length = n1 at *
              have HR10 := Lib.hid (HR8.out.up HB10.out)
              have HH10 := Lib.hid (HH8.out.up HB10.out)
              have HX10 := Lib.hid (HX8.out.up HB10.out)
              have HG10 : Hid (w.grownBy w10 (some g)) := Lib.hid (grown_trans HG8.out (grown_below HB10.out _))
              have HW10 := Lib.hid (HW8.out.up HB10.out)
              have hg1' : ∀ q, (Value.slice o1 n1 c1').ownBlock = some q → w8.heap.size ≤ q := fun q hq => by
                rcases HK1.out q hq with h | h
                · cases h
                · exact Nat.le_trans HB9.out.size h
              have HO1K := Lib.hid hg1'
              clear hc3 hb8 HR8 HH8 HX8 HG8 HL1 HB9 HB10 HK1 HW8 hg1' hu1
              have hb10 := HH10.out.blk.2
              have hc10 := HH10.out.cell (i := 3) (by simp)
              have hf10 := HH10.out.free 3
              have hst := HH10.out.store 3 (.slice o1 n1 c1')
              have HST := Lib.hid hst
              clear hst
              have hs10 := HG10.out.size
              unfold wpAct
              go_wp2
              refine ⟨trivial, ?_⟩
              unfold wpAct
              have HR11 := Lib.hid (HR10.out.keepN HST.out.2 (fun e => by injection e with e; omega))
              have HH11 := Lib.hid HST.out.1
              have HX11 := Lib.hid (HX10.out.stay HST.out.2 (fun e => by injection e with e; omega))
              have HG11 := Lib.hid (grown_new HG10.out HST.out.2 (Nat.le_refl _))
              have HO11 := Lib.hid (HO10.out.keep HST.out.2 (ne_of_row (fun q hq e => by have := HO1K.out q hq; injection e with e; omega)))
              have HW11 := Lib.hid (HW10.out.keep HST.out.2 (ne_of_row (fun q hq e => by have := (HW10.out.lt q hq).1; injection e with e; omega)))
              clear HST HR10 HH10 HX10 HG10 HO10 HW10 hb10 hc10 hf10
              generalize w10.setCell ⟨w.heap.size, 3, none⟩ (.slice o1 n1 c1') = w11 at *
              have hrl := HRL2.out
              obtain ⟨u2, hu2, hsl2⟩ := HW11.out.sl.high (P := Tryz.prog) 35 3 Tryz.underlying35 (by kernel_rfl) la (by rw [ints_nls_len]; omega)
              rw [ints_drop] at hsl2
              have HL2 := Lib.hid hsl2
              have hz11 : w.heap.size + 1 < w11.heap.size := HR11.out.blk.2
              have hc4 := HH11.out.cell (i := 4) (by simp)
              have hb11 := HH11.out.blk.2
              have hs11 := HG11.out.size
              clear hsl2 HW11 hrl
              go_wp2
              refine wp_region_tailg [0,1,2,3,4,5] [6,7] [8] (by kernel_rfl) (by kernel_rfl) ?_
              simp only [pick, List.map_cons, List.map_nil, List.getD_cons_zero, List.getD_cons_succ]
              repeat (go_big_quiet_step (fail))
              refine wpQuiet_nil ?_
              have HB12 : Hid (Below w11.heap.size w11 w11.drew) := Lib.hid (b_drew1 (Below.refl _ _))
              generalize w11.drew = w12 at *
              unfold wpAct
              go_wp2_with (at_builtin; refine wpList_app rfl (.tmp 108) (.tmp 112) 35 rfl w.heap.size 3 (.int .i64 0) 8 Tryz.underlying35 (by kernel_rfl) rfl (by decide) (.slice none 0 0) [] rfl (Own.nil _ _ _) u2 (ints (nls (R.drop la))) rfl (HL2.out.up HB12.out) (ints_cell _) (by have := HN1.out.2; simpa using this) (Nat.le_trans hs11 HB12.out.size) ?_; intro v2 w13 hown1 hg1 hk1; (have HP13 := Lib.hid hown1; have HB13 : Hid (Below w11.heap.size w11 w13) := Lib.hid (HB12.out.grown hg1 HB12.out.size (fun k hk => by cases hk)); have HK2 := Lib.hid hk1; clear hown1 hg1 hk1))
              refine ⟨ex_ext HB13.out, ?_⟩
              (unfold wpAct; go_wp2; refine ⟨ex_ext HB13.out, ?_⟩)
              unfold wpAct
              rw [List.nil_append] at HP13
              obtain ⟨o2, c2', g2, hv2, -⟩ := HP13.out.cases
              subst hv2
              generalize (ints (nls (R.drop la))).length = n2 at *
              have HR13 := Lib.hid (HR11.out.up HB13.out)
              have HH13 := Lib.hid (HH11.out.up HB13.out)
              have HX13 := Lib.hid (HX11.out.up HB13.out)
              have HO13 := Lib.hid (HO11.out.up HB13.out)
              have HG13 : Hid (w.grownBy w13 (some g)) := Lib.hid (grown_trans HG11.out (grown_below HB13.out _))
              have hg2' : ∀ q, (Value.slice o2 n2 c2').ownBlock = some q → w11.heap.size ≤ q := fun q hq => by
                rcases HK2.out q hq with h | h
                · cases h
                · exact Nat.le_trans HB12.out.size h
              have HO2K := Lib.hid hg2'
              clear hc4 HR11 HH11 HX11 HG11 HL2 HB12 HB13 HK2 hg2' hu2 HO11
              have hb13 := HH13.out.blk.2
              have hc13 := HH13.out.cell (i := 4) (by simp)
              have hf13 := HH13.out.free 4
              have HST := Lib.hid (HH13.out.store 4 (.slice o2 n2 c2'))
              have hs13 := HG13.out.size
              unfold wpAct
              go_wp2
              refine ⟨trivial, ?_⟩
              unfold wpAct
              have HR14 := Lib.hid (HR13.out.keepN HST.out.2 (fun e => by injection e with e; omega))
              have HH14 := Lib.hid HST.out.1
              have HX14 := Lib.hid (HX13.out.stay HST.out.2 (fun e => by injection e with e; omega))
              have HG14 := Lib.hid (grown_new HG13.out HST.out.2 (Nat.le_refl _))
              have HO14 := Lib.hid (HO13.out.keep HST.out.2 (ne_of_row (fun q hq e => by have := HO1K.out q hq; injection e with e; omega)))
              have HP14 := Lib.hid (HP13.out.keep HST.out.2 (ne_of_row (fun q hq e => by have := HO2K.out q hq; injection e with e; omega)))
              clear HST HR13 HH13 HX13 HG13 HO13 HP13 hb13 hc13 hf13
              generalize w13.setCell ⟨w.heap.size, 4, none⟩ (.slice o2 n2 c2') = w14 at *
              have hc3 := HH14.out.cell (i := 3) (by simp)
              have hc4 := HH14.out.cell (i := 4) (by simp)
              have hb14 := HH14.out.blk.2
              have HFT := Lib.hid (fits2R _ _ _ _ w14 (show IntsAt w14 _ _ from HO14.out.sl) (show IntsAt w14 _ _ from HP14.out.sl) HLT.out)
              have HS14 := Lib.hid HG14.out.size
              generalize fits2 (R.take la) (R.drop la) = fe at *
              clear HLT HN1 HRL2
              by_cases hfe : fe = 0
              · subst hfe
                have HDE : Hid (D = (R.take la, R.drop la, 0, p8)) := HD4
                have hhz : H = ⟨fin, k, 0, R.take la, R.drop la⟩ := by rw [HHD.out, HDE.out]; rfl
                have HHZ := Lib.hid hhz
                clear hhz
                go_wp2_with (first | (go_at_call 72; (with_reducible refine HFT.out.mono ?_); rintro e w15 ⟨rfl, hb15⟩; (have HB15 := Lib.hid hb15; have HR15 := Lib.hid (HR14.out.up hb15); have HH15 := Lib.hid (HH14.out.up hb15); obtain ⟨A, hA, hAs, hAl⟩ := HH15.out.whole; have hA1 : ∀ u ∈ A.toList, u.oneCell' = true := (by rw [hAl]; exact head_one fin k 0 o1 o2 n1 n2 c1' c2'); have HAL := Lib.hid hAl; clear hb15 hAl)) | (refine load_box rfl 60 5 _ rfl w.heap.size rfl A hAs hA _ Tryz.underlying60 rfl (by kernel_rfl) ?_) | (refine wpList_store_agg rfl 60 _ _ rfl (w.heap.size + 1) 60 (w.heap.size + 1) 5 5 rfl A rfl (by rw [hAs]; kernel_rfl) _ HR15.out (by rw [hAs]; simp [zH]) hA1 ?_; intro wz hownz hgz; (have HGZ := Lib.hid hgz; have HRZ := Lib.hid hownz; clear hownz hgz)))
                have hr9 := HRZ.out
                rw [hAs, List.drop_of_length_le (by simp [zH]), List.append_nil] at hr9
                refine ret_cell_tmp (s := 4) (b := 5) (ad := ⟨w.heap.size + 1, 0, none⟩) (x := .agg A) (y := .int .i64 0) rfl rfl rfl rfl (load_whole (n := 5) hr9 _ Tryz.underlying60 rfl (by kernel_rfl)) ?_
                have hAe : A = #[.bool fin, .int .i64 (k : Nat), .int .i64 (0 : Nat), .slice o1 n1 c1', .slice o2 n2 c2'] := by
                  rw [← Array.toArray_toList (xs := A), HAL.out]; rfl
                rw [HHZ.out, HDE.out, hAe]
                have hxz := (HX14.out.up HB15.out).stay HGZ.out (fun e => by injection e with e; omega)
                have hgz := grown_new (grown_trans HG14.out (grown_below HB15.out _)) HGZ.out (by omega)
                have hs14 := HS14.out
                have hoz := (HO14.out.up HB15.out).keep HGZ.out (ne_of_row (fun q hq e => by have := HO1K.out q hq; injection e with e; omega))
                have hpz := (HP14.out.up HB15.out).keep HGZ.out (ne_of_row (fun q hq e => by have := HO2K.out q hq; injection e with e; omega))
                first | exact ⟨_, _, p8, rfl, hoz, hpz, hxz, HP8.out, fun _ => rfl, hgz⟩ | exact ⟨_, _, rfl, hoz, hpz, p8, hxz, HP8.out, fun _ => rfl, hgz⟩
              · have hfe' : ((fe : Int) != 0) = true := by simpa using hfe
                have HDE : Hid (D.2.2.1 = fe) := Lib.hid (by rw [HD4.out])
                have HNE := Lib.hid hfe
                clear hfe HD4
                go_wp2_with (first | (go_at_call 72; (with_reducible refine HFT.out.mono ?_); rintro e w15 ⟨rfl, hb15⟩; (have HR15 := Lib.hid (HR14.out.up hb15); have HX15 := Lib.hid (HX14.out.up hb15); have HG15 := Lib.hid (grown_trans HG14.out (grown_below hb15 _)); clear hb15)) | (refine wpList_store_agg rfl 60 _ _ rfl (w.heap.size + 1) 60 (w.heap.size + 1) 5 5 rfl zH rfl (by kernel_rfl) _ HR15.out (by simp [zH]) zH_one ?_; intro wz hownz hgz; (have HGZ := Lib.hid hgz; have HRZ : Hid (Own wz (w.heap.size + 1) 60 (.slice (some ⟨w.heap.size + 1, 0, none⟩) 5 5) zH.toList) := Lib.hid hownz; clear hownz hgz)))
                refine ret_cell_tmp (s := 4) (b := 5) (ad := ⟨w.heap.size + 1, 0, none⟩) (x := .agg zH) (y := .int .i64 (fe : Nat)) rfl rfl rfl rfl (load_whole (n := 5) HRZ.out _ Tryz.underlying60 rfl (by kernel_rfl)) ?_
                have hhz : H = HeadN.zero := by rw [HHD.out, HDE.out]; exact if_neg HNE.out
                rw [hhz, HDE.out]
                have hxz := HX15.out.stay HGZ.out (fun e => by injection e with e; omega)
                have hgz := grown_new HG15.out HGZ.out (by omega)
                first | exact ⟨_, _, p8, rfl, Own.nil _ _ _, Own.nil _ _ _, hxz, HP8.out, (fun h => absurd h HNE.out), hgz⟩ | exact ⟨_, _, rfl, Own.nil _ _ _, Own.nil _ _ _, p8, hxz, HP8.out, (fun h => absurd h HNE.out), hgz⟩ | exact ⟨_, rfl, Own.nil _ _ _, _, Own.nil _ _ _, p8, hxz, HP8.out, (fun h => absurd h HNE.out), hgz⟩
            · have h6' : ((en6 : Int) != 0) = true := by simpa using h6
              have HDE : Hid (D.2.2.1 = en6) := Lib.hid (by rw [HD3.out, if_pos h6])
              have HNE := Lib.hid h6
              clear h6 HD3 HRL
              go_wp2_with (first | (go_at_call 70; (with_reducible refine HFC.out.mono ?_); rintro e w7 ⟨rfl, hb7⟩; (have HB7 := Lib.hid hb7; have HR7 := Lib.hid (HR.out.up hb7); have HH7 := Lib.hid (HH.out.up hb7); have HX7 := Lib.hid (HX.out.up hb7); have HO7 := Lib.hid (HO.out.up hb7); have HG7 := Lib.hid (grown_trans HG.out (grown_below hb7 _)); clear hb7)) | (go_at_call 71; (with_reducible refine (HROW.out w7 HX7.out HO7.out HG7.out.size).mono ?_); rintro e w8 ⟨v8, p8, rfl, ho8, hx8, hp8, hg8⟩; (have HV8 := Lib.hid ho8; have HR8 := Lib.hid (HR7.out.keepN hg8 (fun e => by injection e with e; omega)); have HH8 := Lib.hid (HH7.out.keepN hg8 (fun e => by injection e with e; omega)); have HX8 := Lib.hid hx8; have HP8 := Lib.hid hp8; have HG8 := Lib.hid (grown_trans HG7.out hg8); have hsz7 := HG7.out.size; clear ho8 hx8 hp8 hg8)) | (refine wpList_store_agg rfl 60 _ _ rfl (w.heap.size + 1) 60 (w.heap.size + 1) 5 5 rfl zH rfl (by kernel_rfl) _ HR8.out (by simp [zH]) zH_one ?_; intro wz hownz hgz; (have HGZ := Lib.hid hgz; have HRZ : Hid (Own wz (w.heap.size + 1) 60 (.slice (some ⟨w.heap.size + 1, 0, none⟩) 5 5) zH.toList) := Lib.hid hownz; clear hownz hgz)))
              refine ret_cell_tmp (s := 4) (b := 5) (ad := ⟨w.heap.size + 1, 0, none⟩) (x := .agg zH) (y := .int .i64 (en6 : Nat)) rfl rfl rfl rfl (load_whole (n := 5) HRZ.out _ Tryz.underlying60 rfl (by kernel_rfl)) ?_
              have hhz : H = HeadN.zero := by rw [HHD.out, HDE.out]; exact if_neg HNE.out
              rw [hhz, HDE.out]
              have hxz := HX8.out.stay HGZ.out (fun e => by injection e with e; omega)
              have hgz := grown_new HG8.out HGZ.out (by omega)
              first | exact ⟨_, _, p8, rfl, Own.nil _ _ _, Own.nil _ _ _, hxz, HP8.out, (fun h => absurd h HNE.out), hgz⟩ | exact ⟨_, _, rfl, Own.nil _ _ _, Own.nil _ _ _, p8, hxz, HP8.out, (fun h => absurd h HNE.out), hgz⟩ | exact ⟨_, rfl, Own.nil _ _ _, _, Own.nil _ _ _, p8, hxz, HP8.out, (fun h => absurd h HNE.out), hgz⟩
          · have hF' : ((F : Int) != 0) = true := by simpa using hF
            have HDE : Hid (D.2.2.1 = F) := Lib.hid (by rw [HD2.out, if_pos hF])
            have HNE := Lib.hid hF
            clear hF HD2 HRW HFE hFF
            go_wp2_with (first | (go_at_call 70; (with_reducible refine HFC.out.mono ?_); rintro e w7 ⟨rfl, hb7⟩; (have HB7 := Lib.hid hb7; have HR7 := Lib.hid (HR.out.up hb7); have HH7 := Lib.hid (HH.out.up hb7); have HX7 := Lib.hid (HX.out.up hb7); have HO7 := Lib.hid (HO.out.up hb7); have HG7 := Lib.hid (grown_trans HG.out (grown_below hb7 _)); clear hb7)) | (refine wpList_store_agg rfl 60 _ _ rfl (w.heap.size + 1) 60 (w.heap.size + 1) 5 5 rfl zH rfl (by kernel_rfl) _ HR7.out (by simp [zH]) zH_one ?_; intro wz hownz hgz; (have HGZ := Lib.hid hgz; have HRZ : Hid (Own wz (w.heap.size + 1) 60 (.slice (some ⟨w.heap.size + 1, 0, none⟩) 5 5) zH.toList) := Lib.hid hownz; clear hownz hgz)))
            refine ret_cell_tmp (s := 4) (b := 5) (ad := ⟨w.heap.size + 1, 0, none⟩) (x := .agg zH) (y := .int .i64 (F : Nat)) rfl rfl rfl rfl (load_whole (n := 5) HRZ.out _ Tryz.underlying60 rfl (by kernel_rfl)) ?_
            have hhz : H = HeadN.zero := by rw [HHD.out, HDE.out]; exact if_neg HNE.out
            rw [hhz, HDE.out]
            have hxz := HX7.out.stay HGZ.out (fun e => by injection e with e; omega)
            have hgz := grown_new HG7.out HGZ.out (by omega)
            first | exact ⟨_, _, pj, rfl, Own.nil _ _ _, Own.nil _ _ _, hxz, hpj, (fun h => absurd h HNE.out), hgz⟩ | exact ⟨_, _, rfl, Own.nil _ _ _, Own.nil _ _ _, pj, hxz, hpj, (fun h => absurd h HNE.out), hgz⟩ | exact ⟨_, rfl, Own.nil _ _ _, _, Own.nil _ _ _, pj, hxz, hpj, (fun h => absurd h HNE.out), hgz⟩
end Go.Cm
