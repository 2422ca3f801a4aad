/- Texts of this claim, joined: walks of small functions and plain facts about them. Conditions: as each says. -/
import Derived.Test.YtmophmeiemfikaaGreatBK
import Derived.Test.YtmophmeiemfikaaGreatRows
import Derived.WalkKit
import Derived.WalkSpells
import Derived.WalkLawsBesides
import Derived.Deep.QuietTactic
import Derived.BigQuiet
import Derived.Lib.Hide
import Derived.Laws.BitsLemmas
import Derived.Deep.LoopGhost
import Derived.Laws.Small
import Derived.Deep.DeepCutAuto
import Derived.Deep.CutBlock
import Derived.Deep.CutRange
/- The walks of the document's head and Read. Conditions: the reader is there. -/
namespace Go.Cm
open Go.RowKit Go.Proofs

theorem head_good {N T p a k p1 p2 : Nat} (h1 : bitsA N T p 1 = (a, 0, p1)) (h2 : bitsA N T p1 2 = (k, 0, p2)) : headF N T p = kindN N T p (decide (a = 1)) k (0, p2) := by
  unfold headF
  simp only [xb_zero, h1, h2]
theorem head_bad {N T p a k e1 e2 p1 p2 : Nat} (h1 : bitsA N T p 1 = (a, e1, p1)) (h2 : bitsA N T p1 2 = (k, e2, p2)) (h : e1 ≠ 0 ∨ e2 ≠ 0) : headF N T p = (HeadN.zero, 2, p) := by
  have t1 := bitsA_two (N := N) (T := T) (p := p) (n := 1)
  have t2 := bitsA_two (N := N) (T := T) (p := p1) (n := 2)
  rw [h1] at t1
  rw [h2] at t2
  unfold headF
  by_cases he1 : e1 = 0
  · subst he1
    have he2 : e2 ≠ 0 := by omega
    simp only [xb_zero, h1, h2]
    have e := t2 he2
    simp only at e
    subst e
    exact if_pos (by exact he2)
  · simp only [xb_zero, h1, xb_bad he1]
    have e := t1 he1
    simp only at e
    subst e
    exact if_pos (by exact he1)
set_option maxRecDepth 100000 in
set_option maxHeartbeats 4000000 in
theorem headRR {w : World} {g p : Nat} {s : ByteArray} (h : BoxT w g s p) (hs : s.size ≤ 4294967296) (hp : p ≤ 8 * s.size) :
    Calls Tryz.prog 30 #[.pointer (some ⟨g, 0, none⟩)] w (RetHR (headF (numS s) (8 * s.size) p).1 (headF (numS s) (8 * s.size) p).2.1 (headF (numS s) (8 * s.size) p).2.2 s g w) := by
  have HB := Lib.hid h
  have hgw := h.lt
  have HBT := Lib.hid (fun (W : World) (p n : Nat) (hn : n ≤ 32) (hb : BoxT W g s p) (hp : p ≤ 8 * s.size) => bitsT hb hs n hn hp)
  have HSTO := Lib.hid (fun (W : World) (p k : Nat) (fin : Bool) (hb : BoxT W g s p) (hp : p ≤ 8 * s.size) => storedRR (k := k) (fin := fin) hb hs hp)
  have HDYN := Lib.hid (fun (W : World) (p k : Nat) (fin : Bool) (hb : BoxT W g s p) (hp : p ≤ 8 * s.size) => dynamicRR (k := k) (fin := fin) hb hs hp)
  obtain ⟨D, hD⟩ : ∃ D, D = headF (numS s) (8 * s.size) p := ⟨_, rfl⟩
  rw [← hD]
  obtain ⟨r1, h1⟩ : ∃ r1, r1 = bitsA (numS s) (8 * s.size) p 1 := ⟨_, rfl⟩
  obtain ⟨a, e1, p1⟩ := r1
  obtain ⟨r2, h2⟩ : ∃ r2, r2 = bitsA (numS s) (8 * s.size) p1 2 := ⟨_, rfl⟩
  obtain ⟨k, e2, p2⟩ := r2
  have HP1 : Hid (p1 ≤ 8 * s.size) := Lib.hid (by have := (bitsA_le (N := numS s) (n := 1) hp).1; rw [← h1] at this; exact this)
  have HP2 : Hid (p2 ≤ 8 * s.size) := Lib.hid (by have := (bitsA_le (N := numS s) (n := 2) HP1.out).1; rw [← h2] at this; exact this)
  have ha : a < 2 := by have := bitsA_lt (N := numS s) (T := 8 * s.size) (p := p) (n := 1); rw [← h1] at this; exact this
  have hk : k < 4 := by have := bitsA_lt (N := numS s) (T := 8 * s.size) (p := p1) (n := 2); rw [← h2] at this; exact this
  have HB1 : Hid (∀ W, BoxT W g s p → Calls Tryz.prog 31 #[.pointer (some ⟨g, 0, none⟩), .int .i64 1] W fun e w' => e = .returned (.tuple #[.int .i64 (a : Nat), .int .i64 (e1 : Nat)]) ∧ BoxT w' g s p1 ∧ W.grownBy w' (some g)) := Lib.hid (fun W h => by
    have := HBT.out W p 1 (by omega) h hp
    unfold RetBits at this
    rw [← h1] at this
    exact this)
  have HB2 : Hid (∀ W, BoxT W g s p1 → Calls Tryz.prog 31 #[.pointer (some ⟨g, 0, none⟩), .int .i64 2] W fun e w' => e = .returned (.tuple #[.int .i64 (k : Nat), .int .i64 (e2 : Nat)]) ∧ BoxT w' g s p2 ∧ W.grownBy w' (some g)) := Lib.hid (fun W h => by
    have := HBT.out W p1 2 (by omega) h HP1.out
    unfold RetBits at this
    rw [← h2] at this
    exact this)
  have HBAD : Hid (e1 ≠ 0 ∨ e2 ≠ 0 → D = (HeadN.zero, 2, p)) := Lib.hid (fun h => by rw [hD]; exact head_bad h1.symm h2.symm h)
  have HGOOD : Hid (e1 = 0 → e2 = 0 → D = kindN (numS s) (8 * s.size) p (decide (a = 1)) k (0, p2)) := Lib.hid (fun q1 q2 => by subst q1 q2; rw [hD]; exact head_good h1.symm h2.symm)
  have HR0 : Hid (∀ w1 : World, w.alloc (.cells #[Value.bool false, .int .i64 0, .int .i64 0, .slice none 0 0, .slice none 0 0] 60) = w1 → Own w1 w.heap.size 60 (.slice (some ⟨w.heap.size, 0, none⟩) 5 5) zH.toList ∧ BoxT w1 g s p ∧ Below w.heap.size w w1) := Lib.hid (fun w1 e => by
    subst e
    have h1 := own_lit w w.heap.size zH 60 (by simp [zH]) (Nat.le_refl _)
    exact ⟨by simpa [zH] using h1, HB.out.up (by repeat (first | exact Below.refl _ _ | assumption | refine b_drewN ?_ _ | refine Below.drew ?_ | refine b_ext' ?_ _ | refine b_alloc' ?_ _)), (by repeat (first | exact Below.refl _ _ | assumption | refine b_drewN ?_ _ | refine Below.drew ?_ | refine b_ext' ?_ _ | refine b_alloc' ?_ _))⟩)
  have hfe : ((a : Int) == 1) = decide (a = 1) := by
    by_cases h : a = 1
    · subst h; rfl
    · rw [decide_eq_false h]; simp; omega
  clear hD h h1 h2 HBT
  generalize decide (a = 1) = fn at *
  unfold RetHR
  go_enter Tryz.func30, Tryz.ntmps30
  go_upto_region 3 with (go_at_call 31; first | ((obtain ⟨hr0, hx0, hbl0⟩ := HR0.out _ rfl); (with_reducible refine (HB1.out _ hx0).mono ?_); rintro e w1 ⟨rfl, hb1, hg1⟩; (have hne1 := hbl0.size; have HR_w1 := Lib.hid (hr0.keepN hg1 (fun e => by injection e with e; omega)); have HG_w1 := Lib.hid (grown_trans (grown_below hbl0 (some g)) hg1); have HX_w1 := Lib.hid hb1; have HC2 := Lib.hid (HB2.out w1 hb1); clear hr0 hx0 hbl0 hb1 hg1 HR0 HB1)) | ((with_reducible refine HC2.out.mono ?_); rintro e w3 ⟨rfl, hb1, hg1⟩; (have HR_w3 := Lib.hid (HR_w1.out.keepN hg1 (fun e => by injection e with e; omega)); have HG_w3 := Lib.hid (grown_trans HG_w1.out hg1); have HX_w3 := Lib.hid hb1; clear hb1 hg1 HC2)))
  clear HR_w1 HG_w1 HX_w1 HB2
  have hs3 := HG_w3.out.size
  by_cases he : e1 ≠ 0 ∨ e2 ≠ 0
  · have HDE := Lib.hid (HBAD.out he)
    clear HBAD HGOOD HSTO HDYN
    by_cases q1 : e1 = 0
    · subst q1
      have q2 : ((e2 : Int) != 0) = true := by
        have : e2 ≠ 0 := by omega
        simpa using this
      clear he
      go_wp2_with (refine wpList_store_agg rfl 60 _ _ rfl w.heap.size 60 w.heap.size 5 5 rfl zH rfl (by kernel_rfl) _ HR_w3.out (by simp [zH]) (zH_one) ?_; intro wz hownz hgz; (have HGZ := Lib.hid hgz; have HRZ := Lib.hid hownz; clear hownz hgz))
      have HRY : Hid (Own wz w.heap.size 60 (.slice (some ⟨w.heap.size, 0, none⟩) 5 5) zH.toList) := HRZ
      refine ret_cell_tmp (s := 2) (b := 3) (ad := ⟨w.heap.size, 0, none⟩) (x := .agg zH) (y := .int .i64 2) rfl rfl rfl rfl (load_whole (n := 5) HRY.out _ Tryz.underlying60 rfl (by kernel_rfl)) ?_
      rw [HDE.out]
      have hxz := HX_w3.out.stay HGZ.out (fun e => by injection e with e; omega)
      have hgz := grown_new HG_w3.out HGZ.out (Nat.le_refl _)
      first | exact ⟨_, _, p2, rfl, Own.nil _ _ _, Own.nil _ _ _, hxz, HP2.out, (fun h => by cases h), hgz⟩ | exact ⟨_, _, rfl, Own.nil _ _ _, Own.nil _ _ _, p2, hxz, HP2.out, (fun h => by cases h), hgz⟩
    · have q1' : ((e1 : Int) != 0) = true := by simpa using q1
      clear he q1
      go_wp2_with (refine wpList_store_agg rfl 60 _ _ rfl w.heap.size 60 w.heap.size 5 5 rfl zH rfl (by kernel_rfl) _ HR_w3.out (by simp [zH]) (zH_one) ?_; intro wz hownz hgz; (have HGZ := Lib.hid hgz; have HRZ := Lib.hid hownz; clear hownz hgz))
      have HRY : Hid (Own wz w.heap.size 60 (.slice (some ⟨w.heap.size, 0, none⟩) 5 5) zH.toList) := HRZ
      refine ret_cell_tmp (s := 2) (b := 3) (ad := ⟨w.heap.size, 0, none⟩) (x := .agg zH) (y := .int .i64 2) rfl rfl rfl rfl (load_whole (n := 5) HRY.out _ Tryz.underlying60 rfl (by kernel_rfl)) ?_
      rw [HDE.out]
      have hxz := HX_w3.out.stay HGZ.out (fun e => by injection e with e; omega)
      have hgz := grown_new HG_w3.out HGZ.out (Nat.le_refl _)
      first | exact ⟨_, _, p2, rfl, Own.nil _ _ _, Own.nil _ _ _, hxz, HP2.out, (fun h => by cases h), hgz⟩ | exact ⟨_, _, rfl, Own.nil _ _ _, Own.nil _ _ _, p2, hxz, HP2.out, (fun h => by cases h), hgz⟩
  · obtain ⟨q1, q2⟩ : e1 = 0 ∧ e2 = 0 := by omega
    subst q1 q2
    have HDM := Lib.hid (HGOOD.out rfl rfl)
    clear HBAD HGOOD he
    have hz3 := HR_w3.out.blk.2
    have HA4 : Hid (∀ w1 : World, w3.alloc (.cells #[Value.bool fn, .int .i64 (k : Nat), .int .i64 0, .slice none 0 0, .slice none 0 0] 60) = w1 → Own w1 w3.heap.size 60 (.slice (some ⟨w3.heap.size, 0, none⟩) 5 5) [Value.bool fn, .int .i64 (k : Nat), .int .i64 (0 : Nat), .slice none 0 0, .slice none 0 0] ∧ BoxT w1 g s p2 ∧ Own w1 w.heap.size 60 (.slice (some ⟨w.heap.size, 0, none⟩) 5 5) zH.toList ∧ w.grownBy w1 (some g)) := Lib.hid (fun w1 e => by
      subst e
      have h1 := own_lit w3 w3.heap.size #[Value.bool fn, .int .i64 (k : Nat), .int .i64 0, .slice none 0 0, .slice none 0 0] 60 (by simp) (Nat.le_refl _)
      exact ⟨by simpa using h1, HX_w3.out.up (below_alloc _ _), HR_w3.out.up (below_alloc _ _), grown_trans HG_w3.out (grown_below (below_alloc _ _) _)⟩)
    have hd := HDM.out
    unfold kindN at hd
    rw [if_neg (fun h => h rfl)] at hd
    clear HDM
    by_cases hk0 : k = 0
    · subst hk0
      rw [if_pos rfl] at hd
      have HST : Hid (∀ W, BoxT W g s p2 → Calls Tryz.prog 42 #[.pointer (some ⟨g, 0, none⟩), .agg #[.bool fn, .int .i64 0, .int .i64 0, .slice none 0 0, .slice none 0 0]] W (RetHR (if (storedN (numS s) (8 * s.size) (0, p2)).2.1 = 0 then ⟨fn, 0, (storedN (numS s) (8 * s.size) (0, p2)).1, [], []⟩ else HeadN.zero) (storedN (numS s) (8 * s.size) (0, p2)).2.1 (storedN (numS s) (8 * s.size) (0, p2)).2.2 s g W)) := Lib.hid (fun W hb => HSTO.out W p2 0 fn hb HP2.out)
      generalize storedN (numS s) (8 * s.size) (0, p2) = sn at *
      obtain ⟨sz, er, pf⟩ := sn
      dsimp only at hd HST
      obtain ⟨H', hH'⟩ : ∃ H', H' = if er = 0 then (⟨fn, 0, sz, [], []⟩ : HeadN) else HeadN.zero := ⟨_, rfl⟩
      rw [← hH'] at HST
      have HE1 : Hid (D.1 = H') := Lib.hid (by
        rw [hd, hH']
        by_cases h : er = 0
        · rw [if_neg (fun z => z h), if_pos h]
        · rw [if_pos h, if_neg h])
      have HE2 : Hid (D.2.1 = er) := Lib.hid (by
        rw [hd]
        by_cases h : er = 0
        · rw [if_neg (fun z => z h), h]
        · rw [if_pos h])
      have HE3 : Hid (er = 0 → D.2.2 = pf) := Lib.hid (fun h => by rw [hd, if_neg (fun z => z h)])
      clear hd hH' HSTO HDYN
      go_wp2_with (first | (go_at_call 42; (obtain ⟨hh0, hx0, hr0, hg0⟩ := HA4.out _ rfl); (refine (HST.out _ hx0).mono ?_); rintro e w5 ⟨v1, v2, p5, rfl, ho1, ho2, hx5, hp5, hpe, hg5⟩; (have hl4 := hr0.blk.2; have HR5 := Lib.hid (hr0.keepN hg5 (fun e => by injection e with e; omega)); have HG5 := Lib.hid (grown_trans hg0 hg5); have HX5 := Lib.hid hx5; have HP5 := Lib.hid hp5; have HPE := Lib.hid hpe; have HO1 := Lib.hid ho1; have HO2 := Lib.hid ho2; obtain ⟨o1, c1, g1, hv1, -⟩ := ho1.cases; obtain ⟨o2, c2, g2, hv2, -⟩ := ho2.cases; subst hv1 hv2; generalize (ints (nls H'.lits)).length = n1 at *; generalize (ints (nls H'.dists)).length = n2 at *; clear hh0 hx0 hr0 hg0 ho1 ho2 hx5 hp5 hpe hg5)) | (refine wpList_store_agg rfl 60 _ _ rfl w.heap.size 60 w.heap.size 5 5 rfl #[.bool H'.fin, .int .i64 (H'.kind : Nat), .int .i64 (H'.size : Nat), .slice o1 n1 c1, .slice o2 n2 c2] rfl (by kernel_rfl) _ HR5.out (by simp [zH]) (head_one _ _ _ _ _ _ _ _ _) ?_; intro wz hownz hgz; (have HGZ := Lib.hid hgz; have HRZ := Lib.hid hownz; clear hownz hgz)))
      have hrz := HRZ.out
      rw [List.drop_of_length_le (by simp [zH]), List.append_nil] at hrz
      refine ret_cell_tmp (s := 2) (b := 3) (ad := ⟨w.heap.size, 0, none⟩) (x := .agg #[.bool H'.fin, .int .i64 (H'.kind : Nat), .int .i64 (H'.size : Nat), .slice o1 n1 c1, .slice o2 n2 c2]) (y := .int .i64 (er : Nat)) rfl rfl rfl rfl (load_whole (n := 5) hrz _ Tryz.underlying60 rfl (by kernel_rfl)) ?_
      rw [HE1.out, HE2.out]
      have hxz := HX5.out.stay HGZ.out (fun e => by injection e with e; omega)
      have hgz := grown_new HG5.out HGZ.out (Nat.le_refl _)
      have hoz := (HO1.out.keep HGZ.out (ne_of_row (fun q hq e => by have := (HO1.out.lt q hq).1; injection e with e; omega))).mono (B' := w.heap.size) (by omega)
      have hpz := (HO2.out.keep HGZ.out (ne_of_row (fun q hq e => by have := (HO2.out.lt q hq).1; injection e with e; omega))).mono (B' := w.heap.size) (by omega)
      first | exact ⟨_, _, p5, rfl, hoz, hpz, hxz, HP5.out, fun h => (HPE.out h).trans (HE3.out h).symm, hgz⟩ | exact ⟨_, _, rfl, hoz, hpz, p5, hxz, HP5.out, fun h => (HPE.out h).trans (HE3.out h).symm, hgz⟩
    · rw [if_neg hk0] at hd
      have hki : ((k : Int) == 0) = false := by simpa using hk0
      by_cases hk1 : k = 1
      · subst hk1
        rw [if_pos rfl] at hd
        have HD2 := Lib.hid hd
        clear hd HSTO HDYN
        have HFL := Lib.hid (fun W => fixLR W)
        have HFD := Lib.hid (fun W => fixDR W)
        unfold RetRow at HFL HFD
        generalize fixL = L1 at *
        generalize fixD = L2 at *
        go_wp2_with (first | (go_at_call 43; (obtain ⟨hh0, hx0, hr0, hg0⟩ := HA4.out _ rfl); (with_reducible refine (HFL.out _).mono ?_); rintro e w5 ⟨v1, rfl, ho1, hb5⟩; (have HO1 := Lib.hid (ho1.mono (B' := w3.heap.size + 1) (by simp)); have HH5 := Lib.hid (hh0.up hb5); have HR5 := Lib.hid (hr0.up hb5); have HX5 := Lib.hid (hx0.up hb5); have HG5 := Lib.hid (grown_trans hg0 (grown_below hb5 _)); obtain ⟨o1, c1, g1, hv1, -⟩ := ho1.cases; subst hv1; generalize (ints (nls L1)).length = n1 at *; have hl5 := HH5.out.blk.2; have hf5 := HH5.out.free 3; have hc5 := HH5.out.cell (i := 3) (by simp); have HS5 := Lib.hid (HH5.out.store 3 (.slice o1 n1 c1)); clear hh0 hx0 hr0 hg0 ho1 hb5)) | (go_at_call 44; (with_reducible refine (HFD.out _).mono ?_); rintro e w6 ⟨v2, rfl, ho2, hb6⟩; (have hl6 := HS5.out.1.blk.2; have HO2 := Lib.hid (ho2.mono (B' := w3.heap.size + 1) (by omega)); have HO1' := Lib.hid ((HO1.out.keep HS5.out.2 (ne_of_row (fun q hq e => by have := (HO1.out.lt q hq).1; injection e with e; omega))).up hb6); have HH6 := Lib.hid (HS5.out.1.up hb6); have HR6 := Lib.hid ((HR5.out.keepN HS5.out.2 (fun e => by injection e with e; omega)).up hb6); have HX6 := Lib.hid ((HX5.out.stay HS5.out.2 (fun e => by injection e with e; omega)).up hb6); have HG6 := Lib.hid (grown_trans (grown_new HG5.out HS5.out.2 hs3) (grown_below hb6 _)); obtain ⟨o2, c2, g2, hv2, -⟩ := ho2.cases; subst hv2; generalize (ints (nls L2)).length = n2 at *; have hl7 := HH6.out.blk.2; have hf6 := HH6.out.free 4; have hc6 := HH6.out.cell (i := 4) (by simp); have HS6 := Lib.hid (HH6.out.store 4 (.slice o2 n2 c2)); obtain ⟨A, hA, hAs, hAl⟩ := HS6.out.1.whole; have hA1 : ∀ u ∈ A.toList, u.oneCell' = true := (by rw [hAl]; exact head_one fn 1 0 o1 o2 n1 n2 c1 c2); have HAL := Lib.hid hAl; have HR7 := Lib.hid (HR6.out.keepN HS6.out.2 (fun e => by injection e with e; omega)); clear ho2 hb6 hAl)) | (refine load_box rfl 60 5 _ rfl w3.heap.size rfl A hAs hA _ Tryz.underlying60 rfl (by kernel_rfl) ?_) | (refine wpList_store_agg rfl 60 _ _ rfl w.heap.size 60 w.heap.size 5 5 rfl A rfl (by rw [hAs]; kernel_rfl) _ HR7.out (by rw [hAs]; simp [zH]) hA1 ?_; intro wz hownz hgz; (have HGZ := Lib.hid hgz; have HRZ := Lib.hid hownz; clear hownz hgz)))
        have hr9 := HRZ.out
        rw [hAs, List.drop_of_length_le (by simp [zH]), List.append_nil] at hr9
        refine ret_cell_tmp (s := 2) (b := 3) (ad := ⟨w.heap.size, 0, none⟩) (x := .agg A) (y := .int .i64 0) rfl rfl rfl rfl (load_whole (n := 5) hr9 _ Tryz.underlying60 rfl (by kernel_rfl)) ?_
        have hAe : A = #[.bool fn, .int .i64 (1 : Nat), .int .i64 (0 : Nat), .slice o1 n1 c1, .slice o2 n2 c2] := by
          rw [← Array.toArray_toList (xs := A), HAL.out]; rfl
        rw [HD2.out, hAe]
        have hxz := (HX6.out.stay HS6.out.2 (fun e => by injection e with e; omega)).stay HGZ.out (fun e => by injection e with e; omega)
        have hgz := grown_new (grown_new HG6.out HS6.out.2 hs3) HGZ.out (Nat.le_refl _)
        have hoz := ((HO1'.out.keep HS6.out.2 (ne_of_row (fun q hq e => by have := (HO1'.out.lt q hq).1; injection e with e; omega))).keep HGZ.out (ne_of_row (fun q hq e => by have := (HO1'.out.lt q hq).1; injection e with e; omega))).mono (B' := w.heap.size) (by omega)
        have hpz := ((HO2.out.keep HS6.out.2 (ne_of_row (fun q hq e => by have := (HO2.out.lt q hq).1; injection e with e; omega))).keep HGZ.out (ne_of_row (fun q hq e => by have := (HO2.out.lt q hq).1; injection e with e; omega))).mono (B' := w.heap.size) (by omega)
        first | exact ⟨_, _, p2, rfl, hoz, hpz, hxz, HP2.out, fun _ => rfl, hgz⟩ | exact ⟨_, _, rfl, hoz, hpz, p2, hxz, HP2.out, fun _ => rfl, hgz⟩
      · rw [if_neg hk1] at hd
        have hki1 : ((k : Int) == 1) = false := by simp; omega
        by_cases hk2 : k = 2
        · subst hk2
          rw [if_pos rfl] at hd
          have HST : Hid (∀ W, BoxT W g s p2 → Calls Tryz.prog 45 #[.pointer (some ⟨g, 0, none⟩), .agg #[.bool fn, .int .i64 2, .int .i64 0, .slice none 0 0, .slice none 0 0]] W (RetHR (if (dynN (numS s) (8 * s.size) (0, p2)).2.2.1 = 0 then ⟨fn, 2, 0, (dynN (numS s) (8 * s.size) (0, p2)).1, (dynN (numS s) (8 * s.size) (0, p2)).2.1⟩ else HeadN.zero) (dynN (numS s) (8 * s.size) (0, p2)).2.2.1 (dynN (numS s) (8 * s.size) (0, p2)).2.2.2 s g W)) := Lib.hid (fun W hb => HDYN.out W p2 2 fn hb HP2.out)
          generalize dynN (numS s) (8 * s.size) (0, p2) = sn at *
          obtain ⟨l1, l2, er, pf⟩ := sn
          dsimp only at hd HST
          obtain ⟨H', hH'⟩ : ∃ H', H' = if er = 0 then (⟨fn, 2, 0, l1, l2⟩ : HeadN) else HeadN.zero := ⟨_, rfl⟩
          rw [← hH'] at HST
          have HE1 : Hid (D.1 = H') := Lib.hid (by
            rw [hd, hH']
            by_cases h : er = 0
            · rw [if_neg (fun z => z h), if_pos h]
            · rw [if_pos h, if_neg h])
          have HE2 : Hid (D.2.1 = er) := Lib.hid (by
            rw [hd]
            by_cases h : er = 0
            · rw [if_neg (fun z => z h), h]
            · rw [if_pos h])
          have HE3 : Hid (er = 0 → D.2.2 = pf) := Lib.hid (fun h => by rw [hd, if_neg (fun z => z h)])
          clear hd hH' HSTO HDYN
          go_wp2_with (first | (go_at_call 45; (obtain ⟨hh0, hx0, hr0, hg0⟩ := HA4.out _ rfl); (refine (HST.out _ hx0).mono ?_); rintro e w5 ⟨v1, v2, p5, rfl, ho1, ho2, hx5, hp5, hpe, hg5⟩; (have hl4 := hr0.blk.2; have HR5 := Lib.hid (hr0.keepN hg5 (fun e => by injection e with e; omega)); have HG5 := Lib.hid (grown_trans hg0 hg5); have HX5 := Lib.hid hx5; have HP5 := Lib.hid hp5; have HPE := Lib.hid hpe; have HO1 := Lib.hid ho1; have HO2 := Lib.hid ho2; obtain ⟨o1, c1, g1, hv1, -⟩ := ho1.cases; obtain ⟨o2, c2, g2, hv2, -⟩ := ho2.cases; subst hv1 hv2; generalize (ints (nls H'.lits)).length = n1 at *; generalize (ints (nls H'.dists)).length = n2 at *; clear hh0 hx0 hr0 hg0 ho1 ho2 hx5 hp5 hpe hg5)) | (refine wpList_store_agg rfl 60 _ _ rfl w.heap.size 60 w.heap.size 5 5 rfl #[.bool H'.fin, .int .i64 (H'.kind : Nat), .int .i64 (H'.size : Nat), .slice o1 n1 c1, .slice o2 n2 c2] rfl (by kernel_rfl) _ HR5.out (by simp [zH]) (head_one _ _ _ _ _ _ _ _ _) ?_; intro wz hownz hgz; (have HGZ := Lib.hid hgz; have HRZ := Lib.hid hownz; clear hownz hgz)))
          have hrz := HRZ.out
          rw [List.drop_of_length_le (by simp [zH]), List.append_nil] at hrz
          refine ret_cell_tmp (s := 2) (b := 3) (ad := ⟨w.heap.size, 0, none⟩) (x := .agg #[.bool H'.fin, .int .i64 (H'.kind : Nat), .int .i64 (H'.size : Nat), .slice o1 n1 c1, .slice o2 n2 c2]) (y := .int .i64 (er : Nat)) rfl rfl rfl rfl (load_whole (n := 5) hrz _ Tryz.underlying60 rfl (by kernel_rfl)) ?_
          rw [HE1.out, HE2.out]
          have hxz := HX5.out.stay HGZ.out (fun e => by injection e with e; omega)
          have hgz := grown_new HG5.out HGZ.out (Nat.le_refl _)
          have hoz := (HO1.out.keep HGZ.out (ne_of_row (fun q hq e => by have := (HO1.out.lt q hq).1; injection e with e; omega))).mono (B' := w.heap.size) (by omega)
          have hpz := (HO2.out.keep HGZ.out (ne_of_row (fun q hq e => by have := (HO2.out.lt q hq).1; injection e with e; omega))).mono (B' := w.heap.size) (by omega)
          first | exact ⟨_, _, p5, rfl, hoz, hpz, hxz, HP5.out, fun h => (HPE.out h).trans (HE3.out h).symm, hgz⟩ | exact ⟨_, _, rfl, hoz, hpz, p5, hxz, HP5.out, fun h => (HPE.out h).trans (HE3.out h).symm, hgz⟩
        · rw [if_neg hk2] at hd
          have hki2 : ((k : Int) == 2) = false := by simp; omega
          have HDE := Lib.hid hd
          clear hd HSTO HDYN
          obtain ⟨hh0, hx0, hr0, hg0⟩ := HA4.out _ rfl
          have HR5 := Lib.hid hr0
          have HX5 := Lib.hid hx0
          have HG5 := Lib.hid hg0
          clear hh0 hx0 hr0 hg0
          go_wp2_with (refine wpList_store_agg rfl 60 _ _ rfl w.heap.size 60 w.heap.size 5 5 rfl zH rfl (by kernel_rfl) _ HR5.out (by simp [zH]) zH_one ?_; intro wz hownz hgz; (have HGZ := Lib.hid hgz; have HRZ := Lib.hid hownz; clear hownz hgz))
          have HRY : Hid (Own wz w.heap.size 60 (.slice (some ⟨w.heap.size, 0, none⟩) 5 5) zH.toList) := HRZ
          refine ret_cell_tmp (s := 2) (b := 3) (ad := ⟨w.heap.size, 0, none⟩) (x := .agg zH) (y := .int .i64 11) rfl rfl rfl rfl (load_whole (n := 5) HRY.out _ Tryz.underlying60 rfl (by kernel_rfl)) ?_
          rw [HDE.out]
          have hxz := HX5.out.stay HGZ.out (fun e => by injection e with e; omega)
          have hgz := grown_new HG5.out HGZ.out (Nat.le_refl _)
          first | exact ⟨_, _, p2, rfl, Own.nil _ _ _, Own.nil _ _ _, hxz, HP2.out, (fun h => by cases h), hgz⟩ | exact ⟨_, _, rfl, Own.nil _ _ _, Own.nil _ _ _, p2, hxz, HP2.out, (fun h => by cases h), hgz⟩
end Go.Cm

/- The walk of the document's Read of a head. Conditions: the reader is there. -/
namespace Go.Cm
open Go.RowKit Go.Proofs

theorem kindN_err {N T p k : Nat} {fin : Bool} {st : Nat × Nat} (h : (kindN N T p fin k st).2.1 ≠ 0) : (kindN N T p fin k st).2.2 = p := by
  unfold kindN at h ⊢
  by_cases h1 : st.1 ≠ 0
  · rw [if_pos h1]
  · rw [if_neg h1] at h ⊢
    by_cases h2 : k = 0
    · rw [if_pos h2] at h ⊢
      by_cases h3 : (storedN N T st).2.1 ≠ 0
      · rw [if_pos h3]
      · rw [if_neg h3] at h; exact absurd rfl h
    · rw [if_neg h2] at h ⊢
      by_cases h3 : k = 1
      · rw [if_pos h3] at h; exact absurd rfl h
      · rw [if_neg h3] at h ⊢
        by_cases h4 : k = 2
        · rw [if_pos h4] at h ⊢
          by_cases h5 : (dynN N T st).2.2.1 ≠ 0
          · rw [if_pos h5]
          · rw [if_neg h5] at h; exact absurd rfl h
        · rw [if_neg h4]
theorem headF_err {N T p : Nat} (h : (headF N T p).2.1 ≠ 0) : (headF N T p).2.2 = p := kindN_err h
set_option maxRecDepth 100000 in
set_option maxHeartbeats 4000000 in
theorem readHR {w : World} {g p : Nat} {s : ByteArray} (h : BoxT w g s p) (hs : s.size ≤ 4294967296) (hp : p ≤ 8 * s.size) :
    Calls Tryz.prog 19 #[.pointer (some ⟨g, 0, none⟩)] w (RetHead BoxT s p g w) := by
  have HB := Lib.hid h
  have hgw := h.lt
  have HHD := Lib.hid (fun (W : World) (hb : BoxT W g s p) => headRR hb hs hp)
  unfold RetHead
  have HER := Lib.hid (headF_err (N := numS s) (T := 8 * s.size) (p := p))
  generalize headF (numS s) (8 * s.size) p = D at *
  obtain ⟨H', er, pf⟩ := D
  unfold RetHR at HHD
  dsimp only at HHD HER ⊢
  have HR0 : Hid (∀ w1 : World, w.alloc (.cells #[Value.bool false, .int .i64 0, .int .i64 0, .slice none 0 0, .slice none 0 0] 60) = w1 → Own w1 w.heap.size 60 (.slice (some ⟨w.heap.size, 0, none⟩) 5 5) zH.toList ∧ BoxT w1 g s p ∧ Below w.heap.size w w1) := Lib.hid (fun w1 e => by
    subst e
    have h1 := own_lit w w.heap.size zH 60 (by simp [zH]) (Nat.le_refl _)
    exact ⟨by simpa [zH] using h1, HB.out.up (by repeat (first | exact Below.refl _ _ | assumption | refine b_drewN ?_ _ | refine Below.drew ?_ | refine b_ext' ?_ _ | refine b_alloc' ?_ _)), (by repeat (first | exact Below.refl _ _ | assumption | refine b_drewN ?_ _ | refine Below.drew ?_ | refine b_ext' ?_ _ | refine b_alloc' ?_ _))⟩)
  have c1 := h.c1
  clear h
  go_enter Tryz.func19, Tryz.ntmps19
  go_upto_region 3 with (go_at_call 30; (obtain ⟨hr0, hx0, hbl0⟩ := HR0.out _ rfl); (refine (HHD.out _ hx0).mono ?_); rintro e w5 ⟨v1, v2, p5, rfl, ho1, ho2, hx5, hp5, hpe, hg5⟩; (have hl4 := hr0.blk.2; have HR5 := Lib.hid (hr0.keepN hg5 (fun e => by injection e with e; omega)); have HG5 := Lib.hid (grown_trans (grown_below hbl0 (some g)) hg5); have HX5 := Lib.hid hx5; have HPE := Lib.hid hpe; have HO1 := Lib.hid ho1; have HO2 := Lib.hid ho2; obtain ⟨o1, c1', g1, hv1, -⟩ := ho1.cases; obtain ⟨o2, c2', g2, hv2, -⟩ := ho2.cases; subst hv1 hv2; generalize (ints (nls H'.lits)).length = n1 at *; generalize (ints (nls H'.dists)).length = n2 at *; have hs5 := hg5.size; have hs6 := HG5.out.size; clear hr0 hx0 hbl0 ho1 ho2 hx5 hp5 hpe hg5 HHD HR0))
  have hz5 := HR5.out.blk.2
  have HA6 : Hid (∀ w1 : World, w5.alloc (.cells #[Value.bool H'.fin, .int .i64 (H'.kind : Nat), .int .i64 (H'.size : Nat), .slice o1 n1 c1', .slice o2 n2 c2'] 60) = w1 → Own w1 w5.heap.size 60 (.slice (some ⟨w5.heap.size, 0, none⟩) 5 5) [Value.bool H'.fin, .int .i64 (H'.kind : Nat), .int .i64 (H'.size : Nat), .slice o1 n1 c1', .slice o2 n2 c2'] ∧ BoxT w1 g s p5 ∧ Own w1 w.heap.size 60 (.slice (some ⟨w.heap.size, 0, none⟩) 5 5) zH.toList ∧ w.grownBy w1 (some g) ∧ Below w5.heap.size w5 w1) := Lib.hid (fun w1 e => by
    subst e
    have h1 := own_lit w5 w5.heap.size #[Value.bool H'.fin, .int .i64 (H'.kind : Nat), .int .i64 (H'.size : Nat), .slice o1 n1 c1', .slice o2 n2 c2'] 60 (by simp) (Nat.le_refl _)
    exact ⟨by simpa using h1, HX5.out.up (below_alloc _ _), HR5.out.up (below_alloc _ _), grown_trans HG5.out (grown_below (below_alloc _ _) _), below_alloc _ _⟩)
  obtain ⟨hh6, hx6, hr6, hg6, hb6⟩ := HA6.out _ rfl
  have HO1' := Lib.hid (HO1.out.up hb6)
  have HO2' := Lib.hid (HO2.out.up hb6)
  clear HA6 HO1 HO2 hb6 HR5 HX5 HG5
  have hne0 := hh6.blk
  generalize w5.alloc (.cells #[Value.bool H'.fin, .int .i64 (H'.kind : Nat), .int .i64 (H'.size : Nat), .slice o1 n1 c1', .slice o2 n2 c2'] 60) = w6 at *
  generalize w5.heap.size = b at *
  by_cases he : er = 0
  · subst he
    have HPF := HPE.out rfl
    subst HPF
    obtain ⟨A, hA, hAs, hAl⟩ := hh6.whole
    have hA1 : ∀ u ∈ A.toList, u.oneCell' = true := by rw [hAl]; exact head_one _ _ _ _ _ _ _ _ _
    have HAL := Lib.hid hAl
    have HR6 := Lib.hid hr6
    have HX6 := Lib.hid hx6
    have HG6 := Lib.hid hg6
    clear hh6 hx6 hr6 hg6 hAl
    go_wp2_with (first | (refine load_box rfl 60 5 _ rfl b rfl A hAs hA _ Tryz.underlying60 rfl (by kernel_rfl) ?_) | (refine wpList_store_agg rfl 60 _ _ rfl w.heap.size 60 w.heap.size 5 5 rfl A rfl (by rw [hAs]; kernel_rfl) _ HR6.out (by rw [hAs]; simp [zH]) hA1 ?_; intro wz hownz hgz; (have HGZ := Lib.hid hgz; have HRZ := Lib.hid hownz; clear hownz hgz)))
    have hr9 := HRZ.out
    rw [hAs, List.drop_of_length_le (by simp [zH]), List.append_nil] at hr9
    refine ret_cell_tmp (s := 2) (b := 3) (ad := ⟨w.heap.size, 0, none⟩) (x := .agg A) (y := .int .i64 0) rfl rfl rfl rfl (load_whole (n := 5) hr9 _ Tryz.underlying60 rfl (by kernel_rfl)) ?_
    have hAe : A = #[.bool H'.fin, .int .i64 (H'.kind : Nat), .int .i64 (H'.size : Nat), .slice o1 n1 c1', .slice o2 n2 c2'] := by
      rw [← Array.toArray_toList (xs := A), HAL.out]
    rw [hAe]
    have hxz := HX6.out.stay HGZ.out (fun e => by injection e with e; omega)
    have hgz := grown_new HG6.out HGZ.out (Nat.le_refl _)
    have hoz := (HO1'.out.keep HGZ.out (ne_of_row (fun q hq e => by have := (HO1'.out.lt q hq).1; injection e with e; omega))).mono (B' := w.heap.size) (by omega)
    have hpz := (HO2'.out.keep HGZ.out (ne_of_row (fun q hq e => by have := (HO2'.out.lt q hq).1; injection e with e; omega))).mono (B' := w.heap.size) (by omega)
    exact ⟨_, _, rfl, hoz, hpz, hxz, hgz⟩
  · have he' : ((er : Int) != 0) = true := by simpa using he
    have hpf : pf = p := HER.out he
    subst hpf
    have hg61 := hx6.c1
    have hl6 := hx6.lt
    have hf6 := hx6.free 1
    have hst := hx6.set1 pf
    have HST := Lib.hid hst
    have HH7 := Lib.hid (hh6.keepN hst.2 (fun e => by injection e with e; omega))
    have HR7 := Lib.hid (hr6.keepN hst.2 (fun e => by injection e with e; omega))
    have HO7 := Lib.hid (HO1'.out.keep hst.2 (ne_of_row (fun q hq e => by have := (HO1'.out.lt q hq).1; injection e with e; omega)))
    have HP7 := Lib.hid (HO2'.out.keep hst.2 (ne_of_row (fun q hq e => by have := (HO2'.out.lt q hq).1; injection e with e; omega)))
    have HG7 := Lib.hid (grown_trans hg6 hst.2)
    obtain ⟨A, hA, hAs, hAl⟩ := HH7.out.whole
    have hA1 : ∀ u ∈ A.toList, u.oneCell' = true := by rw [hAl]; exact head_one _ _ _ _ _ _ _ _ _
    have HAL := Lib.hid hAl
    have HX7 := Lib.hid hst.1
    clear hh6 hx6 hr6 hg6 hAl hst HO1' HO2' he
    go_wp2_with (first | (refine load_box rfl 60 5 _ rfl b rfl A hAs hA _ Tryz.underlying60 rfl (by kernel_rfl) ?_) | (refine wpList_store_agg rfl 60 _ _ rfl w.heap.size 60 w.heap.size 5 5 rfl A rfl (by rw [hAs]; kernel_rfl) _ HR7.out (by rw [hAs]; simp [zH]) hA1 ?_; intro wz hownz hgz; (have HGZ := Lib.hid hgz; have HRZ := Lib.hid hownz; clear hownz hgz)))
    have hr9 := HRZ.out
    rw [hAs, List.drop_of_length_le (by simp [zH]), List.append_nil] at hr9
    refine ret_cell_tmp (s := 2) (b := 3) (ad := ⟨w.heap.size, 0, none⟩) (x := .agg A) (y := .int .i64 (er : Nat)) rfl rfl rfl rfl (load_whole (n := 5) hr9 _ Tryz.underlying60 rfl (by kernel_rfl)) ?_
    have hAe : A = #[.bool H'.fin, .int .i64 (H'.kind : Nat), .int .i64 (H'.size : Nat), .slice o1 n1 c1', .slice o2 n2 c2'] := by
      rw [← Array.toArray_toList (xs := A), HAL.out]
    rw [hAe]
    have hxz := HX7.out.stay HGZ.out (fun e => by injection e with e; omega)
    have hgz := grown_new HG7.out HGZ.out (Nat.le_refl _)
    have hoz := (HO7.out.keep HGZ.out (ne_of_row (fun q hq e => by have := (HO7.out.lt q hq).1; injection e with e; omega))).mono (B' := w.heap.size) (by omega)
    have hpz := (HP7.out.keep HGZ.out (ne_of_row (fun q hq e => by have := (HP7.out.lt q hq).1; injection e with e; omega))).mono (B' := w.heap.size) (by omega)
    exact ⟨_, _, rfl, hoz, hpz, hxz, hgz⟩
end Go.Cm

/- Whether both codes of a block fit, for any ints; what is wrong of a head. Conditions: the lists read as lists. -/
namespace Go.Cm
open Go.RowKit Go.Proofs

def fits2I (l1 l2 : List Int) : Nat := if l1.getD 256 0 = 0 then 21 else if fitsE l1 true ≠ 0 then fitsE l1 true else fitsE l2 true
theorem fits2_nls (l1 l2 : List Nat) : fits2I (nls l1) (nls l2) = fits2 l1 l2 := by
  unfold fits2I fits2
  rw [nls_getD]
  by_cases h : l1.getD 256 0 = 0
  · rw [if_pos h, if_pos (by omega)]
  · rw [if_neg h, if_neg (by omega)]
def mayI (k z : Int) (l1 l2 : List Int) : Nat :=
  if k = 0 then (if z < 0 ∨ 65535 < z then 1 else 0)
  else if k = 1 then 0
  else if k = 2 then (if l1.length < 257 ∨ 286 < l1.length ∨ l2.length < 1 ∨ 30 < l2.length then 1 else fits2I l1 l2)
  else 1
end Go.Cm

/- The walk of the law's known calls. Conditions: none. -/
namespace Go.Cm
open Go.RowKit Go.Proofs

theorem k1 : headF (numS ⟨#[3]⟩) (8 * (⟨#[3]⟩ : ByteArray).size) 0 = (⟨true, 1, 0, fixL, fixD⟩, 0, 3) := by
  rw [show numS ⟨#[3]⟩ = 3 by decide, show 8 * (⟨#[3]⟩ : ByteArray).size = 8 by decide, head_good (a := 1) (k := 1) (p1 := 1) (p2 := 3) (by decide) (by decide)]
  rfl
theorem k2 : headF (numS ⟨#[1, 5, 0, 250, 255]⟩) (8 * (⟨#[1, 5, 0, 250, 255]⟩ : ByteArray).size) 0 = (⟨true, 0, 5, [], []⟩, 0, 40) := by
  rw [head_good (a := 1) (k := 0) (p1 := 1) (p2 := 3) (by decide) (by decide)]
  unfold kindN
  rw [if_neg (by decide), if_pos rfl, show storedN (numS ⟨#[1, 5, 0, 250, 255]⟩) (8 * (⟨#[1, 5, 0, 250, 255]⟩ : ByteArray).size) (0, 3) = (5, 0, 40) by decide]
  rfl
theorem k3 : headF (numS ⟨#[1, 5, 0, 250, 254]⟩) (8 * (⟨#[1, 5, 0, 250, 254]⟩ : ByteArray).size) 0 = (HeadN.zero, 6, 0) := by
  rw [head_good (a := 1) (k := 0) (p1 := 1) (p2 := 3) (by decide) (by decide)]
  unfold kindN
  rw [if_neg (by decide), if_pos rfl, show storedN (numS ⟨#[1, 5, 0, 250, 254]⟩) (8 * (⟨#[1, 5, 0, 250, 254]⟩ : ByteArray).size) (0, 3) = (5, 6, 40) by decide]
  rfl
theorem k4 : headF (numS ⟨#[7]⟩) (8 * (⟨#[7]⟩ : ByteArray).size) 0 = (HeadN.zero, 11, 0) := by
  rw [head_good (a := 1) (k := 3) (p1 := 1) (p2 := 3) (by decide) (by decide)]
  rfl
theorem k5 : headF (numS ⟨#[]⟩) (8 * (⟨#[]⟩ : ByteArray).size) 0 = (HeadN.zero, 2, 0) := by
  exact head_bad (a := 0) (k := 0) (e1 := 2) (e2 := 2) (p1 := 0) (p2 := 0) (by decide) (by decide) (.inl (by decide))
end Go.Cm

/- The walk of the law's known calls, all of them. Conditions: none. -/
namespace Go.Cm
open Go.RowKit Go.Proofs

theorem ownH (w : World) (f : Bool) (k z : Int) (o1 o2 : Option Addr) (n1 n2 c1 c2 T : Nat) : Own (w.alloc (.cells #[.bool f, .int .i64 k, .int .i64 z, .slice o1 n1 c1, .slice o2 n2 c2] T)) w.heap.size T (.slice (some ⟨w.heap.size, 0, none⟩) 5 5) [.bool f, .int .i64 k, .int .i64 z, .slice o1 n1 c1, .slice o2 n2 c2] := by
  have h := own_lit w w.heap.size #[.bool f, .int .i64 k, .int .i64 z, .slice o1 n1 c1, .slice o2 n2 c2] T (by simp) (Nat.le_refl _)
  simpa using h
end Go.Cm

/- A head that was read: where the reader stands then, and that it may be written. Conditions: none. -/
namespace Go.Cm

theorem xb_mono {N T n : Nat} {st : Nat × Nat} (h : st.2 ≤ T) : st.2 ≤ (xb N T n st).2.2 ∧ (xb N T n st).2.2 ≤ T := by
  obtain ⟨e, p⟩ := st
  unfold xb
  split
  · have := bitsA_le (N := N) (n := n) (show p ≤ T from h)
    exact ⟨this.2, this.1⟩
  · exact ⟨Nat.le_refl _, h⟩
theorem xf_place (e : Nat) (st : Nat × Nat) : (xf e st).2 = st.2 := by unfold xf; split <;> rfl
theorem codeK_mono {N T c : Nat} {x : List Nat × (Nat × Nat)} (h : x.2.2 ≤ T) : ∀ k, x.2.2 ≤ (codeK N T c k x).2.2 ∧ (codeK N T c k x).2.2 ≤ T
  | 0 => ⟨Nat.le_refl _, h⟩
  | k + 1 => by
    have ih := codeK_mono (N := N) (c := c) h k
    rw [codeK_step]
    split
    · have := xb_mono (N := N) (n := 3) ih.2
      exact ⟨Nat.le_trans ih.1 this.1, this.2⟩
    · exact ih
theorem repN_mono {N T a : Nat} {l : List Nat} {st : Nat × Nat} (h : st.2 ≤ T) : st.2 ≤ (repN N T a l st).2.2.2 ∧ (repN N T a l st).2.2.2 ≤ T := by
  unfold repN
  split
  · exact xb_mono h
  · split
    · split
      · show st.2 ≤ (xf 4 st).2 ∧ (xf 4 st).2 ≤ T
        rw [xf_place]; exact ⟨Nat.le_refl _, h⟩
      · exact xb_mono h
    · exact xb_mono h
theorem rowN_mono {N T : Nat} {L : List Nat} {n : Nat} : ∀ (f : Nat) (l : List Nat) (st : Nat × Nat), st.2 ≤ T → st.2 ≤ (rowN N T L n f l st).2.2 ∧ (rowN N T L n f l st).2.2 ≤ T
  | 0, _, _, h => ⟨Nat.le_refl _, h⟩
  | f + 1, l, st, h => by
    by_cases hc : st.1 = 0 ∧ l.length < n
    · obtain ⟨en, p⟩ := st
      obtain ⟨h0, hlt⟩ := hc
      simp only at h0; subst h0
      rw [rowN_step N T L n f l p hlt]
      have hf := (readF_facts L (N / 2 ^ p) (T - p)).2.1
      generalize readF L (N / 2 ^ p) (T - p) = r at *
      have hd : p + r.2.2 ≤ T := by simp only at h; omega
      unfold rowStep
      split
      · exact ⟨Nat.le_refl _, h⟩
      · split
        · have := rowN_mono (N := N) (L := L) (n := n) f (l ++ [r.1]) (0, p + r.2.2) hd
          exact ⟨Nat.le_trans (Nat.le_add_right _ _) this.1, this.2⟩
        · have hm := repN_mono (N := N) (a := r.1) (l := l) (st := (0, p + r.2.2)) hd
          generalize repN N T r.1 l (0, p + r.2.2) = m at *
          split
          · show p ≤ (xf 3 m.2.2).2 ∧ (xf 3 m.2.2).2 ≤ T
            rw [xf_place]
            exact ⟨Nat.le_trans (Nat.le_add_right _ _) hm.1, hm.2⟩
          · have := rowN_mono (N := N) (L := L) (n := n) f (l ++ List.replicate m.1 m.2.1) m.2.2 hm.2
            exact ⟨Nat.le_trans (Nat.le_trans (Nat.le_add_right _ _) hm.1) this.1, this.2⟩
    · rw [rowN_stop _ _ _ _ _ _ _ hc]
      exact ⟨Nat.le_refl _, h⟩
theorem dynL_ok {N T a b : Nat} {k : List Nat × (Nat × Nat)} (h : (dynL N T a b k).2.2.1 = 0) (hp : k.2.2 ≤ T) :
    (dynL N T a b k).1.length = 257 + a ∧ (dynL N T a b k).2.1.length = 1 + b ∧ fits2 (dynL N T a b k).1 (dynL N T a b k).2.1 = 0 ∧ k.2.2 ≤ (dynL N T a b k).2.2.2 ∧ (dynL N T a b k).2.2.2 ≤ T ∧ k.2.1 = 0 := by
  unfold dynL at h ⊢
  split at h
  · rename_i h1; exact absurd h h1
  · rename_i h1
    rw [if_neg h1]
    split at h
    · rename_i h2; exact absurd h h2
    · rename_i h2
      rw [if_neg h2]
      split at h
      · rename_i h3; exact absurd h h3
      · rename_i h3
        rw [if_neg h3]
        have hl := rowN_len N T k.1 (257 + a + (1 + b)) (257 + a + (1 + b) + 1) [] k.2 (Nat.zero_le _) (by simp) (by simpa using h3)
        have hm := rowN_mono (N := N) (T := T) (L := k.1) (n := 257 + a + (1 + b)) (257 + a + (1 + b) + 1) [] k.2 hp
        generalize rowN N T k.1 (257 + a + (1 + b)) (257 + a + (1 + b) + 1) [] k.2 = r at *
        refine ⟨?_, ?_, h, hm.1, hm.2, by simpa using h1⟩
        · rw [List.length_take]; omega
        · rw [List.length_drop]; omega
theorem xf3_ne {st : Nat × Nat} : (xf 3 st).1 ≠ 0 := by
  unfold xf; split
  · exact Nat.succ_ne_zero 2
  · assumption
theorem codeK_ok {N T c : Nat} {x : List Nat × (Nat × Nat)} (h : (codeK N T c 19 x).2.1 = 0) : x.2.1 = 0 := by
  apply Classical.byContradiction; intro hn
  rw [codeK_err N T c 19 x hn] at h; exact hn h
theorem dynN_ok {N T p : Nat} (h : (dynN N T (0, p)).2.2.1 = 0) (hp : p ≤ T) :
    257 ≤ (dynN N T (0, p)).1.length ∧ (dynN N T (0, p)).1.length ≤ 286 ∧ 1 ≤ (dynN N T (0, p)).2.1.length ∧ (dynN N T (0, p)).2.1.length ≤ 30 ∧ fits2 (dynN N T (0, p)).1 (dynN N T (0, p)).2.1 = 0 ∧ p ≤ (dynN N T (0, p)).2.2.2 ∧ (dynN N T (0, p)).2.2.2 ≤ T := by
  unfold dynN at h ⊢
  have m1 := xb_mono (N := N) (n := 5) (st := (0, p)) hp
  generalize xb N T 5 (0, p) = r1 at *
  have m2 := xb_mono (N := N) (n := 5) (st := r1.2) m1.2
  generalize xb N T 5 r1.2 = r2 at *
  have m3 := xb_mono (N := N) (n := 4) (st := r2.2) m2.2
  generalize xb N T 4 r2.2 = r3 at *
  unfold dynM at h ⊢
  generalize hst : (if 286 < 257 + r1.1 ∨ 30 < 1 + r2.1 then xf 3 r3.2 else r3.2) = st at *
  have hst2 : st.2 = r3.2.2 := by rw [← hst]; split; exact xf_place _ _; rfl
  have mk := codeK_mono (N := N) (T := T) (c := r3.1) (x := (List.replicate 19 0, st)) (by show st.2 ≤ T; rw [hst2]; exact m3.2) 19
  obtain ⟨a1, a2, a3, a4, a5, a6⟩ := dynL_ok h mk.2
  have h0 := codeK_ok a6
  have hnb : ¬ (286 < 257 + r1.1 ∨ 30 < 1 + r2.1) := fun hc => by
    rw [if_pos hc] at hst
    rw [← hst] at h0
    exact xf3_ne h0
  have mk1 : st.2 ≤ _ := mk.1
  have m1' : p ≤ r1.2.2 := m1.1
  refine ⟨by rw [a1]; omega, by rw [a1]; omega, by rw [a2]; omega, by rw [a2]; omega, a3, ?_, a5⟩
  exact Nat.le_trans m1' (Nat.le_trans m2.1 (Nat.le_trans m3.1 (Nat.le_trans (Nat.le_of_eq hst2.symm) (Nat.le_trans mk1 a4))))
theorem storedN_ok {N T p : Nat} (h : (storedN N T (0, p)).2.1 = 0) (hp : alignN p ≤ T) : p ≤ (storedN N T (0, p)).2.2 ∧ (storedN N T (0, p)).2.2 ≤ T ∧ (storedN N T (0, p)).1 ≤ 65535 := by
  unfold storedN at h ⊢
  dsimp only at h ⊢
  have m1 := xb_mono (N := N) (n := 16) (st := (0, alignN p)) hp
  have l1 := xb_lt N T 16 (0, alignN p)
  generalize xb N T 16 (0, alignN p) = r1 at *
  have m2 := xb_mono (N := N) (n := 16) (st := r1.2) m1.2
  generalize xb N T 16 r1.2 = r2 at *
  have ha : p ≤ alignN p := by unfold alignN; omega
  have m1' : alignN p ≤ r1.2.2 := m1.1
  split at h
  · rename_i hc
    rw [if_pos hc]
    exact ⟨Nat.le_trans ha (Nat.le_trans m1' m2.1), m2.2, by omega⟩
  · rename_i hc
    exfalso
    unfold xf at h
    split at h
    · cases h
    · rename_i h2; exact h2 h
/-- a head that was read -/
theorem headF_ok {N T p : Nat} (h8 : 8 ∣ T) (_hp : p ≤ T) (h : (headF N T p).2.1 = 0) :
    p + 3 ≤ (headF N T p).2.2 ∧ (headF N T p).2.2 ≤ T ∧ mayI ((headF N T p).1.kind : Nat) ((headF N T p).1.size : Nat) (nls (headF N T p).1.lits) (nls (headF N T p).1.dists) = 0 := by
  obtain ⟨r1, h1⟩ : ∃ r1, r1 = bitsA N T p 1 := ⟨_, rfl⟩
  obtain ⟨a, e1, p1⟩ := r1
  obtain ⟨r2, h2⟩ : ∃ r2, r2 = bitsA N T p1 2 := ⟨_, rfl⟩
  obtain ⟨k, e2, p2⟩ := r2
  by_cases hb : e1 ≠ 0 ∨ e2 ≠ 0
  · rw [head_bad h1.symm h2.symm hb] at h; cases h
  · obtain ⟨q1, q2⟩ : e1 = 0 ∧ e2 = 0 := by omega
    subst q1 q2
    have hp1 : p1 = p + 1 ∧ p + 1 ≤ T := by
      unfold bitsA at h1
      split at h1
      · rename_i hc
        injection h1 with _ h1
        injection h1 with _ h1
        exact ⟨h1, hc⟩
      · injection h1 with _ h1
        injection h1 with h1 _
        cases h1
    have hp2 : p2 = p + 3 ∧ p + 3 ≤ T := by
      rw [hp1.1] at h2
      unfold bitsA at h2
      split at h2
      · rename_i hc
        injection h2 with _ h2
        injection h2 with _ h2
        exact ⟨h2, by omega⟩
      · injection h2 with _ h2
        injection h2 with h2 _
        cases h2
    have hal : alignN p2 ≤ T := by unfold alignN; omega
    rw [head_good h1.symm h2.symm] at h ⊢
    unfold kindN at h ⊢
    rw [if_neg (fun z => z rfl)] at h ⊢
    by_cases k0 : k = 0
    · rw [if_pos k0] at h ⊢
      by_cases hs : (storedN N T (0, p2)).2.1 ≠ 0
      · rw [if_pos hs] at h; exact absurd h hs
      · rw [if_neg hs]
        have h0 : (storedN N T (0, p2)).2.1 = 0 := by simpa using hs
        obtain ⟨b1, b2, b3⟩ := storedN_ok h0 hal
        refine ⟨by show p + 3 ≤ (storedN N T (0, p2)).2.2; omega, b2, ?_⟩
        show mayI 0 (((storedN N T (0, p2)).1 : Nat) : Int) _ _ = 0
        unfold mayI
        rw [if_pos rfl, if_neg (by omega)]
    · rw [if_neg k0] at h ⊢
      by_cases k1 : k = 1
      · rw [if_pos k1]
        refine ⟨by show p + 3 ≤ p2; omega, by show p2 ≤ T; omega, ?_⟩
        show mayI 1 0 _ _ = 0
        unfold mayI
        rw [if_neg (by decide), if_pos rfl]
      · rw [if_neg k1] at h ⊢
        by_cases k2 : k = 2
        · rw [if_pos k2] at h ⊢
          by_cases hs : (dynN N T (0, p2)).2.2.1 ≠ 0
          · rw [if_pos hs] at h; exact absurd h hs
          · rw [if_neg hs]
            have h0 : (dynN N T (0, p2)).2.2.1 = 0 := by simpa using hs
            obtain ⟨b1, b2, b3, b4, b5, b6, b7⟩ := dynN_ok h0 (show p2 ≤ T by omega)
            refine ⟨by show p + 3 ≤ (dynN N T (0, p2)).2.2.2; omega, b7, ?_⟩
            show mayI 2 0 (nls (dynN N T (0, p2)).1) (nls (dynN N T (0, p2)).2.1) = 0
            unfold mayI
            rw [if_neg (by decide), if_neg (by decide), if_pos rfl, nls_length, nls_length, if_neg (by omega), fits2_nls, b5]
        · rw [if_neg k2] at h; cases h
end Go.Cm

/- A machine that inflates, step by step, in plain Lean. Conditions: as each says. -/
namespace Go.Cm

/-- a length symbol's base and further bits; a distance symbol's -/
def lenB (s : Nat) : Nat × Nat × Bool := if s = 285 then (258, 0, true) else if 257 ≤ s ∧ s < 285 then (spBase 3 4 (s - 257), spB 4 (s - 257), true) else (0, 0, false)
def dstB (s : Nat) : Nat × Nat × Bool := if s < 30 then (spBase 1 2 s, spB 2 s, true) else (0, 0, false)
/-- where a machine stands: its mode (0 at a head, 1 stored, 2 coded, 3 at the end), the block's own words, the reader's place, the text with what is ahead of it, the blocks' beginnings -/
structure IS where
  md : Nat
  fin : Bool
  left : Nat
  li : List Nat
  di : List Nat
  p : Nat
  h : Byts
  st : List (Nat × Nat)
def closeI (z : IS) : IS := { z with md := if z.fin then 3 else 0 }
def numB (N T p : Nat) (y : Nat × Nat × Bool) : Nat × Nat × Nat := if y.2.2 = false then (0, 9, p) else (y.1 + (bitsA N T p y.2.1).1, (bitsA N T p y.2.1).2.1, (bitsA N T p y.2.1).2.2)
noncomputable def headI (N T pre : Nat) (z : IS) : Nat × IS :=
  if (headF N T z.p).2.1 ≠ 0 then ((headF N T z.p).2.1, z)
  else (0, ⟨if (headF N T z.p).1.kind = 0 then 1 else 2, (headF N T z.p).1.fin, (headF N T z.p).1.size, (headF N T z.p).1.lits, (headF N T z.p).1.dists, (headF N T z.p).2.2, z.h, z.st ++ [(z.p, z.h.length - pre)]⟩)
def storI (T : Nat) (bs : Byts) (z : IS) : Nat × IS :=
  if z.left = 0 then (0, closeI z) else if min z.left ((T - z.p) / 8) = 0 then (2, z)
  else (0, { z with left := z.left - min z.left ((T - z.p) / 8), p := z.p + 8 * min z.left ((T - z.p) / 8), h := z.h ++ (bs.drop (z.p / 8)).take (min z.left ((T - z.p) / 8)) })
def cpyI3 (z : IS) (n : Nat) (y : Nat × Nat × Nat) : Nat × IS :=
  if y.2.1 ≠ 0 then (y.2.1, z) else if min z.h.length 32768 < y.1 then (10, z) else (0, { z with p := y.2.2, h := copyN z.h y.1 n })
noncomputable def cpyI2 (N T : Nat) (z : IS) (n p : Nat) : Nat × IS :=
  if (readF z.di (N / 2 ^ p) (T - p)).2.1 ≠ 0 then ((readF z.di (N / 2 ^ p) (T - p)).2.1, z)
  else cpyI3 z n (numB N T (p + (readF z.di (N / 2 ^ p) (T - p)).2.2) (dstB (readF z.di (N / 2 ^ p) (T - p)).1))
noncomputable def cpyI (N T : Nat) (z : IS) (s p : Nat) : Nat × IS :=
  if (numB N T p (lenB s)).2.1 ≠ 0 then ((numB N T p (lenB s)).2.1, z) else cpyI2 N T z (numB N T p (lenB s)).1 (numB N T p (lenB s)).2.2
noncomputable def codI2 (N T : Nat) (z : IS) (r : Nat × Nat × Nat) : Nat × IS :=
  if r.2.1 ≠ 0 then (r.2.1, z) else if r.1 = 256 then (0, closeI { z with p := z.p + r.2.2 })
  else if 256 < r.1 then cpyI N T z r.1 (z.p + r.2.2)
  else (0, { z with p := z.p + r.2.2, h := z.h ++ [UInt8.ofNat r.1] })
noncomputable def codI (N T : Nat) (z : IS) : Nat × IS := codI2 N T z (readF z.li (N / 2 ^ z.p) (T - z.p))
/-- a step -/
noncomputable def stI (N T pre : Nat) (bs : Byts) (z : IS) : Nat × IS :=
  if z.md = 0 then headI N T pre z else if z.md = 1 then storI T bs z else if z.md = 2 then codI N T z else (0, z)
/-- no more is made than a text may have -/
def bigI (pre : Nat) (y : Nat × IS) : Nat × IS :=
  if y.1 ≠ 0 then y else if 16777216 < y.2.h.length - pre then (3, { y.2 with h := y.2.h.take (pre + 16777216) }) else y
noncomputable def playI (N T pre : Nat) (bs : Byts) (z0 : IS) : Nat → Nat × IS
  | 0 => (0, z0)
  | k + 1 => if (playI N T pre bs z0 k).1 ≠ 0 ∨ (playI N T pre bs z0 k).2.md = 3 then playI N T pre bs z0 k else bigI pre (stI N T pre bs (playI N T pre bs z0 k).2)
/-- what a machine keeps, where nothing is wrong -/
structure IOk (T pre : Nat) (z : IS) : Prop where
  p : z.p ≤ T
  md : z.md ≤ 3
  al : z.md = 1 → z.p % 8 = 0
  left : z.left ≤ 65535
  li : errI (nls z.li) = 0 ∨ z.md ≠ 2
  di : errI (nls z.di) = 0 ∨ z.md ≠ 2
  hpre : pre ≤ z.h.length
  big : z.h.length - pre ≤ 16777216
theorem bitsA_ok {N T p n : Nat} (h : (bitsA N T p n).2.1 = 0) : (bitsA N T p n).2.2 = p + n ∧ p + n ≤ T := by
  unfold bitsA at h ⊢
  split at h
  · rename_i hc
    rw [if_pos hc]; exact ⟨rfl, hc⟩
  · cases h
theorem storedN_al {N T p : Nat} (h : (storedN N T (0, p)).2.1 = 0) : (storedN N T (0, p)).2.2 % 8 = 0 := by
  have ha : alignN p % 8 = 0 := by unfold alignN; omega
  unfold storedN xb xf at h ⊢
  simp only at h ⊢
  generalize alignN p = q at *
  simp only [if_true] at h ⊢
  by_cases h1 : (bitsA N T q 16).2.1 = 0
  · obtain ⟨e1, -⟩ := bitsA_ok h1
    simp only [h1, if_true] at h ⊢
    by_cases h2 : (bitsA N T (bitsA N T q 16).2.2 16).2.1 = 0
    · obtain ⟨e2, -⟩ := bitsA_ok h2
      split at h
      · rename_i hc
        rw [if_pos hc]
        rw [e2, e1]; omega
      · exact absurd h (by simp)
    · split at h
      · exact absurd h h2
      · simp [h2] at h
  · simp only [h1, if_false] at h
    split at h
    · exact absurd h h1
    · exact absurd h h1
theorem head_kinds {N T p : Nat} (h : (headF N T p).2.1 = 0) :
    ((headF N T p).1.kind = 0 ∧ (headF N T p).2.2 % 8 = 0) ∨ ((headF N T p).1.kind = 1 ∧ (headF N T p).1.lits = fixL ∧ (headF N T p).1.dists = fixD) ∨ (headF N T p).1.kind = 2 := by
  unfold headF at h ⊢
  generalize decide ((xb N T 1 (0, p)).1 = 1) = fin at *
  generalize (xb N T 2 (xb N T 1 (0, p)).2).1 = k at *
  generalize (xb N T 2 (xb N T 1 (0, p)).2).2 = st at *
  unfold kindN at h ⊢
  by_cases h0 : st.1 ≠ 0
  · rw [if_pos h0] at h; exact absurd h h0
  rw [if_neg h0] at h ⊢
  obtain ⟨a, b⟩ := st
  obtain rfl : a = 0 := by simpa using h0
  by_cases k0 : k = 0
  · rw [if_pos k0] at h ⊢
    by_cases h1 : (storedN N T (0, b)).2.1 ≠ 0
    · rw [if_pos h1] at h; exact absurd h h1
    · rw [if_neg h1]
      exact .inl ⟨rfl, storedN_al (by simpa using h1)⟩
  rw [if_neg k0] at h ⊢
  by_cases k1 : k = 1
  · rw [if_pos k1]; exact .inr (.inl ⟨rfl, rfl, rfl⟩)
  rw [if_neg k1] at h ⊢
  by_cases k2 : k = 2
  · rw [if_pos k2] at h ⊢
    by_cases h1 : (dynN N T (0, b)).2.2.1 ≠ 0
    · rw [if_pos h1] at h; exact absurd h h1
    · rw [if_neg h1]; exact .inr (.inr rfl)
  · rw [if_neg k2] at h; cases h
theorem fixL_err : errI (nls fixL) = 0 := by decide +kernel
theorem fixD_err : errI (nls fixD) = 0 := by decide +kernel
theorem fitsE_err {l : List Int} {b : Bool} (h : fitsE l b = 0) : errI l = 0 := by
  unfold fitsE at h
  by_cases h1 : errI l ≠ 0
  · rw [if_pos h1] at h; exact absurd h h1
  · simpa using h1
theorem head_err {N T p : Nat} (h8 : 8 ∣ T) (hp : p ≤ T) (h : (headF N T p).2.1 = 0) : (headF N T p).1.kind ≠ 0 → errI (nls (headF N T p).1.lits) = 0 ∧ errI (nls (headF N T p).1.dists) = 0 := by
  intro hk
  obtain ⟨-, -, hm⟩ := headF_ok h8 hp h
  rcases head_kinds h with ⟨h0, -⟩ | ⟨h1, h2, h3⟩ | h2
  · exact absurd h0 hk
  · rw [h2, h3]; exact ⟨fixL_err, fixD_err⟩
  · rw [h2] at hm
    change mayI 2 _ _ _ = 0 at hm
    unfold mayI at hm
    rw [if_neg (by decide), if_neg (by decide), if_pos rfl] at hm
    split at hm
    · cases hm
    · unfold fits2I at hm
      split at hm
      · cases hm
      · split at hm
        · rename_i h4; exact absurd hm h4
        · rename_i h4
          exact ⟨fitsE_err (by simpa using h4), fitsE_err hm⟩
theorem head_size {N T p : Nat} (h8 : 8 ∣ T) (hp : p ≤ T) (h : (headF N T p).2.1 = 0) : (headF N T p).1.size ≤ 65535 := by
  obtain ⟨-, -, hm⟩ := headF_ok h8 hp h
  rcases head_kinds h with ⟨h0, -⟩ | ⟨h1, -⟩ | h2
  · rw [h0] at hm
    change mayI 0 _ _ _ = 0 at hm
    unfold mayI at hm
    rw [if_pos rfl] at hm
    split at hm
    · cases hm
    · omega
  · unfold headF kindN at h1 ⊢
    split
    · exact Nat.zero_le _
    · rename_i h0
      rw [if_neg h0] at h1
      split
      · rename_i k0
        rw [if_pos k0] at h1
        split
        · exact Nat.zero_le _
        · rename_i hs; rw [if_neg hs] at h1; cases h1
      · split
        · exact Nat.zero_le _
        · split
          · split <;> exact Nat.zero_le _
          · exact Nat.zero_le _
  · unfold headF kindN at h2 ⊢
    split
    · exact Nat.zero_le _
    · rename_i h0
      rw [if_neg h0] at h2
      split
      · rename_i k0
        rw [if_pos k0] at h2
        split
        · exact Nat.zero_le _
        · rename_i hs; rw [if_neg hs] at h2; cases h2
      · split
        · exact Nat.zero_le _
        · split
          · split <;> exact Nat.zero_le _
          · exact Nat.zero_le _
end Go.Cm

/- What a step of the machine keeps, and that it comes to an end, in plain Lean. Conditions: as each says. -/
namespace Go.Cm

def muI (T : Nat) (z : IS) : Nat := 2 * (T - z.p) + (if z.md = 1 then 1 else 0)
/-- what a good step does -/
structure StepOk (T pre : Nat) (z z' : IS) : Prop where
  p : z'.p ≤ T
  md : z'.md ≤ 3
  al : z'.md = 1 → z'.p % 8 = 0
  left : z'.left ≤ 65535
  li : errI (nls z'.li) = 0 ∨ z'.md ≠ 2
  di : errI (nls z'.di) = 0 ∨ z'.md ≠ 2
  mu : muI T z' < muI T z
  ap : ∃ c, z'.h = z.h ++ c ∧ c.length ≤ 65535
theorem numB_ok {N T p : Nat} {y : Nat × Nat × Bool} (h : (numB N T p y).2.1 = 0) : y.2.2 = true ∧ (numB N T p y).2.2 = p + y.2.1 ∧ p + y.2.1 ≤ T ∧ (numB N T p y).1 = y.1 + valN N p y.2.1 := by
  unfold numB at h ⊢
  by_cases h1 : y.2.2 = false
  · rw [if_pos h1] at h; cases h
  · rw [if_neg h1] at h ⊢
    obtain ⟨h2, h3⟩ := bitsA_ok h
    refine ⟨by simpa using h1, h2, h3, ?_⟩
    show y.1 + (bitsA N T p y.2.1).1 = _
    unfold bitsA
    rw [if_pos h3]
theorem readF_le (L : List Nat) (V left : Nat) : (readF L V left).2.2 ≤ left := read_le (readF_ok L V left)
theorem readF_pos {L : List Nat} {V left : Nat} (h : (readF L V left).2.1 = 0) : 1 ≤ (readF L V left).2.2 ∧ (readF L V left).1 < L.length ∧ (readF L V left).2.2 = L.getD (readF L V left).1 0 ∧ hitN L V (readF L V left).1 := by
  rcases readF_ok L V left with ⟨h1, h2, h3, h4, h5⟩ | ⟨h1, h2, h3, h4⟩
  · have := h2.1
    exact ⟨by rw [h5]; omega, h1, h5, h2⟩
  · rw [h] at h4; split at h4 <;> cases h4
theorem copyN_app (b : Byts) (d : Nat) : ∀ k, ∃ c, copyN b d k = b ++ c ∧ c.length = k
  | 0 => ⟨[], by simp [copyN], rfl⟩
  | k + 1 => by
    obtain ⟨c, h1, h2⟩ := copyN_app b d k
    refine ⟨c ++ [(copyN b d k).getD ((copyN b d k).length - d) 0], ?_, by simp [h2]⟩
    rw [copyN, h1]
    simp
theorem close_md (z : IS) : (closeI z).md = 3 ∨ (closeI z).md = 0 := by unfold closeI; simp only; split <;> simp
theorem close_ne (z : IS) : (closeI z).md ≠ 1 ∧ (closeI z).md ≠ 2 := by rcases close_md z with h | h <;> rw [h] <;> decide
theorem lenB_le {s : Nat} (h : (lenB s).2.2 = true) : (lenB s).1 ≤ 258 ∧ (lenB s).2.1 ≤ 5 ∧ 3 ≤ (lenB s).1 ∧ (lenB s).1 + 2 ^ (lenB s).2.1 ≤ 259 := by
  unfold lenB at h ⊢
  by_cases h1 : s = 285
  · rw [if_pos h1]; decide
  · rw [if_neg h1] at h ⊢
    by_cases h2 : 257 ≤ s ∧ s < 285
    · rw [if_pos h2]
      have hk : ∀ i, i < 28 → spBase 3 4 i ≤ 258 ∧ spB 4 i ≤ 5 ∧ 3 ≤ spBase 3 4 i ∧ spBase 3 4 i + 2 ^ spB 4 i ≤ 259 := by decide +kernel
      have h3 : s - 257 < 28 := by omega
      generalize s - 257 = i at *
      exact hk i h3
    · rw [if_neg h2] at h; cases h
theorem dstB_le {s : Nat} (h : (dstB s).2.2 = true) : 1 ≤ (dstB s).1 ∧ (dstB s).2.1 ≤ 13 ∧ (dstB s).1 + 2 ^ (dstB s).2.1 ≤ 32769 := by
  unfold dstB at h ⊢
  by_cases h2 : s < 30
  · rw [if_pos h2]
    have hk : ∀ i, i < 30 → 1 ≤ spBase 1 2 i ∧ spB 2 i ≤ 13 ∧ spBase 1 2 i + 2 ^ spB 2 i ≤ 32769 := by decide +kernel
    exact hk s h2
  · rw [if_neg h2] at h; cases h
theorem valN_lt (N p n : Nat) : valN N p n < 2 ^ n := Nat.mod_lt _ (Nat.pow_pos (by decide))
theorem cpyI3_ok {T pre n : Nat} {z : IS} {y : Nat × Nat × Nat} (hi : IOk T pre z) (h2 : z.md = 2) (hn : n ≤ 65535) (hy : y.2.1 = 0 → z.p < y.2.2 ∧ y.2.2 ≤ T) (h : (cpyI3 z n y).1 = 0) : StepOk T pre z (cpyI3 z n y).2 := by
  unfold cpyI3 at h ⊢
  by_cases h0 : y.2.1 ≠ 0
  · rw [if_pos h0] at h; exact absurd h h0
  rw [if_neg h0] at h ⊢
  obtain ⟨y1, y2⟩ := hy (by simpa using h0)
  by_cases h1 : min z.h.length 32768 < y.1
  · rw [if_pos h1] at h; cases h
  rw [if_neg h1]
  obtain ⟨c, c1, c2⟩ := copyN_app z.h y.1 n
  refine ⟨y2, hi.md, fun e => absurd (h2.symm.trans e) (by decide), hi.left, hi.li, hi.di, ?_, c, c1, by omega⟩
  unfold muI
  simp only [h2]
  have := hi.p
  simp
  omega
theorem cpyI_ok {N T pre s p : Nat} {z : IS} (hi : IOk T pre z) (h2 : z.md = 2) (hp : z.p < p) (h : (cpyI N T z s p).1 = 0) : StepOk T pre z (cpyI N T z s p).2 := by
  unfold cpyI at h ⊢
  by_cases h0 : (numB N T p (lenB s)).2.1 ≠ 0
  · rw [if_pos h0] at h; exact absurd h h0
  rw [if_neg h0] at h ⊢
  obtain ⟨n1, n2, n3, n4⟩ := numB_ok (by simpa using h0)
  obtain ⟨l1, l2, l3, l4⟩ := lenB_le n1
  have hv := valN_lt N p (lenB s).2.1
  unfold cpyI2 at h ⊢
  by_cases h3 : (readF z.di (N / 2 ^ (numB N T p (lenB s)).2.2) (T - (numB N T p (lenB s)).2.2)).2.1 ≠ 0
  · rw [if_pos h3] at h; exact absurd h h3
  rw [if_neg h3] at h ⊢
  have hl := readF_le z.di (N / 2 ^ (numB N T p (lenB s)).2.2) (T - (numB N T p (lenB s)).2.2)
  refine cpyI3_ok hi h2 (by rw [n4]; omega) (fun e => ?_) h
  obtain ⟨m1, m2, m3, -⟩ := numB_ok e
  rw [m2]
  exact ⟨by omega, m3⟩
theorem codI_ok {N T pre : Nat} {z : IS} (hi : IOk T pre z) (h2 : z.md = 2) (h : (codI N T z).1 = 0) : StepOk T pre z (codI N T z).2 := by
  unfold codI at h ⊢
  have hl := readF_le z.li (N / 2 ^ z.p) (T - z.p)
  have hpos := readF_pos (L := z.li) (V := N / 2 ^ z.p) (left := T - z.p)
  generalize readF z.li (N / 2 ^ z.p) (T - z.p) = r at *
  have := hi.p
  unfold codI2 at h ⊢
  by_cases h0 : r.2.1 ≠ 0
  · rw [if_pos h0] at h; exact absurd h h0
  rw [if_neg h0] at h ⊢
  obtain ⟨h1, -⟩ := hpos (by simpa using h0)
  by_cases h3 : r.1 = 256
  · rw [if_pos h3]
    obtain ⟨g1, g2⟩ := close_ne { z with p := z.p + r.2.2 }
    refine ⟨by show z.p + r.2.2 ≤ T; omega, by rcases close_md { z with p := z.p + r.2.2 } with e | e <;> rw [e] <;> decide, fun e => absurd e g1, hi.left, .inr g2, .inr g2, ?_, [], by simp [closeI], by simp⟩
    unfold muI
    rw [if_neg g1, if_neg (by rw [h2]; decide)]
    show 2 * (T - (z.p + r.2.2)) + 0 < _
    omega
  rw [if_neg h3] at h ⊢
  by_cases h4 : 256 < r.1
  · rw [if_pos h4] at h ⊢
    exact cpyI_ok hi h2 (by omega) h
  rw [if_neg h4]
  refine ⟨by show z.p + r.2.2 ≤ T; omega, hi.md, fun e => absurd (h2.symm.trans e) (by decide), hi.left, hi.li, hi.di, ?_, _, rfl, by simp⟩
  unfold muI
  simp only [h2]
  simp
  omega
theorem storI_ok {T pre : Nat} {bs : Byts} {z : IS} (hi : IOk T pre z) (h1 : z.md = 1) (h : (storI T bs z).1 = 0) : StepOk T pre z (storI T bs z).2 := by
  unfold storI at h ⊢
  by_cases h0 : z.left = 0
  · rw [if_pos h0]
    obtain ⟨g1, g2⟩ := close_ne z
    refine ⟨hi.p, by rcases close_md z with e | e <;> rw [e] <;> decide, fun e => absurd e g1, hi.left, .inr g2, .inr g2, ?_, [], by simp [closeI], by simp⟩
    unfold muI
    rw [if_neg g1, if_pos h1]
    show 2 * (T - z.p) + 0 < _
    omega
  rw [if_neg h0] at h ⊢
  by_cases h2 : min z.left ((T - z.p) / 8) = 0
  · rw [if_pos h2] at h; cases h
  rw [if_neg h2]
  have hp := hi.p
  have ha := hi.al h1
  have hl := hi.left
  refine ⟨by show z.p + 8 * min z.left ((T - z.p) / 8) ≤ T; omega, hi.md, fun _ => by show (z.p + 8 * min z.left ((T - z.p) / 8)) % 8 = 0; omega, by show z.left - _ ≤ _; omega, hi.li, hi.di, ?_, _, rfl, by rw [List.length_take]; omega⟩
  unfold muI
  simp only [h1]
  simp
  omega
theorem headI_ok {N T pre : Nat} {z : IS} (h8 : 8 ∣ T) (hi : IOk T pre z) (h1 : z.md = 0) (h : (headI N T pre z).1 = 0) : StepOk T pre z (headI N T pre z).2 := by
  unfold headI at h ⊢
  by_cases h0 : (headF N T z.p).2.1 ≠ 0
  · rw [if_pos h0] at h; exact absurd h h0
  rw [if_neg h0]
  have he : (headF N T z.p).2.1 = 0 := by simpa using h0
  obtain ⟨b1, b2, -⟩ := headF_ok h8 hi.p he
  have hk := head_kinds he
  have hr := head_err h8 hi.p he
  have hz := head_size h8 hi.p he
  refine ⟨b2, by show (if _ then 1 else 2) ≤ 3; split <;> decide, fun e => ?_, hz, ?_, ?_, ?_, [], by simp, by simp⟩
  · have e' : (if (headF N T z.p).1.kind = 0 then 1 else 2) = 1 := e
    rcases hk with ⟨-, k2⟩ | ⟨k1, -⟩ | k1
    · exact k2
    · rw [k1] at e'; cases e'
    · rw [k1] at e'; cases e'
  · show errI (nls (headF N T z.p).1.lits) = 0 ∨ (if (headF N T z.p).1.kind = 0 then 1 else 2) ≠ 2
    by_cases k : (headF N T z.p).1.kind = 0
    · rw [if_pos k]; exact .inr (by decide)
    · exact .inl (hr k).1
  · show errI (nls (headF N T z.p).1.dists) = 0 ∨ (if (headF N T z.p).1.kind = 0 then 1 else 2) ≠ 2
    by_cases k : (headF N T z.p).1.kind = 0
    · rw [if_pos k]; exact .inr (by decide)
    · exact .inl (hr k).2
  · unfold muI
    show 2 * (T - (headF N T z.p).2.2) + (if (if (headF N T z.p).1.kind = 0 then 1 else 2) = 1 then 1 else 0) < _
    rw [if_neg (show ¬ z.md = 1 by rw [h1]; decide)]
    have : (if (if (headF N T z.p).1.kind = 0 then 1 else 2) = 1 then 1 else 0) ≤ 1 := by
      generalize (if (headF N T z.p).1.kind = 0 then 1 else 2) = q
      by_cases hq : q = 1
      · rw [if_pos hq]; exact Nat.le_refl _
      · rw [if_neg hq]; exact Nat.zero_le _
    omega
theorem stI_ok {N T pre : Nat} {bs : Byts} {z : IS} (h8 : 8 ∣ T) (hi : IOk T pre z) (hm : z.md ≠ 3) (h : (stI N T pre bs z).1 = 0) : StepOk T pre z (stI N T pre bs z).2 := by
  unfold stI at h ⊢
  by_cases h0 : z.md = 0
  · rw [if_pos h0] at h ⊢; exact headI_ok h8 hi h0 h
  rw [if_neg h0] at h ⊢
  by_cases h1 : z.md = 1
  · rw [if_pos h1] at h ⊢; exact storI_ok hi h1 h
  rw [if_neg h1] at h ⊢
  by_cases h2 : z.md = 2
  · rw [if_pos h2] at h ⊢; exact codI_ok hi h2 h
  · have := hi.md; omega
end Go.Cm
