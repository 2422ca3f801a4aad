/- Texts of this claim, joined: walks of small functions and plain facts about them. Conditions: as each says. -/
import Derived.Test.YticlfmakdblbkaaGH
import Derived.Test.YticlfmakdblbkaaGB
import Derived.BigQuiet
import Derived.Test.YticlfmakdblbkaaGA
import Derived.SizedLaws
import Derived.ProofKit
import Derived.OpenShut
import Derived.Deep.Slices
import Derived.ChangeSlices
import Derived.WideKeyArgs
/- The walks of the document's head and Read. Conditions: the reader is there. -/
namespace Go.Cm
open Go.RowKit Go.Proofs

theorem head_good {N T p a k p1 p2 : Nat} (h1 : bitsA N T p 1 = (a, 0, p1)) (h2 : bitsA N T p1 2 = (k, 0, p2)) : headF N T p = kindN N T p (decide (a = 1)) k (0, p2) := by
  unfold headF
  simp only [xb_zero, h1, h2]
theorem head_bad {N T p a k e1 e2 p1 p2 : Nat} (h1 : bitsA N T p 1 = (a, e1, p1)) (h2 : bitsA N T p1 2 = (k, e2, p2)) (h : e1 ≠ 0 ∨ e2 ≠ 0) : headF N T p = (HeadN.zero, 2, p) := by
  have t1 := bitsA_two (N := N) (T := T) (p := p) (n := 1)
  have t2 := bitsA_two (N := N) (T := T) (p := p1) (n := 2)
  rw [h1] at t1
  rw [h2] at t2
  unfold headF
  by_cases he1 : e1 = 0
  · subst he1
    have he2 : e2 ≠ 0 := by omega
    simp only [xb_zero, h1, h2]
    have e := t2 he2
    simp only at e
    subst e
    exact if_pos (by exact he2)
  · simp only [xb_zero, h1, xb_bad he1]
    have e := t1 he1
    simp only at e
    subst e
    exact if_pos (by exact he1)

set_option maxRecDepth 100000 in
set_option maxHeartbeats 4000000 in
theorem headRR {w : World} {g p : Nat} {s : ByteArray} (h : BoxT w g s p) (hs : s.size ≤ 4294967296) (hp : p ≤ 8 * s.size) :
    Calls Try.prog 37 #[.pointer (some ⟨g, 0, none⟩)] w (RetHR (headF (numS s) (8 * s.size) p).1 (headF (numS s) (8 * s.size) p).2.1 (headF (numS s) (8 * s.size) p).2.2 s g w) := by
  have HB := Lib.hid h
  have hgw := h.lt
  have HBT := Lib.hid (fun (W : World) (p n : Nat) (hn : n ≤ 32) (hb : BoxT W g s p) (hp : p ≤ 8 * s.size) => bitsT hb hs n hn hp)
  have HSTO := Lib.hid (fun (W : World) (p k : Nat) (fin : Bool) (hb : BoxT W g s p) (hp : p ≤ 8 * s.size) => storedRR (k := k) (fin := fin) hb hs hp)
  have HDYN := Lib.hid (fun (W : World) (p k : Nat) (fin : Bool) (hb : BoxT W g s p) (hp : p ≤ 8 * s.size) => dynamicRR (k := k) (fin := fin) hb hs hp)
  obtain ⟨D, hD⟩ : ∃ D, D = headF (numS s) (8 * s.size) p := ⟨_, rfl⟩
  rw [← hD]
  obtain ⟨r1, h1⟩ : ∃ r1, r1 = bitsA (numS s) (8 * s.size) p 1 := ⟨_, rfl⟩
  obtain ⟨a, e1, p1⟩ := r1
  obtain ⟨r2, h2⟩ : ∃ r2, r2 = bitsA (numS s) (8 * s.size) p1 2 := ⟨_, rfl⟩
  obtain ⟨k, e2, p2⟩ := r2
  have HP1 : Hid (p1 ≤ 8 * s.size) := Lib.hid (by have := (bitsA_le (N := numS s) (n := 1) hp).1; rw [← h1] at this; exact this)
  have HP2 : Hid (p2 ≤ 8 * s.size) := Lib.hid (by have := (bitsA_le (N := numS s) (n := 2) HP1.out).1; rw [← h2] at this; exact this)
  have ha : a < 2 := by have := bitsA_lt (N := numS s) (T := 8 * s.size) (p := p) (n := 1); rw [← h1] at this; exact this
  have hk : k < 4 := by have := bitsA_lt (N := numS s) (T := 8 * s.size) (p := p1) (n := 2); rw [← h2] at this; exact this
  have HB1 : Hid (∀ W, BoxT W g s p → Calls Try.prog 58 #[.pointer (some ⟨g, 0, none⟩), .int .i64 1] W fun e w' => e = .returned (.tuple #[.int .i64 (a : Nat), .int .i64 (e1 : Nat)]) ∧ BoxT w' g s p1 ∧ W.grownBy w' (some g)) := Lib.hid (fun W h => by
    have := HBT.out W p 1 (by omega) h hp
    unfold RetBits at this
    rw [← h1] at this
    exact this)
  have HB2 : Hid (∀ W, BoxT W g s p1 → Calls Try.prog 58 #[.pointer (some ⟨g, 0, none⟩), .int .i64 2] W fun e w' => e = .returned (.tuple #[.int .i64 (k : Nat), .int .i64 (e2 : Nat)]) ∧ BoxT w' g s p2 ∧ W.grownBy w' (some g)) := Lib.hid (fun W h => by
    have := HBT.out W p1 2 (by omega) h HP1.out
    unfold RetBits at this
    rw [← h2] at this
    exact this)
  have HBAD : Hid (e1 ≠ 0 ∨ e2 ≠ 0 → D = (HeadN.zero, 2, p)) := Lib.hid (fun h => by rw [hD]; exact head_bad h1.symm h2.symm h)
  have HGOOD : Hid (e1 = 0 → e2 = 0 → D = kindN (numS s) (8 * s.size) p (decide (a = 1)) k (0, p2)) := Lib.hid (fun q1 q2 => by subst q1 q2; rw [hD]; exact head_good h1.symm h2.symm)
  have HR0 : Hid (∀ w1 : World, w.alloc (.cells #[Value.bool false, .int .i64 0, .int .i64 0, .slice none 0 0, .slice none 0 0] 36) = w1 → Own w1 w.heap.size 36 (.slice (some ⟨w.heap.size, 0, none⟩) 5 5) zH.toList ∧ BoxT w1 g s p ∧ Below w.heap.size w w1) := Lib.hid (fun w1 e => by
    subst e
    have h1 := own_lit w w.heap.size zH 36 (by simp [zH]) (Nat.le_refl _)
    exact ⟨by simpa [zH] using h1, HB.out.up (by repeat (first | exact Below.refl _ _ | assumption | refine b_drewN ?_ _ | refine Below.drew ?_ | refine b_ext' ?_ _ | refine b_alloc' ?_ _)), (by repeat (first | exact Below.refl _ _ | assumption | refine b_drewN ?_ _ | refine Below.drew ?_ | refine b_ext' ?_ _ | refine b_alloc' ?_ _))⟩)
  have hfe : ((a : Int) == 1) = decide (a = 1) := by
    by_cases h : a = 1
    · subst h; rfl
    · rw [decide_eq_false h]; simp; omega
  clear hD h h1 h2 HBT
  generalize decide (a = 1) = fn at *
  unfold RetHR
  go_enter Try.func37, Try.ntmps37
  go_upto_region 3 with (go_at_call 58; first | ((obtain ⟨hr0, hx0, hbl0⟩ := HR0.out _ rfl); (with_reducible refine (HB1.out _ hx0).mono ?_); rintro e w1 ⟨rfl, hb1, hg1⟩; (have hne1 := hbl0.size; have HR_w1 := Lib.hid (hr0.keepN hg1 (fun e => by injection e with e; omega)); have HG_w1 := Lib.hid (grown_trans (grown_below hbl0 (some g)) hg1); have HX_w1 := Lib.hid hb1; have HC2 := Lib.hid (HB2.out w1 hb1); clear hr0 hx0 hbl0 hb1 hg1 HR0 HB1)) | ((with_reducible refine HC2.out.mono ?_); rintro e w3 ⟨rfl, hb1, hg1⟩; (have HR_w3 := Lib.hid (HR_w1.out.keepN hg1 (fun e => by injection e with e; omega)); have HG_w3 := Lib.hid (grown_trans HG_w1.out hg1); have HX_w3 := Lib.hid hb1; clear hb1 hg1 HC2)))
  clear HR_w1 HG_w1 HX_w1 HB2
  have hs3 := HG_w3.out.size
  by_cases he : e1 ≠ 0 ∨ e2 ≠ 0
  · have HDE := Lib.hid (HBAD.out he)
    clear HBAD HGOOD HSTO HDYN
    by_cases q1 : e1 = 0
    · subst q1
      have q2 : ((e2 : Int) != 0) = true := by
        have : e2 ≠ 0 := by omega
        simpa using this
      clear he
      go_wp2_with (refine wpList_store_agg rfl 36 _ _ rfl w.heap.size 36 w.heap.size 5 5 rfl zH rfl (by kernel_rfl) _ HR_w3.out (by simp [zH]) (zH_one) ?_; intro wz hownz hgz; (have HGZ := Lib.hid hgz; have HRZ := Lib.hid hownz; clear hownz hgz))
      have HRY : Hid (Own wz w.heap.size 36 (.slice (some ⟨w.heap.size, 0, none⟩) 5 5) zH.toList) := HRZ
      refine ret_cell_tmp (s := 2) (b := 3) (ad := ⟨w.heap.size, 0, none⟩) (x := .agg zH) (y := .int .i64 2) rfl rfl rfl rfl (load_whole (n := 5) HRY.out _ Try.underlying36 rfl (by kernel_rfl)) ?_
      rw [HDE.out]
      have hxz := HX_w3.out.stay HGZ.out (fun e => by injection e with e; omega)
      have hgz := grown_new HG_w3.out HGZ.out (Nat.le_refl _)
      first | exact ⟨_, _, p2, rfl, Own.nil _ _ _, Own.nil _ _ _, hxz, HP2.out, (fun h => by cases h), hgz⟩ | exact ⟨_, _, rfl, Own.nil _ _ _, Own.nil _ _ _, p2, hxz, HP2.out, (fun h => by cases h), hgz⟩
    · have q1' : ((e1 : Int) != 0) = true := by simpa using q1
      clear he q1
      go_wp2_with (refine wpList_store_agg rfl 36 _ _ rfl w.heap.size 36 w.heap.size 5 5 rfl zH rfl (by kernel_rfl) _ HR_w3.out (by simp [zH]) (zH_one) ?_; intro wz hownz hgz; (have HGZ := Lib.hid hgz; have HRZ := Lib.hid hownz; clear hownz hgz))
      have HRY : Hid (Own wz w.heap.size 36 (.slice (some ⟨w.heap.size, 0, none⟩) 5 5) zH.toList) := HRZ
      refine ret_cell_tmp (s := 2) (b := 3) (ad := ⟨w.heap.size, 0, none⟩) (x := .agg zH) (y := .int .i64 2) rfl rfl rfl rfl (load_whole (n := 5) HRY.out _ Try.underlying36 rfl (by kernel_rfl)) ?_
      rw [HDE.out]
      have hxz := HX_w3.out.stay HGZ.out (fun e => by injection e with e; omega)
      have hgz := grown_new HG_w3.out HGZ.out (Nat.le_refl _)
      first | exact ⟨_, _, p2, rfl, Own.nil _ _ _, Own.nil _ _ _, hxz, HP2.out, (fun h => by cases h), hgz⟩ | exact ⟨_, _, rfl, Own.nil _ _ _, Own.nil _ _ _, p2, hxz, HP2.out, (fun h => by cases h), hgz⟩
  · obtain ⟨q1, q2⟩ : e1 = 0 ∧ e2 = 0 := by omega
    subst q1 q2
    have HDM := Lib.hid (HGOOD.out rfl rfl)
    clear HBAD HGOOD he
    have hz3 := HR_w3.out.blk.2
    have HA4 : Hid (∀ w1 : World, w3.alloc (.cells #[Value.bool fn, .int .i64 (k : Nat), .int .i64 0, .slice none 0 0, .slice none 0 0] 36) = w1 → Own w1 w3.heap.size 36 (.slice (some ⟨w3.heap.size, 0, none⟩) 5 5) [Value.bool fn, .int .i64 (k : Nat), .int .i64 (0 : Nat), .slice none 0 0, .slice none 0 0] ∧ BoxT w1 g s p2 ∧ Own w1 w.heap.size 36 (.slice (some ⟨w.heap.size, 0, none⟩) 5 5) zH.toList ∧ w.grownBy w1 (some g)) := Lib.hid (fun w1 e => by
      subst e
      have h1 := own_lit w3 w3.heap.size #[Value.bool fn, .int .i64 (k : Nat), .int .i64 0, .slice none 0 0, .slice none 0 0] 36 (by simp) (Nat.le_refl _)
      exact ⟨by simpa using h1, HX_w3.out.up (below_alloc _ _), HR_w3.out.up (below_alloc _ _), grown_trans HG_w3.out (grown_below (below_alloc _ _) _)⟩)
    have hd := HDM.out
    unfold kindN at hd
    rw [if_neg (fun h => h rfl)] at hd
    clear HDM
    by_cases hk0 : k = 0
    · subst hk0
      rw [if_pos rfl] at hd
      have HST : Hid (∀ W, BoxT W g s p2 → Calls Try.prog 59 #[.pointer (some ⟨g, 0, none⟩), .agg #[.bool fn, .int .i64 0, .int .i64 0, .slice none 0 0, .slice none 0 0]] W (RetHR (if (storedN (numS s) (8 * s.size) (0, p2)).2.1 = 0 then ⟨fn, 0, (storedN (numS s) (8 * s.size) (0, p2)).1, [], []⟩ else HeadN.zero) (storedN (numS s) (8 * s.size) (0, p2)).2.1 (storedN (numS s) (8 * s.size) (0, p2)).2.2 s g W)) := Lib.hid (fun W hb => HSTO.out W p2 0 fn hb HP2.out)
      generalize storedN (numS s) (8 * s.size) (0, p2) = sn at *
      obtain ⟨sz, er, pf⟩ := sn
      dsimp only at hd HST
      obtain ⟨H', hH'⟩ : ∃ H', H' = if er = 0 then (⟨fn, 0, sz, [], []⟩ : HeadN) else HeadN.zero := ⟨_, rfl⟩
      rw [← hH'] at HST
      have HE1 : Hid (D.1 = H') := Lib.hid (by
        rw [hd, hH']
        by_cases h : er = 0
        · rw [if_neg (fun z => z h), if_pos h]
        · rw [if_pos h, if_neg h])
      have HE2 : Hid (D.2.1 = er) := Lib.hid (by
        rw [hd]
        by_cases h : er = 0
        · rw [if_neg (fun z => z h), h]
        · rw [if_pos h])
      have HE3 : Hid (er = 0 → D.2.2 = pf) := Lib.hid (fun h => by rw [hd, if_neg (fun z => z h)])
      clear hd hH' HSTO HDYN
      go_wp2_with (first | (go_at_call 59; (obtain ⟨hh0, hx0, hr0, hg0⟩ := HA4.out _ rfl); (refine (HST.out _ hx0).mono ?_); rintro e w5 ⟨v1, v2, p5, rfl, ho1, ho2, hx5, hp5, hpe, hg5⟩; (have hl4 := hr0.blk.2; have HR5 := Lib.hid (hr0.keepN hg5 (fun e => by injection e with e; omega)); have HG5 := Lib.hid (grown_trans hg0 hg5); have HX5 := Lib.hid hx5; have HP5 := Lib.hid hp5; have HPE := Lib.hid hpe; have HO1 := Lib.hid ho1; have HO2 := Lib.hid ho2; obtain ⟨o1, c1, g1, hv1, -⟩ := ho1.cases; obtain ⟨o2, c2, g2, hv2, -⟩ := ho2.cases; subst hv1 hv2; generalize (ints (nls H'.lits)).length = n1 at *; generalize (ints (nls H'.dists)).length = n2 at *; clear hh0 hx0 hr0 hg0 ho1 ho2 hx5 hp5 hpe hg5)) | (refine wpList_store_agg rfl 36 _ _ rfl w.heap.size 36 w.heap.size 5 5 rfl #[.bool H'.fin, .int .i64 (H'.kind : Nat), .int .i64 (H'.size : Nat), .slice o1 n1 c1, .slice o2 n2 c2] rfl (by kernel_rfl) _ HR5.out (by simp [zH]) (head_one _ _ _ _ _ _ _ _ _) ?_; intro wz hownz hgz; (have HGZ := Lib.hid hgz; have HRZ := Lib.hid hownz; clear hownz hgz)))
      have hrz := HRZ.out
      rw [List.drop_of_length_le (by simp [zH]), List.append_nil] at hrz
      refine ret_cell_tmp (s := 2) (b := 3) (ad := ⟨w.heap.size, 0, none⟩) (x := .agg #[.bool H'.fin, .int .i64 (H'.kind : Nat), .int .i64 (H'.size : Nat), .slice o1 n1 c1, .slice o2 n2 c2]) (y := .int .i64 (er : Nat)) rfl rfl rfl rfl (load_whole (n := 5) hrz _ Try.underlying36 rfl (by kernel_rfl)) ?_
      rw [HE1.out, HE2.out]
      have hxz := HX5.out.stay HGZ.out (fun e => by injection e with e; omega)
      have hgz := grown_new HG5.out HGZ.out (Nat.le_refl _)
      have hoz := (HO1.out.keep HGZ.out (ne_of_row (fun q hq e => by have := (HO1.out.lt q hq).1; injection e with e; omega))).mono (B' := w.heap.size) (by omega)
      have hpz := (HO2.out.keep HGZ.out (ne_of_row (fun q hq e => by have := (HO2.out.lt q hq).1; injection e with e; omega))).mono (B' := w.heap.size) (by omega)
      first | exact ⟨_, _, p5, rfl, hoz, hpz, hxz, HP5.out, fun h => (HPE.out h).trans (HE3.out h).symm, hgz⟩ | exact ⟨_, _, rfl, hoz, hpz, p5, hxz, HP5.out, fun h => (HPE.out h).trans (HE3.out h).symm, hgz⟩
    · rw [if_neg hk0] at hd
      have hki : ((k : Int) == 0) = false := by simpa using hk0
      by_cases hk1 : k = 1
      · subst hk1
        rw [if_pos rfl] at hd
        have HD2 := Lib.hid hd
        clear hd HSTO HDYN
        have HFL := Lib.hid (fun W => fixLR W)
        have HFD := Lib.hid (fun W => fixDR W)
        unfold RetRow at HFL HFD
        generalize fixL = L1 at *
        generalize fixD = L2 at *
        go_wp2_with (first | (go_at_call 29; (obtain ⟨hh0, hx0, hr0, hg0⟩ := HA4.out _ rfl); (with_reducible refine (HFL.out _).mono ?_); rintro e w5 ⟨v1, rfl, ho1, hb5⟩; (have HO1 := Lib.hid (ho1.mono (B' := w3.heap.size + 1) (by simp)); have HH5 := Lib.hid (hh0.up hb5); have HR5 := Lib.hid (hr0.up hb5); have HX5 := Lib.hid (hx0.up hb5); have HG5 := Lib.hid (grown_trans hg0 (grown_below hb5 _)); obtain ⟨o1, c1, g1, hv1, -⟩ := ho1.cases; subst hv1; generalize (ints (nls L1)).length = n1 at *; have hl5 := HH5.out.blk.2; have hf5 := HH5.out.free 3; have hc5 := HH5.out.cell (i := 3) (by simp); have HS5 := Lib.hid (HH5.out.store 3 (.slice o1 n1 c1)); clear hh0 hx0 hr0 hg0 ho1 hb5)) | (go_at_call 30; (with_reducible refine (HFD.out _).mono ?_); rintro e w6 ⟨v2, rfl, ho2, hb6⟩; (have hl6 := HS5.out.1.blk.2; have HO2 := Lib.hid (ho2.mono (B' := w3.heap.size + 1) (by omega)); have HO1' := Lib.hid ((HO1.out.keep HS5.out.2 (ne_of_row (fun q hq e => by have := (HO1.out.lt q hq).1; injection e with e; omega))).up hb6); have HH6 := Lib.hid (HS5.out.1.up hb6); have HR6 := Lib.hid ((HR5.out.keepN HS5.out.2 (fun e => by injection e with e; omega)).up hb6); have HX6 := Lib.hid ((HX5.out.stay HS5.out.2 (fun e => by injection e with e; omega)).up hb6); have HG6 := Lib.hid (grown_trans (grown_new HG5.out HS5.out.2 hs3) (grown_below hb6 _)); obtain ⟨o2, c2, g2, hv2, -⟩ := ho2.cases; subst hv2; generalize (ints (nls L2)).length = n2 at *; have hl7 := HH6.out.blk.2; have hf6 := HH6.out.free 4; have hc6 := HH6.out.cell (i := 4) (by simp); have HS6 := Lib.hid (HH6.out.store 4 (.slice o2 n2 c2)); obtain ⟨A, hA, hAs, hAl⟩ := HS6.out.1.whole; have hA1 : ∀ u ∈ A.toList, u.oneCell' = true := (by rw [hAl]; exact head_one fn 1 0 o1 o2 n1 n2 c1 c2); have HAL := Lib.hid hAl; have HR7 := Lib.hid (HR6.out.keepN HS6.out.2 (fun e => by injection e with e; omega)); clear ho2 hb6 hAl)) | (refine load_box rfl 36 5 _ rfl w3.heap.size rfl A hAs hA _ Try.underlying36 rfl (by kernel_rfl) ?_) | (refine wpList_store_agg rfl 36 _ _ rfl w.heap.size 36 w.heap.size 5 5 rfl A rfl (by rw [hAs]; kernel_rfl) _ HR7.out (by rw [hAs]; simp [zH]) hA1 ?_; intro wz hownz hgz; (have HGZ := Lib.hid hgz; have HRZ := Lib.hid hownz; clear hownz hgz)))
        have hr9 := HRZ.out
        rw [hAs, List.drop_of_length_le (by simp [zH]), List.append_nil] at hr9
        refine ret_cell_tmp (s := 2) (b := 3) (ad := ⟨w.heap.size, 0, none⟩) (x := .agg A) (y := .int .i64 0) rfl rfl rfl rfl (load_whole (n := 5) hr9 _ Try.underlying36 rfl (by kernel_rfl)) ?_
        have hAe : A = #[.bool fn, .int .i64 (1 : Nat), .int .i64 (0 : Nat), .slice o1 n1 c1, .slice o2 n2 c2] := by
          rw [← Array.toArray_toList (xs := A), HAL.out]; rfl
        rw [HD2.out, hAe]
        have hxz := (HX6.out.stay HS6.out.2 (fun e => by injection e with e; omega)).stay HGZ.out (fun e => by injection e with e; omega)
        have hgz := grown_new (grown_new HG6.out HS6.out.2 hs3) HGZ.out (Nat.le_refl _)
        have hoz := ((HO1'.out.keep HS6.out.2 (ne_of_row (fun q hq e => by have := (HO1'.out.lt q hq).1; injection e with e; omega))).keep HGZ.out (ne_of_row (fun q hq e => by have := (HO1'.out.lt q hq).1; injection e with e; omega))).mono (B' := w.heap.size) (by omega)
        have hpz := ((HO2.out.keep HS6.out.2 (ne_of_row (fun q hq e => by have := (HO2.out.lt q hq).1; injection e with e; omega))).keep HGZ.out (ne_of_row (fun q hq e => by have := (HO2.out.lt q hq).1; injection e with e; omega))).mono (B' := w.heap.size) (by omega)
        first | exact ⟨_, _, p2, rfl, hoz, hpz, hxz, HP2.out, fun _ => rfl, hgz⟩ | exact ⟨_, _, rfl, hoz, hpz, p2, hxz, HP2.out, fun _ => rfl, hgz⟩
      · rw [if_neg hk1] at hd
        have hki1 : ((k : Int) == 1) = false := by simp; omega
        by_cases hk2 : k = 2
        · subst hk2
          rw [if_pos rfl] at hd
          have HST : Hid (∀ W, BoxT W g s p2 → Calls Try.prog 60 #[.pointer (some ⟨g, 0, none⟩), .agg #[.bool fn, .int .i64 2, .int .i64 0, .slice none 0 0, .slice none 0 0]] W (RetHR (if (dynN (numS s) (8 * s.size) (0, p2)).2.2.1 = 0 then ⟨fn, 2, 0, (dynN (numS s) (8 * s.size) (0, p2)).1, (dynN (numS s) (8 * s.size) (0, p2)).2.1⟩ else HeadN.zero) (dynN (numS s) (8 * s.size) (0, p2)).2.2.1 (dynN (numS s) (8 * s.size) (0, p2)).2.2.2 s g W)) := Lib.hid (fun W hb => HDYN.out W p2 2 fn hb HP2.out)
          generalize dynN (numS s) (8 * s.size) (0, p2) = sn at *
          obtain ⟨l1, l2, er, pf⟩ := sn
          dsimp only at hd HST
          obtain ⟨H', hH'⟩ : ∃ H', H' = if er = 0 then (⟨fn, 2, 0, l1, l2⟩ : HeadN) else HeadN.zero := ⟨_, rfl⟩
          rw [← hH'] at HST
          have HE1 : Hid (D.1 = H') := Lib.hid (by
            rw [hd, hH']
            by_cases h : er = 0
            · rw [if_neg (fun z => z h), if_pos h]
            · rw [if_pos h, if_neg h])
          have HE2 : Hid (D.2.1 = er) := Lib.hid (by
            rw [hd]
            by_cases h : er = 0
            · rw [if_neg (fun z => z h), h]
            · rw [if_pos h])
          have HE3 : Hid (er = 0 → D.2.2 = pf) := Lib.hid (fun h => by rw [hd, if_neg (fun z => z h)])
          clear hd hH' HSTO HDYN
          go_wp2_with (first | (go_at_call 60; (obtain ⟨hh0, hx0, hr0, hg0⟩ := HA4.out _ rfl); (refine (HST.out _ hx0).mono ?_); rintro e w5 ⟨v1, v2, p5, rfl, ho1, ho2, hx5, hp5, hpe, hg5⟩; (have hl4 := hr0.blk.2; have HR5 := Lib.hid (hr0.keepN hg5 (fun e => by injection e with e; omega)); have HG5 := Lib.hid (grown_trans hg0 hg5); have HX5 := Lib.hid hx5; have HP5 := Lib.hid hp5; have HPE := Lib.hid hpe; have HO1 := Lib.hid ho1; have HO2 := Lib.hid ho2; obtain ⟨o1, c1, g1, hv1, -⟩ := ho1.cases; obtain ⟨o2, c2, g2, hv2, -⟩ := ho2.cases; subst hv1 hv2; generalize (ints (nls H'.lits)).length = n1 at *; generalize (ints (nls H'.dists)).length = n2 at *; clear hh0 hx0 hr0 hg0 ho1 ho2 hx5 hp5 hpe hg5)) | (refine wpList_store_agg rfl 36 _ _ rfl w.heap.size 36 w.heap.size 5 5 rfl #[.bool H'.fin, .int .i64 (H'.kind : Nat), .int .i64 (H'.size : Nat), .slice o1 n1 c1, .slice o2 n2 c2] rfl (by kernel_rfl) _ HR5.out (by simp [zH]) (head_one _ _ _ _ _ _ _ _ _) ?_; intro wz hownz hgz; (have HGZ := Lib.hid hgz; have HRZ := Lib.hid hownz; clear hownz hgz)))
          have hrz := HRZ.out
          rw [List.drop_of_length_le (by simp [zH]), List.append_nil] at hrz
          refine ret_cell_tmp (s := 2) (b := 3) (ad := ⟨w.heap.size, 0, none⟩) (x := .agg #[.bool H'.fin, .int .i64 (H'.kind : Nat), .int .i64 (H'.size : Nat), .slice o1 n1 c1, .slice o2 n2 c2]) (y := .int .i64 (er : Nat)) rfl rfl rfl rfl (load_whole (n := 5) hrz _ Try.underlying36 rfl (by kernel_rfl)) ?_
          rw [HE1.out, HE2.out]
          have hxz := HX5.out.stay HGZ.out (fun e => by injection e with e; omega)
          have hgz := grown_new HG5.out HGZ.out (Nat.le_refl _)
          have hoz := (HO1.out.keep HGZ.out (ne_of_row (fun q hq e => by have := (HO1.out.lt q hq).1; injection e with e; omega))).mono (B' := w.heap.size) (by omega)
          have hpz := (HO2.out.keep HGZ.out (ne_of_row (fun q hq e => by have := (HO2.out.lt q hq).1; injection e with e; omega))).mono (B' := w.heap.size) (by omega)
          first | exact ⟨_, _, p5, rfl, hoz, hpz, hxz, HP5.out, fun h => (HPE.out h).trans (HE3.out h).symm, hgz⟩ | exact ⟨_, _, rfl, hoz, hpz, p5, hxz, HP5.out, fun h => (HPE.out h).trans (HE3.out h).symm, hgz⟩
        · rw [if_neg hk2] at hd
          have hki2 : ((k : Int) == 2) = false := by simp; omega
          have HDE := Lib.hid hd
          clear hd HSTO HDYN
          obtain ⟨hh0, hx0, hr0, hg0⟩ := HA4.out _ rfl
          have HR5 := Lib.hid hr0
          have HX5 := Lib.hid hx0
          have HG5 := Lib.hid hg0
          clear hh0 hx0 hr0 hg0
          go_wp2_with (refine wpList_store_agg rfl 36 _ _ rfl w.heap.size 36 w.heap.size 5 5 rfl zH rfl (by kernel_rfl) _ HR5.out (by simp [zH]) zH_one ?_; intro wz hownz hgz; (have HGZ := Lib.hid hgz; have HRZ := Lib.hid hownz; clear hownz hgz))
          have HRY : Hid (Own wz w.heap.size 36 (.slice (some ⟨w.heap.size, 0, none⟩) 5 5) zH.toList) := HRZ
          refine ret_cell_tmp (s := 2) (b := 3) (ad := ⟨w.heap.size, 0, none⟩) (x := .agg zH) (y := .int .i64 11) rfl rfl rfl rfl (load_whole (n := 5) HRY.out _ Try.underlying36 rfl (by kernel_rfl)) ?_
          rw [HDE.out]
          have hxz := HX5.out.stay HGZ.out (fun e => by injection e with e; omega)
          have hgz := grown_new HG5.out HGZ.out (Nat.le_refl _)
          first | exact ⟨_, _, p2, rfl, Own.nil _ _ _, Own.nil _ _ _, hxz, HP2.out, (fun h => by cases h), hgz⟩ | exact ⟨_, _, rfl, Own.nil _ _ _, Own.nil _ _ _, p2, hxz, HP2.out, (fun h => by cases h), hgz⟩
end Go.Cm

/- The walk of the document's Read of a head. Conditions: the reader is there. -/
namespace Go.Cm
open Go.RowKit Go.Proofs

theorem kindN_err {N T p k : Nat} {fin : Bool} {st : Nat × Nat} (h : (kindN N T p fin k st).2.1 ≠ 0) : (kindN N T p fin k st).2.2 = p := by
  unfold kindN at h ⊢
  by_cases h1 : st.1 ≠ 0
  · rw [if_pos h1]
  · rw [if_neg h1] at h ⊢
    by_cases h2 : k = 0
    · rw [if_pos h2] at h ⊢
      by_cases h3 : (storedN N T st).2.1 ≠ 0
      · rw [if_pos h3]
      · rw [if_neg h3] at h; exact absurd rfl h
    · rw [if_neg h2] at h ⊢
      by_cases h3 : k = 1
      · rw [if_pos h3] at h; exact absurd rfl h
      · rw [if_neg h3] at h ⊢
        by_cases h4 : k = 2
        · rw [if_pos h4] at h ⊢
          by_cases h5 : (dynN N T st).2.2.1 ≠ 0
          · rw [if_pos h5]
          · rw [if_neg h5] at h; exact absurd rfl h
        · rw [if_neg h4]
theorem headF_err {N T p : Nat} (h : (headF N T p).2.1 ≠ 0) : (headF N T p).2.2 = p := kindN_err h

set_option maxRecDepth 100000 in
set_option maxHeartbeats 4000000 in
theorem readHR {w : World} {g p : Nat} {s : ByteArray} (h : BoxT w g s p) (hs : s.size ≤ 4294967296) (hp : p ≤ 8 * s.size) :
    Calls Try.prog 13 #[.pointer (some ⟨g, 0, none⟩)] w (RetHead BoxT s p g w) := by
  have HB := Lib.hid h
  have hgw := h.lt
  have HHD := Lib.hid (fun (W : World) (hb : BoxT W g s p) => headRR hb hs hp)
  unfold RetHead
  have HER := Lib.hid (headF_err (N := numS s) (T := 8 * s.size) (p := p))
  generalize headF (numS s) (8 * s.size) p = D at *
  obtain ⟨H', er, pf⟩ := D
  unfold RetHR at HHD
  dsimp only at HHD HER ⊢
  have HR0 : Hid (∀ w1 : World, w.alloc (.cells #[Value.bool false, .int .i64 0, .int .i64 0, .slice none 0 0, .slice none 0 0] 36) = w1 → Own w1 w.heap.size 36 (.slice (some ⟨w.heap.size, 0, none⟩) 5 5) zH.toList ∧ BoxT w1 g s p ∧ Below w.heap.size w w1) := Lib.hid (fun w1 e => by
    subst e
    have h1 := own_lit w w.heap.size zH 36 (by simp [zH]) (Nat.le_refl _)
    exact ⟨by simpa [zH] using h1, HB.out.up (by repeat (first | exact Below.refl _ _ | assumption | refine b_drewN ?_ _ | refine Below.drew ?_ | refine b_ext' ?_ _ | refine b_alloc' ?_ _)), (by repeat (first | exact Below.refl _ _ | assumption | refine b_drewN ?_ _ | refine Below.drew ?_ | refine b_ext' ?_ _ | refine b_alloc' ?_ _))⟩)
  have c1 := h.c1
  clear h
  go_enter Try.func13, Try.ntmps13
  go_upto_region 3 with (go_at_call 37; (obtain ⟨hr0, hx0, hbl0⟩ := HR0.out _ rfl); (refine (HHD.out _ hx0).mono ?_); rintro e w5 ⟨v1, v2, p5, rfl, ho1, ho2, hx5, hp5, hpe, hg5⟩; (have hl4 := hr0.blk.2; have HR5 := Lib.hid (hr0.keepN hg5 (fun e => by injection e with e; omega)); have HG5 := Lib.hid (grown_trans (grown_below hbl0 (some g)) hg5); have HX5 := Lib.hid hx5; have HPE := Lib.hid hpe; have HO1 := Lib.hid ho1; have HO2 := Lib.hid ho2; obtain ⟨o1, c1', g1, hv1, -⟩ := ho1.cases; obtain ⟨o2, c2', g2, hv2, -⟩ := ho2.cases; subst hv1 hv2; generalize (ints (nls H'.lits)).length = n1 at *; generalize (ints (nls H'.dists)).length = n2 at *; have hs5 := hg5.size; have hs6 := HG5.out.size; clear hr0 hx0 hbl0 ho1 ho2 hx5 hp5 hpe hg5 HHD HR0))
  have hz5 := HR5.out.blk.2
  have HA6 : Hid (∀ w1 : World, w5.alloc (.cells #[Value.bool H'.fin, .int .i64 (H'.kind : Nat), .int .i64 (H'.size : Nat), .slice o1 n1 c1', .slice o2 n2 c2'] 36) = w1 → Own w1 w5.heap.size 36 (.slice (some ⟨w5.heap.size, 0, none⟩) 5 5) [Value.bool H'.fin, .int .i64 (H'.kind : Nat), .int .i64 (H'.size : Nat), .slice o1 n1 c1', .slice o2 n2 c2'] ∧ BoxT w1 g s p5 ∧ Own w1 w.heap.size 36 (.slice (some ⟨w.heap.size, 0, none⟩) 5 5) zH.toList ∧ w.grownBy w1 (some g) ∧ Below w5.heap.size w5 w1) := Lib.hid (fun w1 e => by
    subst e
    have h1 := own_lit w5 w5.heap.size #[Value.bool H'.fin, .int .i64 (H'.kind : Nat), .int .i64 (H'.size : Nat), .slice o1 n1 c1', .slice o2 n2 c2'] 36 (by simp) (Nat.le_refl _)
    exact ⟨by simpa using h1, HX5.out.up (below_alloc _ _), HR5.out.up (below_alloc _ _), grown_trans HG5.out (grown_below (below_alloc _ _) _), below_alloc _ _⟩)
  obtain ⟨hh6, hx6, hr6, hg6, hb6⟩ := HA6.out _ rfl
  have HO1' := Lib.hid (HO1.out.up hb6)
  have HO2' := Lib.hid (HO2.out.up hb6)
  clear HA6 HO1 HO2 hb6 HR5 HX5 HG5
  have hne0 := hh6.blk
  generalize w5.alloc (.cells #[Value.bool H'.fin, .int .i64 (H'.kind : Nat), .int .i64 (H'.size : Nat), .slice o1 n1 c1', .slice o2 n2 c2'] 36) = w6 at *
  generalize w5.heap.size = b at *
  by_cases he : er = 0
  · subst he
    have HPF := HPE.out rfl
    subst HPF
    obtain ⟨A, hA, hAs, hAl⟩ := hh6.whole
    have hA1 : ∀ u ∈ A.toList, u.oneCell' = true := by rw [hAl]; exact head_one _ _ _ _ _ _ _ _ _
    have HAL := Lib.hid hAl
    have HR6 := Lib.hid hr6
    have HX6 := Lib.hid hx6
    have HG6 := Lib.hid hg6
    clear hh6 hx6 hr6 hg6 hAl
    go_wp2_with (first | (refine load_box rfl 36 5 _ rfl b rfl A hAs hA _ Try.underlying36 rfl (by kernel_rfl) ?_) | (refine wpList_store_agg rfl 36 _ _ rfl w.heap.size 36 w.heap.size 5 5 rfl A rfl (by rw [hAs]; kernel_rfl) _ HR6.out (by rw [hAs]; simp [zH]) hA1 ?_; intro wz hownz hgz; (have HGZ := Lib.hid hgz; have HRZ := Lib.hid hownz; clear hownz hgz)))
    have hr9 := HRZ.out
    rw [hAs, List.drop_of_length_le (by simp [zH]), List.append_nil] at hr9
    refine ret_cell_tmp (s := 2) (b := 3) (ad := ⟨w.heap.size, 0, none⟩) (x := .agg A) (y := .int .i64 0) rfl rfl rfl rfl (load_whole (n := 5) hr9 _ Try.underlying36 rfl (by kernel_rfl)) ?_
    have hAe : A = #[.bool H'.fin, .int .i64 (H'.kind : Nat), .int .i64 (H'.size : Nat), .slice o1 n1 c1', .slice o2 n2 c2'] := by
      rw [← Array.toArray_toList (xs := A), HAL.out]
    rw [hAe]
    have hxz := HX6.out.stay HGZ.out (fun e => by injection e with e; omega)
    have hgz := grown_new HG6.out HGZ.out (Nat.le_refl _)
    have hoz := (HO1'.out.keep HGZ.out (ne_of_row (fun q hq e => by have := (HO1'.out.lt q hq).1; injection e with e; omega))).mono (B' := w.heap.size) (by omega)
    have hpz := (HO2'.out.keep HGZ.out (ne_of_row (fun q hq e => by have := (HO2'.out.lt q hq).1; injection e with e; omega))).mono (B' := w.heap.size) (by omega)
    exact ⟨_, _, rfl, hoz, hpz, hxz, hgz⟩
  · have he' : ((er : Int) != 0) = true := by simpa using he
    have hpf : pf = p := HER.out he
    subst hpf
    have hg61 := hx6.c1
    have hl6 := hx6.lt
    have hf6 := hx6.free 1
    have hst := hx6.set1 pf
    have HST := Lib.hid hst
    have HH7 := Lib.hid (hh6.keepN hst.2 (fun e => by injection e with e; omega))
    have HR7 := Lib.hid (hr6.keepN hst.2 (fun e => by injection e with e; omega))
    have HO7 := Lib.hid (HO1'.out.keep hst.2 (ne_of_row (fun q hq e => by have := (HO1'.out.lt q hq).1; injection e with e; omega)))
    have HP7 := Lib.hid (HO2'.out.keep hst.2 (ne_of_row (fun q hq e => by have := (HO2'.out.lt q hq).1; injection e with e; omega)))
    have HG7 := Lib.hid (grown_trans hg6 hst.2)
    obtain ⟨A, hA, hAs, hAl⟩ := HH7.out.whole
    have hA1 : ∀ u ∈ A.toList, u.oneCell' = true := by rw [hAl]; exact head_one _ _ _ _ _ _ _ _ _
    have HAL := Lib.hid hAl
    have HX7 := Lib.hid hst.1
    clear hh6 hx6 hr6 hg6 hAl hst HO1' HO2' he
    go_wp2_with (first | (refine load_box rfl 36 5 _ rfl b rfl A hAs hA _ Try.underlying36 rfl (by kernel_rfl) ?_) | (refine wpList_store_agg rfl 36 _ _ rfl w.heap.size 36 w.heap.size 5 5 rfl A rfl (by rw [hAs]; kernel_rfl) _ HR7.out (by rw [hAs]; simp [zH]) hA1 ?_; intro wz hownz hgz; (have HGZ := Lib.hid hgz; have HRZ := Lib.hid hownz; clear hownz hgz)))
    have hr9 := HRZ.out
    rw [hAs, List.drop_of_length_le (by simp [zH]), List.append_nil] at hr9
    refine ret_cell_tmp (s := 2) (b := 3) (ad := ⟨w.heap.size, 0, none⟩) (x := .agg A) (y := .int .i64 (er : Nat)) rfl rfl rfl rfl (load_whole (n := 5) hr9 _ Try.underlying36 rfl (by kernel_rfl)) ?_
    have hAe : A = #[.bool H'.fin, .int .i64 (H'.kind : Nat), .int .i64 (H'.size : Nat), .slice o1 n1 c1', .slice o2 n2 c2'] := by
      rw [← Array.toArray_toList (xs := A), HAL.out]
    rw [hAe]
    have hxz := HX7.out.stay HGZ.out (fun e => by injection e with e; omega)
    have hgz := grown_new HG7.out HGZ.out (Nat.le_refl _)
    have hoz := (HO7.out.keep HGZ.out (ne_of_row (fun q hq e => by have := (HO7.out.lt q hq).1; injection e with e; omega))).mono (B' := w.heap.size) (by omega)
    have hpz := (HP7.out.keep HGZ.out (ne_of_row (fun q hq e => by have := (HP7.out.lt q hq).1; injection e with e; omega))).mono (B' := w.heap.size) (by omega)
    exact ⟨_, _, rfl, hoz, hpz, hxz, hgz⟩
end Go.Cm

/- The document's likeness of two lists. Conditions: the arguments read as lists. -/
namespace Go.Cm
open Go.RowKit Go.Proofs

theorem list_eq_getD {a b : List Int} (hl : a.length = b.length) (h : ∀ i, i < a.length → a.getD i 0 = b.getD i 0) : a = b := by
  refine List.ext_getElem hl fun i h1 h2 => ?_
  have := h i h1
  simpa [List.getD, h1, h2] using this
theorem intsR (u v : Value) (a b : List Int) (w : World) (ha : IntsAt w u a) (hb : IntsAt w v b) : Calls Try.prog 38 #[u, v] w fun e w' => e = .returned (.bool (decide (a = b))) ∧ ∃ x, w' = ext w x := by
  obtain ⟨oa, cap, p, off, rfl, hd, hc⟩ := ha.open
  obtain ⟨oa2, cap2, p2, off2, rfl, hd2, hc2⟩ := hb.open
  have hix := index_any (P := Try.prog) 31 3 Try.underlying31 (by kernel_rfl) hd
  have hix2 := index_any (P := Try.prog) 31 3 Try.underlying31 (by kernel_rfl) hd2
  have hm := hd.len
  have hm2 := hd2.len
  have hbk := hd.hblk
  have hbk2 := hd2.hblk
  have HC : Hid (∀ W, Below w.heap.size w W → ∀ k, k < a.length → W.cell? ⟨p, off + k, none⟩ = some (.int .i64 (a.getD k 0))) := Lib.hid (fun W hB k hk => by rw [hB.cell (hbk (by omega)), hc k hk])
  have HC2 : Hid (∀ W, Below w.heap.size w W → ∀ k, k < b.length → W.cell? ⟨p2, off2 + k, none⟩ = some (.int .i64 (b.getD k 0))) := Lib.hid (fun W hB k hk => by rw [hB.cell (hbk2 (by omega)), hc2 k hk])
  clear hc hc2 hd hd2 ha hb
  obtain ⟨r, hr⟩ : ∃ r, r = decide (a = b) := ⟨_, rfl⟩
  rw [← hr]
  have HR := Lib.hid hr
  clear hr
  by_cases hl : a.length = b.length
  · have HEX := Lib.hid (list_eq_getD hl)
    rw [← hl] at hix2 hm2 hbk2 HC2 ⊢
    clear hl
    have hne : ((a.length : Int) != (a.length : Int)) = false := by simp
    go_enter Try.func38, Try.ntmps38
    go_wp2
    go_loopg [5] a.length (fun gk i wr => ∃ k : Nat, k ≤ a.length ∧ i = .int .i64 k ∧ Hid (∀ q, q < k → a.getD q 0 = b.getD q 0) ∧ (∃ x, wr = ext w x) ∧ gk = a.length - k)
    case atStart => exact ⟨0, Nat.zero_le _, rfl, Lib.hid (fun q hq => absurd hq (Nat.not_lt_zero q)), refl_ext _, rfl⟩
    case round =>
      obtain ⟨k, hk, rfl, HQ, ⟨x, rfl⟩, hgk⟩ := hrel
      have hszx := size_ext w x
      by_cases hlt : k < a.length
      · have hcell := HC.out _ (ext_below w x) k hlt
        have hcell2 := HC2.out _ (ext_below w x) k hlt
        have hbb : p < (ext w x).heap.size := by have := hbk (by omega); omega
        have hbb2 : p2 < (ext w x).heap.size := by have := hbk2 (by omega); omega
        by_cases he : a.getD k 0 = b.getD k 0
        · have HQ2 : Hid (∀ q, q < k + 1 → a.getD q 0 = b.getD q 0) := Lib.hid (fun q hq => by
            rcases Nat.lt_succ_iff_lt_or_eq.1 hq with h1 | rfl
            · exact HQ.out q h1
            · exact he)
          rw [← he] at hcell2
          clear he
          generalize a.getD k 0 = y at *
          have hyy : (y != y) = false := by simp
          go_wp2
          go_quiet (fail)
          go_wp2
          go_roundg (a.length - (k + 1))
          case measure => omega
          case rel => exact ⟨k + 1, by omega, by go_num, HQ2, ex_ext (b_drewN (ext_below w x) _), rfl⟩
        · have hr : r = false := by
            rw [HR.out]
            exact decide_eq_false (fun h => he (by rw [h]))
          have hyy : (a.getD k 0 != b.getD k 0) = true := by simpa using he
          subst hr
          clear he
          generalize a.getD k 0 = y at *
          generalize b.getD k 0 = z at *
          go_wp2
          go_quiet (fail)
          go_wp2
          go_ret
          exact ⟨rfl, (ex_ext (by repeat (first | exact Below.refl _ _ | assumption | refine b_drewN ?_ _ | refine Below.drew ?_ | refine b_ext' ?_ _ | refine b_alloc' ?_ _)))⟩
      · obtain rfl : k = a.length := by omega
        have hr : r = true := by
          rw [HR.out]
          exact decide_eq_true (HEX.out (fun i hi => HQ.out i hi))
        subst hr
        go_wp2
        go_ret
        exact ⟨rfl, (ex_ext (by repeat (first | exact Below.refl _ _ | assumption | refine b_drewN ?_ _ | refine Below.drew ?_ | refine b_ext' ?_ _ | refine b_alloc' ?_ _)))⟩
  · have hne : ((a.length : Int) != (b.length : Int)) = true := by simp; omega
    have hr : r = false := by
      rw [HR.out]
      exact decide_eq_false (fun h => hl (by rw [h]))
    subst hr
    clear hl
    go_enter Try.func38, Try.ntmps38
    go_wp2
    go_ret
    exact ⟨rfl, (ex_ext (by repeat (first | exact Below.refl _ _ | assumption | refine b_drewN ?_ _ | refine Below.drew ?_ | refine b_ext' ?_ _ | refine b_alloc' ?_ _)))⟩
end Go.Cm

/- The walks of the law's small functions: taken, Same, Count, read, known. Conditions: the lists read as lists. -/
namespace Go.Cm
open Go.RowKit Go.Proofs

theorem countN (n : Int) (m : Nat) (h1 : -9223372036854775808 ≤ n) (h2 : n ≤ 9223372036854775807) (hm : 1 ≤ m) (hm2 : m ≤ 4294967296) (w : World) : Calls Try.prog 9 #[.int .i64 n, .int .i64 m] w fun e w' => (∃ k : Nat, e = .returned (.int .i64 k) ∧ k < m) ∧ ∃ x, w' = ext w x := by
  have key : ∀ a : Int, ∃ k : Nat, a % (m : Int) = (k : Int) ∧ k < m := fun a => by
    have h1 := Int.emod_nonneg a (show (m : Int) ≠ 0 by omega)
    have h2 := Int.emod_lt_of_pos a (show (0 : Int) < (m : Int) by omega)
    exact ⟨(a % (m : Int)).toNat, by omega, by omega⟩
  have hm0 : ¬ (m : Int) = 0 := by omega
  have HK := Lib.hid key
  clear key
  by_cases h : n < 0
  · obtain ⟨b, hb⟩ : ∃ b : Nat, -(n + 1) = (b : Int) := ⟨(-(n + 1)).toNat, by omega⟩
    go_enter Try.func9, Try.ntmps9
    go_wp2
    go_ret
    obtain ⟨k, hk, hkm⟩ := HK.out (b : Int)
    exact ⟨⟨k, by rw [← hk]; rfl, hkm⟩, (ex_ext (by repeat (first | exact Below.refl _ _ | assumption | refine b_drewN ?_ _ | refine Below.drew ?_ | refine b_ext' ?_ _ | refine b_alloc' ?_ _)))⟩
  · go_enter Try.func9, Try.ntmps9
    go_wp2
    go_ret
    obtain ⟨k, hk, hkm⟩ := HK.out n
    exact ⟨⟨k, by rw [← hk]; rfl, hkm⟩, (ex_ext (by repeat (first | exact Below.refl _ _ | assumption | refine b_drewN ?_ _ | refine Below.drew ?_ | refine b_ext' ?_ _ | refine b_alloc' ?_ _)))⟩
theorem takenP (f : Bool) (k z : Int) (o1 o2 : Option Addr) (n1 n2 c1 c2 : Nat) (w : World) :
    Calls Try.prog 15 #[.agg #[.bool f, .int .i64 k, .int .i64 z, .slice o1 n1 c1, .slice o2 n2 c2]] w fun e w' => e = .returned (.agg #[.bool f, .int .i64 k, .int .i64 z, .slice o1 n1 c1, .slice o2 n2 c2]) ∧ ∃ x, w' = ext w x := by
  have HR0 : Hid (∀ w1 : World, (w.alloc (.cells #[.bool f, .int .i64 k, .int .i64 z, .slice o1 n1 c1, .slice o2 n2 c2] 33)).alloc (.cells #[Value.bool false, .int .i64 0, .int .i64 0, .slice none 0 0, .slice none 0 0] 36) = w1 → Own w1 (w.heap.size + 1) 36 (.slice (some ⟨w.heap.size + 1, 0, none⟩) 5 5) zH.toList ∧ Below w.heap.size w w1) := Lib.hid (fun w1 e => by
    subst e
    have h1 := own_lit (w.alloc (.cells #[.bool f, .int .i64 k, .int .i64 z, .slice o1 n1 c1, .slice o2 n2 c2] 33)) (w.heap.size + 1) zH 36 (by simp [zH]) (by simp)
    exact ⟨by simpa [zH] using h1, (by repeat (first | exact Below.refl _ _ | assumption | refine b_drewN ?_ _ | refine Below.drew ?_ | refine b_ext' ?_ _ | refine b_alloc' ?_ _))⟩)
  obtain ⟨hr0, hb0⟩ := HR0.out _ rfl
  have HR1 := Lib.hid hr0
  have HB1 := Lib.hid hb0
  clear hr0 hb0 HR0
  go_enter Try.func15, Try.ntmps15
  go_wp2_with (refine wpList_store_agg rfl 36 _ _ rfl (w.heap.size + 1) 36 (w.heap.size + 1) 5 5 rfl #[.bool f, .int .i64 k, .int .i64 z, .slice o1 n1 c1, .slice o2 n2 c2] rfl (by kernel_rfl) _ HR1.out (by simp [zH]) (head_one _ _ _ _ _ _ _ _ _) ?_; intro wz hownz hgz; (have HGZ := Lib.hid hgz; have HRZ := Lib.hid hownz; clear hownz hgz))
  have hrz := HRZ.out
  rw [List.drop_of_length_le (by simp [zH]), List.append_nil] at hrz
  refine ret_one_cell (s := 2) (ad := ⟨w.heap.size + 1, 0, none⟩) (x := .agg #[.bool f, .int .i64 k, .int .i64 z, .slice o1 n1 c1, .slice o2 n2 c2]) rfl rfl rfl (load_whole (n := 5) hrz _ Try.underlying36 rfl (by kernel_rfl)) ?_
  exact ⟨rfl, ex_ext (HB1.out.grown HGZ.out HB1.out.size (fun k e => by injection e with e; omega))⟩
theorem sameT (f : Bool) (k z : Int) (u1 u2 v1 v2 : Value) (l1 l2 : List Int) (w : World) (h1 : IntsAt w u1 l1) (h2 : IntsAt w u2 l2) (h3 : IntsAt w v1 l1) (h4 : IntsAt w v2 l2) :
    Calls Try.prog 14 #[.agg #[.bool f, .int .i64 k, .int .i64 z, u1, u2], .agg #[.bool f, .int .i64 k, .int .i64 z, v1, v2]] w fun e w' => e = .returned (.bool true) ∧ ∃ x, w' = ext w x := by
  have HI1 : Hid (∀ W, Below w.heap.size w W → Calls Try.prog 38 #[u1, v1] W fun e w' => e = .returned (.bool true) ∧ ∃ x, w' = ext W x) := Lib.hid (fun W hb => (intsR u1 v1 l1 l1 W (h1.up hb) (h3.up hb)).mono fun e w' ⟨he, hx⟩ => ⟨by rw [he, decide_eq_true rfl], hx⟩)
  have HI2 : Hid (∀ W, Below w.heap.size w W → Calls Try.prog 38 #[u2, v2] W fun e w' => e = .returned (.bool true) ∧ ∃ x, w' = ext W x) := Lib.hid (fun W hb => (intsR u2 v2 l2 l2 W (h2.up hb) (h4.up hb)).mono fun e w' ⟨he, hx⟩ => ⟨by rw [he, decide_eq_true rfl], hx⟩)
  obtain ⟨o1, c1, b1, f1, rfl, -⟩ := h1.open
  obtain ⟨o2, c2, b2, f2, rfl, -⟩ := h2.open
  obtain ⟨o3, c3, b3, f3, rfl, -⟩ := h3.open
  obtain ⟨o4, c4, b4, f4, rfl, -⟩ := h4.open
  clear h1 h2 h3 h4
  generalize l1.length = n1 at *
  generalize l2.length = n2 at *
  go_enter Try.func14, Try.ntmps14
  go_wp2_with (go_at_call 38; first | ((with_reducible refine (HI1.out _ (by repeat (first | exact Below.refl _ _ | assumption | refine b_drewN ?_ _ | refine Below.drew ?_ | refine b_ext' ?_ _ | refine b_alloc' ?_ _))).mono ?_); rintro e w1 ⟨rfl, x1, rfl⟩) | ((with_reducible refine (HI2.out _ (by repeat (first | exact Below.refl _ _ | assumption | refine b_drewN ?_ _ | refine Below.drew ?_ | refine b_ext' ?_ _ | refine b_alloc' ?_ _))).mono ?_); rintro e w2 ⟨rfl, x2, rfl⟩))
  go_ret
  exact ⟨rfl, (ex_ext (by repeat (first | exact Below.refl _ _ | assumption | refine b_drewN ?_ _ | refine Below.drew ?_ | refine b_ext' ?_ _ | refine b_alloc' ?_ _)))⟩
end Go.Cm

/- The walk of the law's known calls. Conditions: none. -/
namespace Go.Cm
open Go.RowKit Go.Proofs

def retK (D : HeadN × Nat × Nat) (w : World) (e : Ending) (w' : World) : Prop :=
  ∃ o1 c1 o2 c2, e = .returned (.tuple #[.agg #[.bool D.1.fin, .int .i64 (D.1.kind : Nat), .int .i64 (D.1.size : Nat), .slice o1 D.1.lits.length c1, .slice o2 D.1.dists.length c2], .int .i64 (D.2.1 : Nat)]) ∧ Below w.heap.size w w'
set_option maxRecDepth 100000 in
theorem readL (s : ByteArray) (hs : s.size ≤ 4294967296) (w : World) : Calls Try.prog 31 #[.string s] w (retK (headF (numS s) (8 * s.size) 0) w) := by
  have HNW := Lib.hid (fun W => newS s 0 hs (Nat.zero_le _) W)
  rw [show ((0 : Nat) : Int) = 0 from rfl] at HNW
  have HRD := Lib.hid (fun (W : World) (g : Nat) (h : BoxS W g s 0) => readHP h hs (Nat.zero_le _))
  unfold RetHead at HRD
  unfold retK
  generalize headF (numS s) (8 * s.size) 0 = D at *
  obtain ⟨n1, hn1⟩ : ∃ n, n = D.1.lits.length := ⟨_, rfl⟩
  obtain ⟨n2, hn2⟩ : ∃ n, n = D.1.dists.length := ⟨_, rfl⟩
  rw [← hn1, ← hn2]
  have HN1 := Lib.hid hn1.symm
  have HN2 := Lib.hid hn2.symm
  clear hn1 hn2
  have HR0 : Hid (∀ w1 : World, w.alloc (.cells #[Value.bool false, .int .i64 0, .int .i64 0, .slice none 0 0, .slice none 0 0] 33) = w1 → Own w1 w.heap.size 33 (.slice (some ⟨w.heap.size, 0, none⟩) 5 5) zH.toList ∧ Below w.heap.size w w1) := Lib.hid (fun w1 e => by
    subst e
    have h1 := own_lit w w.heap.size zH 33 (by simp [zH]) (Nat.le_refl _)
    exact ⟨by simpa [zH] using h1, (by repeat (first | exact Below.refl _ _ | assumption | refine b_drewN ?_ _ | refine Below.drew ?_ | refine b_ext' ?_ _ | refine b_alloc' ?_ _))⟩)
  go_enter Try.func31, Try.ntmps31
  go_wp2_with (first | (go_at_call 10; (obtain ⟨hr0, hb0⟩ := HR0.out _ rfl); (with_reducible refine (HNW.out _).mono ?_); rintro e w1 ⟨g, rfl, hx, hge, hb⟩; (have HX1 := Lib.hid hx; have HR1 := Lib.hid (hr0.up hb); have HB1 := Lib.hid (below_up hb0 hb); have hgg : w.heap.size < g := Nat.lt_of_lt_of_le hr0.blk.2 hge; clear hx hge hb hr0 hb0 HR0)) | (go_at_call 12; (with_reducible refine (HRD.out _ _ HX1.out).mono ?_); rintro e w2 ⟨v1, v2, rfl, ho1, ho2, hx2, hg2⟩; (have HR2 := Lib.hid (HR1.out.keepN hg2 (fun e => by injection e with e; omega)); have HB2 : Hid (Below w.heap.size w w2) := Lib.hid (HB1.out.grown hg2 HB1.out.size (fun k e => by injection e with e; omega)); have HO1 := Lib.hid ho1; have HO2 := Lib.hid ho2; obtain ⟨o1, c1, g1, hv1, -⟩ := ho1.cases; obtain ⟨o2, c2, g2, hv2, -⟩ := ho2.cases; subst hv1 hv2; clear ho1 ho2 hx2 hg2; rw [ints_nls_len, ints_nls_len, HN1.out, HN2.out])) | (refine wpList_store_agg rfl 33 _ _ rfl w.heap.size 33 w.heap.size 5 5 rfl #[.bool D.1.fin, .int .i64 (D.1.kind : Nat), .int .i64 (D.1.size : Nat), .slice o1 n1 c1, .slice o2 n2 c2] rfl (by kernel_rfl) _ HR2.out (by simp [zH]) (head_one _ _ _ _ _ _ _ _ _) ?_; intro wz hownz hgz; (have HGZ := Lib.hid hgz; have HRZ := Lib.hid hownz; clear hownz hgz)))
  have hrz := HRZ.out
  rw [List.drop_of_length_le (by simp [zH]), List.append_nil] at hrz
  refine ret_cell_tmp (s := 2) (b := 3) (ad := ⟨w.heap.size, 0, none⟩) (x := .agg #[.bool D.1.fin, .int .i64 (D.1.kind : Nat), .int .i64 (D.1.size : Nat), .slice o1 n1 c1, .slice o2 n2 c2]) (y := .int .i64 (D.2.1 : Nat)) rfl rfl rfl rfl (load_whole (n := 5) hrz _ Try.underlying33 rfl (by kernel_rfl)) ?_
  have hbz := HB2.out.grown HGZ.out HB2.out.size (fun k e => by injection e with e; omega)
  first | exact ⟨o1, c1, o2, c2, rfl, hbz⟩ | exact ⟨⟨o1, c1, o2, c2, rfl⟩, hbz⟩

theorem k1 : headF (numS ⟨#[3]⟩) (8 * (⟨#[3]⟩ : ByteArray).size) 0 = (⟨true, 1, 0, fixL, fixD⟩, 0, 3) := by
  rw [show numS ⟨#[3]⟩ = 3 by decide, show 8 * (⟨#[3]⟩ : ByteArray).size = 8 by decide, head_good (a := 1) (k := 1) (p1 := 1) (p2 := 3) (by decide) (by decide)]
  rfl
theorem k2 : headF (numS ⟨#[1, 5, 0, 250, 255]⟩) (8 * (⟨#[1, 5, 0, 250, 255]⟩ : ByteArray).size) 0 = (⟨true, 0, 5, [], []⟩, 0, 40) := by
  rw [head_good (a := 1) (k := 0) (p1 := 1) (p2 := 3) (by decide) (by decide)]
  unfold kindN
  rw [if_neg (by decide), if_pos rfl, show storedN (numS ⟨#[1, 5, 0, 250, 255]⟩) (8 * (⟨#[1, 5, 0, 250, 255]⟩ : ByteArray).size) (0, 3) = (5, 0, 40) by decide]
  rfl
theorem k3 : headF (numS ⟨#[1, 5, 0, 250, 254]⟩) (8 * (⟨#[1, 5, 0, 250, 254]⟩ : ByteArray).size) 0 = (HeadN.zero, 6, 0) := by
  rw [head_good (a := 1) (k := 0) (p1 := 1) (p2 := 3) (by decide) (by decide)]
  unfold kindN
  rw [if_neg (by decide), if_pos rfl, show storedN (numS ⟨#[1, 5, 0, 250, 254]⟩) (8 * (⟨#[1, 5, 0, 250, 254]⟩ : ByteArray).size) (0, 3) = (5, 6, 40) by decide]
  rfl
theorem k4 : headF (numS ⟨#[7]⟩) (8 * (⟨#[7]⟩ : ByteArray).size) 0 = (HeadN.zero, 11, 0) := by
  rw [head_good (a := 1) (k := 3) (p1 := 1) (p2 := 3) (by decide) (by decide)]
  rfl
theorem k5 : headF (numS ⟨#[]⟩) (8 * (⟨#[]⟩ : ByteArray).size) 0 = (HeadN.zero, 2, 0) := by
  exact head_bad (a := 0) (k := 0) (e1 := 2) (e2 := 2) (p1 := 0) (p2 := 0) (by decide) (by decide) (.inl (by decide))
theorem fixL_len : fixL.length = 288 := by unfold fixL; rw [List.length_append, List.length_append, List.length_append, List.length_replicate, List.length_replicate, List.length_replicate, List.length_replicate]
theorem fixD_len : fixD.length = 32 := by unfold fixD; rw [List.length_replicate]
end Go.Cm

/- The walk of the law's known calls, all of them. Conditions: none. -/
namespace Go.Cm
open Go.RowKit Go.Proofs

theorem ownH (w : World) (f : Bool) (k z : Int) (o1 o2 : Option Addr) (n1 n2 c1 c2 T : Nat) : Own (w.alloc (.cells #[.bool f, .int .i64 k, .int .i64 z, .slice o1 n1 c1, .slice o2 n2 c2] T)) w.heap.size T (.slice (some ⟨w.heap.size, 0, none⟩) 5 5) [.bool f, .int .i64 k, .int .i64 z, .slice o1 n1 c1, .slice o2 n2 c2] := by
  have h := own_lit w w.heap.size #[.bool f, .int .i64 k, .int .i64 z, .slice o1 n1 c1, .slice o2 n2 c2] T (by simp) (Nat.le_refl _)
  simpa using h
set_option maxRecDepth 100000 in
theorem knownP (w : World) : Calls Try.prog 8 #[] w fun e w' => e = .returned (.bool true) ∧ ∃ x, w' = ext w x := by
  have HK1 : Hid (∀ W, Calls Try.prog 31 #[.string ⟨#[3]⟩] W fun e w' => ∃ o1 c1 o2 c2, e = .returned (.tuple #[.agg #[.bool true, .int .i64 1, .int .i64 0, .slice o1 288 c1, .slice o2 32 c2], .int .i64 0]) ∧ Below W.heap.size W w') := Lib.hid (fun W => by
    have h := readL ⟨#[3]⟩ (by decide) W
    rw [k1] at h
    unfold retK at h
    dsimp only at h
    rw [fixL_len, fixD_len] at h
    exact h)
  have HK2 : Hid (∀ W, Calls Try.prog 31 #[.string ⟨#[1, 5, 0, 250, 255]⟩] W fun e w' => ∃ o1 c1 o2 c2, e = .returned (.tuple #[.agg #[.bool true, .int .i64 0, .int .i64 5, .slice o1 0 c1, .slice o2 0 c2], .int .i64 0]) ∧ Below W.heap.size W w') := Lib.hid (fun W => by
    have h := readL ⟨#[1, 5, 0, 250, 255]⟩ (by decide) W
    rw [k2] at h
    exact h)
  have HK3 : Hid (∀ W, Calls Try.prog 31 #[.string ⟨#[1, 5, 0, 250, 254]⟩] W fun e w' => ∃ o1 c1 o2 c2, e = .returned (.tuple #[.agg #[.bool false, .int .i64 0, .int .i64 0, .slice o1 0 c1, .slice o2 0 c2], .int .i64 6]) ∧ Below W.heap.size W w') := Lib.hid (fun W => by
    have h := readL ⟨#[1, 5, 0, 250, 254]⟩ (by decide) W
    rw [k3] at h
    exact h)
  have HK4 : Hid (∀ W, Calls Try.prog 31 #[.string ⟨#[7]⟩] W fun e w' => ∃ o1 c1 o2 c2, e = .returned (.tuple #[.agg #[.bool false, .int .i64 0, .int .i64 0, .slice o1 0 c1, .slice o2 0 c2], .int .i64 11]) ∧ Below W.heap.size W w') := Lib.hid (fun W => by
    have h := readL ⟨#[7]⟩ (by decide) W
    rw [k4] at h
    exact h)
  have HK5 : Hid (∀ W, Calls Try.prog 31 #[.string ⟨#[]⟩] W fun e w' => ∃ o1 c1 o2 c2, e = .returned (.tuple #[.agg #[.bool false, .int .i64 0, .int .i64 0, .slice o1 0 c1, .slice o2 0 c2], .int .i64 2]) ∧ Below W.heap.size W w') := Lib.hid (fun W => by
    have h := readL ⟨#[]⟩ (by decide) W
    rw [k5] at h
    exact h)
  have HFL : Hid (∀ W, Calls Try.prog 27 #[] W fun e w' => ∃ o c, e = .returned (.slice o 288 c) ∧ Below W.heap.size W w') := Lib.hid (fun W => (fixLP W).mono fun e w' ⟨v, he, ho, hb⟩ => by
    obtain ⟨o, c, g, hv, -⟩ := ho.cases
    rw [ints_nls_len, fixL_len] at hv
    subst hv
    exact ⟨o, c, he, hb⟩)
  go_enter Try.func8, Try.ntmps8
  go_upto_region 2 with (go_at_call 31; (with_reducible refine (HK1.out _).mono ?_); rintro e w1 ⟨o1, c1, q1, d1, rfl, hb1⟩; (have HB1 := Lib.hid hb1; clear hb1))
  have HA1 := Lib.hid (ownH w1 true 1 0 o1 q1 288 32 c1 d1 33)
  have HW1 : Hid (Below w.heap.size w (w1.alloc (.cells #[.bool true, .int .i64 1, .int .i64 0, .slice o1 288 c1, .slice q1 32 d1] 33))) := Lib.hid (HB1.out.alloc HB1.out.size _)
  have hl1 : w1.heap.size < (w1.alloc (.cells #[.bool true, .int .i64 1, .int .i64 0, .slice o1 288 c1, .slice q1 32 d1] 33)).heap.size := by simp
  generalize w1.alloc (.cells #[.bool true, .int .i64 1, .int .i64 0, .slice o1 288 c1, .slice q1 32 d1] 33) = W1 at *
  generalize w1.heap.size = b1 at *
  go_upto_region 3 with (go_at_call 31; (with_reducible refine (HK2.out _).mono ?_); rintro e w2 ⟨o2, c2, q2, d2, rfl, hb2⟩; (have HB2 := Lib.hid hb2; clear hb2))
  have HA2 := Lib.hid (ownH w2 true 0 5 o2 q2 0 0 c2 d2 33)
  have HL2 := Lib.hid (below_up HB2.out (below_alloc w2 (.cells #[.bool true, .int .i64 0, .int .i64 5, .slice o2 0 c2, .slice q2 0 d2] 33)))
  have hl2 : w2.heap.size < (w2.alloc (.cells #[.bool true, .int .i64 0, .int .i64 5, .slice o2 0 c2, .slice q2 0 d2] 33)).heap.size := by simp
  generalize w2.alloc (.cells #[.bool true, .int .i64 0, .int .i64 5, .slice o2 0 c2, .slice q2 0 d2] 33) = W2 at *
  generalize w2.heap.size = b2 at *
  go_upto_region 4 with (go_at_call 31; (with_reducible refine (HK3.out _).mono ?_); rintro e w3 ⟨o3, c3, q3, d3, rfl, hb3⟩; (have HB3 := Lib.hid hb3; clear hb3))
  have HL3 := Lib.hid (below_up HL2.out (below_up HB3.out (below_alloc w3 (.cells #[.bool false, .int .i64 0, .int .i64 0, .slice o3 0 c3, .slice q3 0 d3] 33))))
  have HL3' := Lib.hid (below_up HB3.out (below_alloc w3 (.cells #[.bool false, .int .i64 0, .int .i64 0, .slice o3 0 c3, .slice q3 0 d3] 33)))
  generalize w3.alloc (.cells #[.bool false, .int .i64 0, .int .i64 0, .slice o3 0 c3, .slice q3 0 d3] 33) = W3 at *
  generalize w3.heap.size = b3 at *
  go_upto_region 5 with (go_at_call 31; (with_reducible refine (HK4.out _).mono ?_); rintro e w4 ⟨o4, c4, q4, d4, rfl, hb4⟩; (have HB4 := Lib.hid hb4; clear hb4))
  have HL4' := Lib.hid (below_up HB4.out (below_alloc w4 (.cells #[.bool false, .int .i64 0, .int .i64 0, .slice o4 0 c4, .slice q4 0 d4] 33)))
  generalize w4.alloc (.cells #[.bool false, .int .i64 0, .int .i64 0, .slice o4 0 c4, .slice q4 0 d4] 33) = W4 at *
  generalize w4.heap.size = b4 at *
  go_upto_region 6 with (go_at_call 31; (with_reducible refine (HK5.out _).mono ?_); rintro e w5 ⟨o5, c5, q5, d5, rfl, hb5⟩; (have HB5 := Lib.hid hb5; clear hb5))
  have HL5' := Lib.hid (below_up HB5.out (below_alloc w5 (.cells #[.bool false, .int .i64 0, .int .i64 0, .slice o5 0 c5, .slice q5 0 d5] 33)))
  generalize w5.alloc (.cells #[.bool false, .int .i64 0, .int .i64 0, .slice o5 0 c5, .slice q5 0 d5] 33) = W5 at *
  generalize w5.heap.size = b5 at *
  have HL25 := Lib.hid (below_up HL3'.out (below_up HL4'.out HL5'.out))
  have HL15 := Lib.hid (below_up HL2.out HL25.out)
  have HO1 := Lib.hid (HA1.out.up HL15.out)
  have HO2 := Lib.hid (HA2.out.up HL25.out)
  have x10 := HO1.out.cell (i := 0) (by simp)
  have x11 := HO1.out.cell (i := 1) (by simp)
  have x13 := HO1.out.cell (i := 3) (by simp)
  have x14 := HO1.out.cell (i := 4) (by simp)
  have x21 := HO2.out.cell (i := 1) (by simp)
  have x22 := HO2.out.cell (i := 2) (by simp)
  have y1 := HO1.out.blk.2
  have y2 := HO2.out.blk.2
  have HWW := Lib.hid (HW1.out.trans (HL15.out.mono HW1.out.size))
  clear HK1 HK2 HK3 HK4 HK5 HB1 HB2 HB3 HB4 HB5 HA1 HA2 HL2 HL3 HL3' HL4' HL5' HL25 HL15 HO1 HO2 hl1 hl2 HW1
  go_wp2_with (go_at_call 27; (with_reducible refine (HFL.out _).mono ?_); rintro e w7 ⟨o7, c7, rfl, hb7⟩; (have HB7 := Lib.hid hb7; clear hb7))
  go_ret
  exact ⟨rfl, ex_ext (HWW.out.trans (HB7.out.mono HWW.out.size))⟩
end Go.Cm

/- The walk of the law BlockReads. Conditions: the arguments read as data. -/
namespace Go.Cm
open Go.RowKit Go.Proofs

set_option maxRecDepth 100000 in
set_option maxHeartbeats 4000000 in
theorem blockReads (s : ByteArray) (at' : Int) (w : World) (hs63 : s.size ≤ 140737488351232) (ha1 : -9223372036854775808 ≤ at') (ha2 : at' ≤ 9223372036854775807) :
    Calls Try.prog 3 #[.string s, .int .i64 at'] w fun e w' => e = .returned (.bool true) ∧ ∃ x, w' = ext w x := by
  by_cases hbig : s.size > 5000
  · have hbi : (s.size : Int) > 5000 := by omega
    go_enter Try.func3, Try.ntmps3
    go_wp2_with (go_at_call 8; refine (knownP _).mono ?_; rintro e w1 ⟨rfl, x, rfl⟩)
    go_ret
    exact ⟨rfl, (ex_ext (by repeat (first | exact Below.refl _ _ | assumption | refine b_drewN ?_ _ | refine Below.drew ?_ | refine b_ext' ?_ _ | refine b_alloc' ?_ _)))⟩
  · have hbi : ¬ (s.size : Int) > 5000 := by omega
    have hs1 : s.size ≤ 5000 := by omega
    have hs : s.size ≤ 4294967296 := by omega
    have em : 8 * (s.size : Int) + 1 = ((8 * s.size + 1 : Nat) : Int) := by omega
    have HCT := Lib.hid (countN at' (8 * s.size + 1) ha1 ha2 (by omega) (by omega))
    obtain ⟨em1, hem1⟩ : ∃ em1 : Nat, em1 = 8 * s.size + 1 := ⟨_, rfl⟩
    rw [← hem1] at em HCT
    have hmm : em1 ≤ 40001 := by omega
    have HEM := Lib.hid hem1
    have HS1 := Lib.hid hs1
    have HNS := Lib.hid (fun (W : World) (k : Nat) (hk : k < em1) => newS s k hs (by omega) W)
    have HNT := Lib.hid (fun (W : World) (k : Nat) (hk : k < em1) => newT s k hs (by omega) W)
    have HRP := Lib.hid (fun (W : World) (g k : Nat) (hk : k < em1) (h : BoxS W g s k) => readHP h hs (by omega))
    have HRR := Lib.hid (fun (W : World) (g k : Nat) (hk : k < em1) (h : BoxT W g s k) => readHR h hs (by omega))
    unfold RetHead at HRP HRR
    clear hem1 hbig hs63 hs1 hs ha1 ha2
    go_enter Try.func3, Try.ntmps3
    go_upto_region 8 with (first | (go_at_call 9; refine (HCT.out _).mono ?_; rintro e w1 ⟨⟨k, rfl, hk⟩, x1, rfl⟩; (have HB1 := Lib.hid (ext_below w x1); have hk4 : k ≤ 40001 := by omega)) | (go_at_call 10; (with_reducible refine (HNS.out _ k hk).mono ?_); rintro e w2 ⟨gr, rfl, hx, hge, hb⟩; (have HX2 := Lib.hid hx; have HB2 := Lib.hid (below_up HB1.out hb); have hgr : w.heap.size ≤ gr := Nat.le_trans (size_ext _ _) hge; have hl2 := hx.lt; clear hx hge hb)) | (go_at_call 11; (with_reducible refine (HNT.out _ k hk).mono ?_); rintro e w3 ⟨gq, rfl, hx, hge, hb⟩; (have HQ3 := Lib.hid hx; have HX3 := Lib.hid (HX2.out.up hb); have HB3 := Lib.hid (below_up HB2.out hb); have hgq : gr < gq := Nat.lt_of_lt_of_le hl2 hge; have hl3 := hx.lt; clear hx hge hb)))
    have HRP3 := Lib.hid (HRP.out w3 gr k hk HX3.out)
    have HRR3 := Lib.hid (fun W h => HRR.out W gq k hk h)
    clear HRP HRR HCT HNS HNT HX2 HB1 HB2 HX3
    generalize headF (numS s) (8 * s.size) k = D at *
    go_upto_region 9 with (go_at_call 12; (with_reducible refine HRP3.out.mono ?_); rintro e w4 ⟨v1, v2, rfl, ho1, ho2, hx, hg⟩; (have HX4 := Lib.hid hx; have HQ4 := Lib.hid (HQ3.out.stay hg (fun e => by injection e with e; omega)); have hb4 : Below w.heap.size w w4 := HB3.out.grown hg HB3.out.size (fun k e => by injection e with e; omega); have HB4 := Lib.hid hb4; have HO1 := Lib.hid ho1; have HO2 := Lib.hid ho2; obtain ⟨o1, c1, g1, hv1, -⟩ := ho1.cases; obtain ⟨o2, c2, g2, hv2, -⟩ := ho2.cases; subst hv1 hv2; generalize (ints (nls D.1.lits)).length = n1 at *; generalize (ints (nls D.1.dists)).length = n2 at *; have hs34 := hg.size; have hs4 := hb4.size; clear ho1 ho2 hx hg hb4 HRP3))
    have HHA := Lib.hid (ownH w4 D.1.fin (D.1.kind : Nat) (D.1.size : Nat) o1 o2 n1 n2 c1 c2 33)
    have HBA := Lib.hid (below_alloc w4 (.cells #[.bool D.1.fin, .int .i64 (D.1.kind : Nat), .int .i64 (D.1.size : Nat), .slice o1 n1 c1, .slice o2 n2 c2] 33))
    have hl5 : w4.heap.size < (w4.alloc (.cells #[.bool D.1.fin, .int .i64 (D.1.kind : Nat), .int .i64 (D.1.size : Nat), .slice o1 n1 c1, .slice o2 n2 c2] 33)).heap.size := by simp
    have HX5 := Lib.hid (HX4.out.up HBA.out)
    have HQ5 := Lib.hid (HQ4.out.up HBA.out)
    have HO1' := Lib.hid (HO1.out.up HBA.out)
    have HO2' := Lib.hid (HO2.out.up HBA.out)
    have HB5 := Lib.hid (HB4.out.trans (HBA.out.mono hs4))
    clear HX4 HQ4 HO1 HO2 HB4 HBA HQ3 HB3
    generalize w4.alloc (.cells #[.bool D.1.fin, .int .i64 (D.1.kind : Nat), .int .i64 (D.1.size : Nat), .slice o1 n1 c1, .slice o2 n2 c2] 33) = w5 at *
    generalize w4.heap.size = b1 at *
    have HRR5 := Lib.hid (HRR3.out w5 HQ5.out)
    clear HRR3
    go_upto_region 10 with (go_at_call 13; (with_reducible refine HRR5.out.mono ?_); rintro e w6 ⟨v3, v4, rfl, ho3, ho4, hx, hg⟩; (have HQ6 := Lib.hid hx; have HX6 := Lib.hid (HX5.out.stay hg (fun e => by injection e with e; omega)); have hb6 : Below w.heap.size w w6 := HB5.out.grown hg HB5.out.size (fun k e => by injection e with e; omega); have HB6 := Lib.hid hb6; have HO3 := Lib.hid ho3; have HO4 := Lib.hid ho4; have HP1 := Lib.hid (HO1'.out.keep hg (ne_of_row (fun q hq e => by have := (HO1'.out.lt q hq).1; injection e with e; omega))); have HP2 := Lib.hid (HO2'.out.keep hg (ne_of_row (fun q hq e => by have := (HO2'.out.lt q hq).1; injection e with e; omega))); have HHB := Lib.hid (HHA.out.keepN hg (fun e => by injection e with e; omega)); obtain ⟨o3, c3, g3, hv3, -⟩ := ho3.cases; obtain ⟨o4, c4, g4, hv4, -⟩ := ho4.cases; subst hv3 hv4; generalize (ints (nls D.1.lits)).length = n3 at *; generalize (ints (nls D.1.dists)).length = n4 at *; have hs6 := hb6.size; clear ho3 ho4 hx hg hb6 HRR5))
    have HHC := Lib.hid (ownH w6 D.1.fin (D.1.kind : Nat) (D.1.size : Nat) o3 o4 n3 n4 c3 c4 36)
    have HBC := Lib.hid (below_alloc w6 (.cells #[.bool D.1.fin, .int .i64 (D.1.kind : Nat), .int .i64 (D.1.size : Nat), .slice o3 n3 c3, .slice o4 n4 c4] 36))
    have HX7 := Lib.hid (HX6.out.up HBC.out)
    have HQ7 := Lib.hid (HQ6.out.up HBC.out)
    have HB7 := Lib.hid (HB6.out.trans (HBC.out.mono hs6))
    have HHD := Lib.hid (HHB.out.up HBC.out)
    have HT1 := Lib.hid (HP1.out.up HBC.out)
    have HT2 := Lib.hid (HP2.out.up HBC.out)
    have HT3 := Lib.hid (HO3.out.up HBC.out)
    have HT4 := Lib.hid (HO4.out.up HBC.out)
    clear HX6 HQ6 HB6 HHB HP1 HP2 HO3 HO4 HBC HX5 HQ5 HO1' HO2' HB5 HHA
    generalize w6.alloc (.cells #[.bool D.1.fin, .int .i64 (D.1.kind : Nat), .int .i64 (D.1.size : Nat), .slice o3 n3 c3, .slice o4 n4 c4] 36) = w7 at *
    generalize w6.heap.size = b2 at *
    obtain ⟨A, hA, hAs, hAl⟩ := HHD.out.whole
    obtain ⟨B, hB, hBs, hBl⟩ := HHC.out.whole
    have hAe : A = #[.bool D.1.fin, .int .i64 (D.1.kind : Nat), .int .i64 (D.1.size : Nat), .slice o1 n1 c1, .slice o2 n2 c2] := by rw [← Array.toArray_toList (xs := A), hAl]
    have hBe : B = #[.bool D.1.fin, .int .i64 (D.1.kind : Nat), .int .i64 (D.1.size : Nat), .slice o3 n3 c3, .slice o4 n4 c4] := by rw [← Array.toArray_toList (xs := B), hBl]
    subst hAe hBe
    have hb1 := HHD.out.blk.2
    have hb2 := HHC.out.blk.2
    have HA7 : Hid (∀ w', (∃ x, w' = ext w7 x) → w'.heap[b1]? = some (.cells #[.bool D.1.fin, .int .i64 (D.1.kind : Nat), .int .i64 (D.1.size : Nat), .slice o1 n1 c1, .slice o2 n2 c2] 33 (0, 0))) := Lib.hid (by rintro _ ⟨x, rfl⟩; rw [heap_ext _ _ _ hb1]; exact hA)
    have HB7' : Hid (∀ w', (∃ x, w' = ext w7 x) → w'.heap[b2]? = some (.cells #[.bool D.1.fin, .int .i64 (D.1.kind : Nat), .int .i64 (D.1.size : Nat), .slice o3 n3 c3, .slice o4 n4 c4] 36 (0, 0))) := Lib.hid (by rintro _ ⟨x, rfl⟩; rw [heap_ext _ _ _ hb2]; exact hB)
    clear hA hB hAl hBl hAs hBs HHC HHD
    have HTK := Lib.hid (fun W => takenP D.1.fin (D.1.kind : Nat) (D.1.size : Nat) o1 o2 n1 n2 c1 c2 W)
    have HSM := Lib.hid (fun (W : World) (hb : Below w7.heap.size w7 W) => sameT D.1.fin (D.1.kind : Nat) (D.1.size : Nat) (.slice o1 n1 c1) (.slice o2 n2 c2) (.slice o3 n3 c3) (.slice o4 n4 c4) (nls D.1.lits) (nls D.1.dists) W (show IntsAt W _ _ from HT1.out.sl.up hb) (show IntsAt W _ _ from HT2.out.sl.up hb) (show IntsAt W _ _ from HT3.out.sl.up hb) (show IntsAt W _ _ from HT4.out.sl.up hb))
    have HAT : Hid (∀ W, BoxS W gr s D.2.2 → Calls Try.prog 16 #[.pointer (some ⟨gr, 0, none⟩)] W fun e w' => e = .returned (.int .i64 (D.2.2 : Nat)) ∧ ∃ x, w' = ext W x) := Lib.hid (fun W h => (atS h).mono fun e w' ⟨h1, h2⟩ => ⟨h1, by rw [h2]; exact refl_ext W⟩)
    have hcq := HQ7.out.c1
    have hlq := HQ7.out.lt
    clear HT1 HT2 HT3 HT4
    generalize D.2.2 = pe at *
    refine wp_region_ext (by kernel_rfl) (by kernel_rfl) ?_
    repeat (first | (go_big_quiet_want; refine quiet_load_box 33 5 _ rfl b1 rfl _ rfl HA7.out _ Try.underlying33 rfl (by kernel_rfl) ?_; go_simp; go_big_quiet_on) | (go_big_quiet_want; refine quiet_load_box 36 5 _ rfl b2 rfl _ rfl HB7'.out _ Try.underlying36 rfl (by kernel_rfl) ?_; go_simp; go_big_quiet_on) | (go_big_quiet_step (first | (go_at_call 15; exact calls_in (HTK.out _)) | (go_at_call 14; exact calls_in (HSM.out _ (ext_below _ _))) | (go_at_call 16; exact calls_in (HAT.out _ (HX7.out.up (ext_below _ _)))) | (go_at_call 8; exact calls_in (knownP _)))))
    refine wpQuiet_nil ?_
    rintro w' ⟨y, rfl⟩
    go_wp2
    go_ret
    exact ⟨rfl, ex_ext (HB7.out.trans ((ext_below _ _).mono HB7.out.size))⟩
end Go.Cm

/- Arguments that a law is handed, as data: lists of ints, texts. Conditions: none. -/
namespace Go.Cm
open Go.RowKit Go.Proofs Go.WideShapes Go.ChangeShapes Go.Deep

section
variable {H : Type} {enc : TypeId × Value → H} {P : Program}
theorem post_of_below {f : Func} {s : ChangeSpec} {apart fresh handsOn again : Bool} {W W' : World} {args : Array Value} {v : Value} {ds gs : List (DataW H)} {before pa pv : List MemPlace}
    (hW : DataW.Whole enc P f.params.toList s.vars apart W args.toList ds gs before)
    (hres : ∀ (b : Nat) (sp : Nat → Bool) (hd : Bool), DataW.TrodAll enc P W' b sp hd f.resultTypes.toList (v.resultList f.resultTypes.size) (s.fn H (ds ++ gs)).results [])
    (hargs : ∀ sp : Nat → Bool, (∀ p ∈ before, sp p.block = true) → DataW.TrodAll enc P W' 0 sp true f.params.toList args.toList (s.fn H (ds ++ gs)).args pa)
    (hvars : ∀ sp : Nat → Bool, (∀ p ∈ before, sp p.block = true) → DataW.TrodVars enc P W' sp s.vars (s.fn H (ds ++ gs)).vars pv)
    (hps : before = pa ++ pv) (hb : Below W.heap.size W W')
    (hok : ∀ (j : Nat) (t : TypeId) (r : Value), f.resultTypes[j]? = some t → (v.resultList f.resultTypes.size)[j]? = some r → Value.okWide P W' .any 0 t r) :
    s.post enc P f apart fresh handsOn again W args v W' := by
  have hlt : ∀ p ∈ before, p.block < W.heap.size := fun p hp => hW.lt p hp
  have hold : ∀ p ∈ before, (fun b => decide (b < W.heap.size)) p.block = true := fun p hp => by simpa using hlt p hp
  refine ⟨ds, gs, before, [], pa, pv, hW, hres _ _ _, hargs _ hold, hvars _ hold, World.keptBut_mono (fun p hp => ⟨hp, ?_⟩) (hb.frame (· ∈ before)), fun _ => ?_⟩
  · rw [hps, List.mem_append] at hp
    exact Or.inr hp
  · obtain ⟨_, _, _, _, _, hz, hn⟩ := hW
    refine ⟨hok, _, _, ([] ++ pa) ++ pv, ⟨[] ++ pa, pv, trodAll_append (hargs _ (fun _ _ => rfl)) (hres _ _ _), hvars _ (fun _ _ => rfl), rfl, ?_, ?_⟩, ?_⟩
    · intro b off hp
      have hin : MemPlace.cell b off ∈ before := by rw [hps]; simpa using hp
      rw [hb.frozen (hlt _ hin)]
      exact hz b off hin
    · intro ha
      have := hn ha
      rw [hps] at this
      simpa using this
    · intro p hp _
      rw [hps]
      simpa using hp
end

section
variable {H : Type} {enc : TypeId × Value → H} {P : Program} {w : World} {base : Nat} {held : Bool}
theorem weights_slice {t e : TypeId} {elems spare : List (DataW H)} (hu : P.underlying t = some (.slice e)) : (DataW.slice elems spare).weights P t = (elems.length + spare.length) * P.bytesOf e :: (DataW.weightsAll P e elems ++ DataW.weightsAll P e spare) := by
  simp [DataW.weights, hu]
theorem weightsAll_mem {e : TypeId} {d : DataW H} : ∀ {l : List (DataW H)}, d ∈ l → ∀ n ∈ d.weights P e, n ∈ DataW.weightsAll P e l
  | a :: l, h, n, hn => by
    simp only [DataW.weightsAll, List.mem_append]
    rcases List.mem_cons.1 h with rfl | h
    · exact .inl hn
    · exact .inr (weightsAll_mem h n hn)
theorem addr_add (b off j : Nat) : (⟨b, off, none⟩ : Addr).add j = ⟨b, off + j, none⟩ := by unfold Addr.add; split <;> simp_all
theorem reach_is : reachBytes = 140737488351232 := rfl
/-- a slice of whatever elements of one cell, opened -/
theorem open_hd {t e : TypeId} {fuel : Nat} {cs : List Value} {x : DataW H × List MemPlace} (ht : P.underlying t = some (.slice e)) (hc : P.cellsOf e = 1) (hb : 1 ≤ P.bytesOf e) (h : DataW.trod enc P w base (fun _ => true) held fuel t cs = some x) (hw : ∀ n ∈ x.1.weights P t, n ≤ reachBytes) :
    ∃ (oa : Option Addr) (len cap b off : Nat) (V : Nat → Value) (D : Nat → DataW H), cs = [.slice oa len cap] ∧ Hd w oa len cap b off ∧ ∀ i, i < len → w.cell? ⟨b, off + i, none⟩ = some (V i) ∧ (∃ n p, DataW.trod enc P w base (fun _ => true) held n e [V i] = some (D i, p)) ∧ ∀ n ∈ (D i).weights P e, n ≤ reachBytes := by
  rcases open_slice1 ht hc h with ⟨rfl, -⟩ | ⟨a, len, cap, m, n, V, D, Pl, rfl, -, hl, hm, hmm, rfl, hx⟩
  · exact ⟨none, 0, 0, 0, 0, fun _ => undef, fun _ => .nil, rfl, ⟨fun h => absurd h (Nat.lt_irrefl 0), Nat.le_refl _, by simp [maxLen], by simp, fun h => absurd h (Nat.lt_irrefl 0)⟩, fun i hi => absurd hi (Nat.not_lt_zero i)⟩
  · simp only [if_true] at hmm
    subst hmm
    have hwt := weights_slice (P := P) (elems := (List.range len).map D) (spare := (List.range (m - len)).map fun j => D (len + j)) ht
    simp only at hw
    rw [hwt] at hw
    have h1 := hw _ (List.mem_cons_self ..)
    simp only [List.length_map, List.length_range] at h1
    have h2 : m * 1 ≤ (len + (m - len)) * P.bytesOf e := Nat.mul_le_mul (by omega) hb
    rw [reach_is] at h1
    obtain ⟨ab, ao, asp⟩ := a
    have hsp : 0 < len → asp = none := fun h0 => by
      have h3 := (hx 0 (by omega)).1
      simpa [Addr.add] using World.cell?_spot h3
    refine ⟨some ⟨ab, ao, asp⟩, len, m, ab, ao, V, D, rfl, ⟨fun h0 => by rw [hsp h0], hl, hm, by omega, fun h0 => ?_⟩, fun i hi => ⟨?_, ⟨n, Pl i, (hx i (by omega)).2⟩, fun k hk => hw k (List.mem_cons_of_mem _ (List.mem_append_left _ (weightsAll_mem (List.mem_map.2 ⟨i, List.mem_range.2 hi, rfl⟩) k hk)))⟩⟩
    · have h3 := (hx 0 (by omega)).1
      have := World.block_lt_of_cell? _ _ h3
      simpa [Addr.add] using this
    · have h3 := (hx i (by omega)).1
      have h4 := hsp (by omega)
      subst h4
      rwa [addr_add] at h3
theorem open_IntsAt {t e : TypeId} {fuel : Nat} {cs : List Value} {x : DataW H × List MemPlace} (ht : P.underlying t = some (.slice e)) (he : P.underlying e = some (.int .i64)) (hc : P.cellsOf e = 1) (hb : 1 ≤ P.bytesOf e)
    (h : DataW.trod enc P w base (fun _ => true) held fuel t cs = some x) (hw : ∀ n ∈ x.1.weights P t, n ≤ reachBytes) : ∃ v l, cs = [v] ∧ IntsAt w v l := by
  obtain ⟨oa, len, cap, b, off, V, D, rfl, hd, hx⟩ := open_hd ht hc hb h hw
  have hV : ∀ i, i < len → ∃ z : Int, V i = .int .i64 z := fun i hi => by
    obtain ⟨-, ⟨n, p, h2⟩, -⟩ := hx i hi
    obtain ⟨k, e1, -, -⟩ := DataW.trod_int he h2
    exact ⟨k, by simpa using e1⟩
  obtain ⟨Z, hZ⟩ := choose_lt hV
  refine ⟨_, (List.range len).map Z, rfl, ?_⟩
  have hl : (ints ((List.range len).map Z)).length = len := by simp
  refine ⟨oa, cap, b, off, by rw [hl], by rw [hl]; exact hd, fun i hi => ?_⟩
  rw [hl] at hi
  rw [(hx i hi).1, hZ i hi, ints_getD _ _ (by simpa using hi)]
  simp [List.getD, hi]
theorem open_RowsAt {t e q : TypeId} {fuel : Nat} {cs : List Value} {x : DataW H × List MemPlace} (ht : P.underlying t = some (.slice e)) (he : P.underlying e = some (.slice q)) (hq : P.underlying q = some (.int .i64)) (hc : P.cellsOf e = 1) (hb : 1 ≤ P.bytesOf e) (hcq : P.cellsOf q = 1) (hbq : 1 ≤ P.bytesOf q)
    (h : DataW.trod enc P w base (fun _ => true) held fuel t cs = some x) (hw : ∀ n ∈ x.1.weights P t, n ≤ reachBytes) : ∃ v l, cs = [v] ∧ RowsAt w v l := by
  obtain ⟨oa, len, cap, b, off, V, D, rfl, hd, hx⟩ := open_hd ht hc hb h hw
  have hV : ∀ i, i < len → ∃ l : List Int, IntsAt w (V i) l := fun i hi => by
    obtain ⟨-, ⟨n, p, h2⟩, h3⟩ := hx i hi
    obtain ⟨v, l, e1, h4⟩ := open_IntsAt he hq hcq hbq h2 h3
    simp only [List.cons.injEq, and_true] at e1
    exact ⟨l, e1 ▸ h4⟩
  obtain ⟨Z, hZ⟩ := choose_lt hV
  refine ⟨_, (List.range len).map Z, rfl, (List.range len).map V, ⟨oa, cap, b, off, by simp, by simpa using hd, fun i hi => ?_⟩, by simp, fun i hi => ?_⟩
  · have hi' : i < len := by simpa using hi
    rw [(hx i hi').1]; simp [List.getD, hi']
  · have hi' : i < len := by simpa using hi
    have := hZ i hi'
    simpa [List.getD, hi'] using this
end

section
variable {H : Type} {enc : TypeId × Value → H} {w : World} {base : Nat} {held : Bool}
set_option maxRecDepth 10000 in
theorem open_ints {v : Value} {x : DataW H} {p : List MemPlace} {r : Reach} {b0 : Nat} (hv : Value.okWide Try.prog w r b0 31 v) (h : DataW.Trod enc Try.prog w base (fun _ => true) held 31 v x p) (hw : ∀ n ∈ x.weights Try.prog 31, n ≤ reachBytes) : ∃ l, IntsAt w v l := by
  obtain ⟨a0, len0, cap0, rfl⟩ := okWide_slice Try.underlying31 hv
  obtain ⟨fuel, hf⟩ := h
  have c5 : Try.prog.cellsOf 3 = 1 := by kernel_rfl
  have b5 : Try.prog.bytesOf 3 = 8 := by kernel_rfl
  obtain ⟨v', l, hcs, hI⟩ := open_IntsAt Try.underlying31 Try.underlying3 c5 (by rw [b5]; decide) hf hw
  have hcs' : Value.slice a0 len0 cap0 = v' := by
    have : [Value.slice a0 len0 cap0] = [v'] := hcs
    injection this
  rw [hcs']
  exact ⟨l, hI⟩
end
end Go.Cm
