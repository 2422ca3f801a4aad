/- Texts of this claim, joined: walks of small functions and plain facts about them. Conditions: as each says. -/
import Derived.Test.YticlfmakdblbkaaGN
import Derived.Test.YticlfmakdblbkaaGO
import Derived.Test.YticlfmakdblbkaaGJ
/- The walk of the law BlockBack. Conditions: the argument's lists read as lists. -/
namespace Go.Cm
open Go.RowKit Go.Proofs

theorem wrI_ge {f : Bool} {k z : Int} {l1 l2 : List Int} {st : Nat × Nat} (_hm : mayI k z l1 l2 = 0) : st.2 ≤ (wrI f k z l1 l2 st).2 := by
  have hg : ∀ (xs : List (Nat × Nat)) (s : Nat × Nat), s.2 ≤ (putS xs s).2 := fun xs s => by rw [putS_len]; omega
  unfold wrI
  split
  · refine Nat.le_trans ?_ (hg _ _)
    have h1 := hg [(finN f, 1), (0, 2)] st
    have h2 := align_ge (putS [(finN f, 1), (0, 2)] st).2
    exact Nat.le_trans h1 h2.1
  · split
    · exact hg _ _
    · exact Nat.le_trans (hg _ _) (hg _ _)

set_option maxRecDepth 100000 in
set_option maxHeartbeats 4000000 in
theorem blockBack (f : Bool) (k z : Int) (u1 u2 : Value) (l1 l2 : List Int) (a : Nat) (ha : a < 256) (w : World) (h1 : IntsAt w u1 l1) (h2 : IntsAt w u2 l2) : Calls Try.prog 7 #[.agg #[.bool f, .int .i64 k, .int .i64 z, u1, u2], .int .u8 (a : Nat)] w fun e w' => e = .returned (.bool true) ∧ ∃ x, w' = ext w x := by
  have HLI := Lib.hid (fun (W : World) (hb : Below w.heap.size w W) => lightP f k z u1 u2 l1 l2 W (h1.up hb) (h2.up hb))
  have HI1 := Lib.hid h1
  have HI2 := Lib.hid h2
  obtain ⟨o1, c1, b1, f1, rfl, -⟩ := h1.open
  obtain ⟨o2, c2, b2, f2, rfl, -⟩ := h2.open
  clear h1 h2
  generalize l1.length = n1 at *
  generalize l2.length = n2 at *
  by_cases hl : n1 ≤ 400 ∧ n2 ≤ 400
  · rw [decide_eq_true hl] at HLI
    have HGV := Lib.hid (fun (W : World) => givenP f k z o1 o2 n1 n2 c1 c2 W)
    have hmod : (a : Int) % 9 = ((a % 9 : Nat) : Int) := by omega
    have hmod2 : (a : Int).tmod 9 = ((a % 9 : Nat) : Int) := by norm_cast
    have hn9 : a % 9 ≤ 8 := by omega
    clear hl
    generalize a % 9 = n at *
    go_enter Try.func7, Try.ntmps7
    go_upto_region 3 with (go_at_call 17; (with_reducible refine (HLI.out _ (by repeat (first | exact Below.refl _ _ | assumption | refine b_drewN ?_ _ | refine Below.drew ?_ | refine b_ext' ?_ _ | refine b_alloc' ?_ _))).mono ?_); rintro e w1 ⟨rfl, x1, rfl⟩)
    have hA := (ownH w f k z o1 o2 n1 n2 c1 c2 36).up (ext_below _ x1)
    have HA := Lib.hid hA
    have hB1 : Below w.heap.size w (ext (w.alloc (.cells #[.bool f, .int .i64 k, .int .i64 z, .slice o1 n1 c1, .slice o2 n2 c2] 36)) x1) := (by repeat (first | exact Below.refl _ _ | assumption | refine b_drewN ?_ _ | refine Below.drew ?_ | refine b_ext' ?_ _ | refine b_alloc' ?_ _))
    have HB1 := Lib.hid hB1
    clear hA HLI hB1
    generalize ext (w.alloc (.cells #[.bool f, .int .i64 k, .int .i64 z, .slice o1 n1 c1, .slice o2 n2 c2] 36)) x1 = w1 at *
    obtain ⟨B, hB⟩ : ∃ B, B = w1.heap.size := ⟨_, rfl⟩
    have HOP := Lib.hid (openP w1)
    rw [← hB] at HOP
    have HBW : Hid (∀ W, Below B w1 W → Below w.heap.size w W) := Lib.hid (fun W hb => HB1.out.trans (hb.mono (by rw [hB]; exact HB1.out.size)))
    have HAC : Hid (∀ W, Below B w1 W → Own W w.heap.size 36 (.slice (some ⟨w.heap.size, 0, none⟩) 5 5) [.bool f, .int .i64 k, .int .i64 z, .slice o1 n1 c1, .slice o2 n2 c2]) := Lib.hid (fun W hb => HA.out.up (by rw [← hB]; exact hb))
    go_upto_region 6 with (go_at_call 20; (with_reducible refine HOP.out.mono ?_); rintro e w2 ⟨gw, rfl, hw, hb2⟩; (have HW2 := Lib.hid hw; have HB2 := Lib.hid hb2; clear hw hb2))
    obtain ⟨vb2, hv2⟩ := HW2.out.v
    have HV2 := Lib.hid hv2
    clear hv2 HW2 HOP
    go_upto_region 7 with fail
    have HP4 := Lib.hid (putV HV2.out (2 ^ n - 1) n (by have := Nat.two_pow_pos n; omega) (by omega) (by omega))
    have hsh : wrap64 (wrap64 (2 ^ n) - 1) = ((2 ^ n - 1 : Nat) : Int) := by
      have h9 : ∀ n, n < 9 → wrap64 (wrap64 (2 ^ n) - 1) = ((2 ^ n - 1 : Nat) : Int) := by decide +kernel
      exact h9 n (by omega)
    have HSH := Lib.hid hsh
    clear hsh
    rw [show 0 + (2 ^ n - 1) * 2 ^ 0 = 2 ^ n - 1 by omega, Nat.zero_add] at HP4
    go_upto_region 8 with (go_at_call 21; rw [HSH.out]; (with_reducible refine HP4.out.mono ?_); rintro e w4 ⟨rfl, vb4, hq1, hq2, hq3⟩; (have HV4 := Lib.hid hq1; have HB4 := Lib.hid (HB2.out.trans hq2); clear hq1 hq2 hq3))
    clear HV2 HP4 HSH HB2
    generalize 2 ^ n - 1 = N4 at *
    have HW0 : Hid (N4 < 2 ^ n) := Lib.hid HV4.out.lt
    obtain ⟨st, hst⟩ : ∃ st, st = (if mayI k z l1 l2 = 0 then wrI f k z l1 l2 (N4, n) else (N4, n)) := ⟨_, rfl⟩
    have hstl : st.2 ≤ 10000 := by
      rw [hst]
      by_cases hm : mayI k z l1 l2 = 0
      · rw [if_pos hm]; exact wrI_len hm (show n ≤ 1000 by omega)
      · rw [if_neg hm]; have h : n ≤ 10000 := (by omega); exact h
    obtain ⟨m, hm⟩ : ∃ m, m = mayI k z l1 l2 := ⟨_, rfl⟩
    have HWP : Hid (∀ x, Calls Try.prog 18 #[.pointer (some ⟨gw, 0, none⟩), .agg #[.bool f, .int .i64 k, .int .i64 z, .slice o1 n1 c1, .slice o2 n2 c2]] (ext w4 x) fun e w' => e = .returned (.int .i64 (m : Nat)) ∧ WSt (ext w4 x) B gw vb4 st w') := Lib.hid (by
      intro x
      have hb := HB4.out.trans ((ext_below w4 x).mono (by have := HB4.out.size; omega))
      have h := writeHP (HV4.out.up (ext_below w4 x)) f k z _ _ l1 l2 (fun W q => HI1.out.up (HBW.out W (hb.trans q))) (fun W q => HI2.out.up (HBW.out W (hb.trans q))) (show n ≤ 1000 by omega)
      rw [← hst, ← hm] at h; exact h)
    obtain ⟨A5, hA5, hs5, hl5⟩ := (HAC.out _ HB4.out).whole
    have he5 : A5 = #[.bool f, .int .i64 k, .int .i64 z, .slice o1 n1 c1, .slice o2 n2 c2] := by rw [← Array.toArray_toList (xs := A5), hl5]
    subst he5
    clear hs5 hl5
    by_cases hm0 : m = 0
    · have hm0' : mayI k z l1 l2 = 0 := by rw [← hm]; exact hm0
      rw [if_pos hm0'] at hst
      have hT := head_back (f := f) (st := (N4, n)) (T := 8 * ((st.2 + 7) / 8)) HW0.out hm0' (by rw [← hst]; omega)
      rw [← hst] at hT
      have hnl : n ≤ st.2 := by have := wrI_ge (f := f) (st := (N4, n)) hm0'; rw [← hst] at this; exact this
      subst hm0
      clear hst hm
      rw [show ((0 : Nat) : Int) = 0 from rfl] at HWP
      obtain ⟨N', L'⟩ := st
      simp only at hT hstl hnl
      obtain ⟨hlt, hhd⟩ := hT
      obtain ⟨S, hS⟩ : ∃ S : ByteArray, S = ⟨(textN N' L').toArray⟩ := ⟨_, rfl⟩
      have hsz : S.size = (L' + 7) / 8 := by rw [hS]; show (textN N' L').toArray.size = _; rw [List.size_toArray, textN_length]
      have hnum : numS S = N' := by rw [hS]; show numL (textN N' L').toArray.toList = N'; rw [List.toList_toArray]; exact numL_text hlt
      rw [← hnum, ← hsz] at hhd
      have HRP := Lib.hid (fun (W : World) (g : Nat) (h : BoxS W g S n) => readHP h (by omega) (by omega))
      unfold RetHead at HRP
      rw [hhd] at HRP
      have HNS := Lib.hid (fun (W : World) => newS S n (by omega) (by omega) W)
      obtain ⟨D, hD⟩ : ∃ D, D = backH f k z l1 l2 := ⟨_, rfl⟩
      rw [← hD] at HRP
      have HD := Lib.hid hD
      have HMI := Lib.hid hm0'
      clear hD hm0' hhd hnum hlt
      go_upto_region 10 with (first | (refine load_box rfl 36 5 _ rfl w.heap.size rfl #[.bool f, .int .i64 k, .int .i64 z, .slice o1 n1 c1, .slice o2 n2 c2] rfl hA5 _ Try.underlying36 rfl (by kernel_rfl) ?_) | (go_at_call 19; (with_reducible refine (HGV.out _).mono ?_); rintro e w6 ⟨rfl, x6, rfl⟩; have HX6 := Lib.hid (ext_below w4 x6)) | (go_at_call 18; (with_reducible refine (HWP.out _).mono ?_); rintro e w7 ⟨rfl, vb7, hq1, hq2, hq3⟩; (have HV7 := Lib.hid hq1; have HB7 := Lib.hid ((HB4.out.trans (HX6.out.mono (by have := HB4.out.size; omega))).trans hq2); have HWB := Lib.hid hq2; clear hq1 hq2 hq3)))
      try dsimp only at HV7
      have HT1 : Hid (∀ W, Below w7.heap.size w7 W → Calls Try.prog 25 #[.pointer (some ⟨gw, 0, none⟩)] W fun e w' => e = .returned (.string S) ∧ ∃ x, w' = ext W x) := Lib.hid (fun W hb => by rw [hS]; exact textP (HV7.out.p.up hb) (by omega))
      have HLN := Lib.hid (fun W (hb : Below w7.heap.size w7 W) => lenP (HV7.out.p.up hb) (by omega))
      have HZW : Hid (∀ W, Below w7.heap.size w7 W → Below w.heap.size w W) := Lib.hid (fun W hb => HBW.out W (HB7.out.trans (hb.mono (by have := HB7.out.size; omega))))
      have HAD : Hid (∀ W, Below w7.heap.size w7 W → Own W w.heap.size 36 (.slice (some ⟨w.heap.size, 0, none⟩) 5 5) [.bool f, .int .i64 k, .int .i64 z, .slice o1 n1 c1, .slice o2 n2 c2]) := Lib.hid (fun W hb => HAC.out W (HB7.out.trans (hb.mono (by have := HB7.out.size; omega))))
      have hw7 : w.heap.size ≤ w7.heap.size := (HZW.out w7 (Below.refl _ _)).size
      clear HWP HX6 hA5 HV4 HB4 HGV HAC HWB HV7 HB7 HBW HB1 HA HW0 hS
      generalize ext w4 x6 = w6 at *
      go_upto_region 13 with (first | (go_at_call 25; (with_reducible refine (HT1.out _ (Below.refl _ _)).mono ?_); rintro e w8 ⟨rfl, x8, rfl⟩; have HB8 := Lib.hid (ext_below w7 x8)) | (go_at_call 10; (with_reducible refine (HNS.out _).mono ?_); rintro e w9 ⟨gr, rfl, hx, hge, hb⟩; (have HX9 := Lib.hid hx; have HB9 := Lib.hid (below_up HB8.out hb); have hgr : w7.heap.size ≤ gr := Nat.le_trans (size_ext _ _) hge; have hl2 := hx.lt; clear hx hge hb)))
      try dsimp only at HRP
      rw [show ((0 : Nat) : Int) = 0 from rfl] at HRP
      have HRP3 := Lib.hid (HRP.out w9 gr HX9.out)
      clear HRP HX9 HT1 HNS HB8
      go_upto_region 14 with (go_at_call 12; (with_reducible refine HRP3.out.mono ?_); rintro e w10 ⟨v1, v2, rfl, ho1, ho2, hx, hg⟩; (have HX10 := Lib.hid hx; have HB10 : Hid (Below w7.heap.size w7 w10) := Lib.hid (HB9.out.grown hg HB9.out.size (fun k e => by injection e with e; omega)); have HP1 := Lib.hid ho1; have HP2 := Lib.hid ho2; obtain ⟨o3, c3, g3, hv1, -⟩ := ho1.cases; obtain ⟨o4, c4, g4, hv2, -⟩ := ho2.cases; subst hv1 hv2; generalize (ints (nls D.lits)).length = n3 at *; generalize (ints (nls D.dists)).length = n4 at *; clear ho1 ho2 hx hg HRP3))
      have HHA := Lib.hid (ownH w10 D.fin (D.kind : Nat) (D.size : Nat) o3 o4 n3 n4 c3 c4 33)
      have HBA := Lib.hid (below_alloc w10 (.cells #[.bool D.fin, .int .i64 (D.kind : Nat), .int .i64 (D.size : Nat), .slice o3 n3 c3, .slice o4 n4 c4] 33))
      have HX11 := Lib.hid (HX10.out.up HBA.out)
      have HQ1 := Lib.hid (HP1.out.up HBA.out)
      have HQ2 := Lib.hid (HP2.out.up HBA.out)
      have HB11 := Lib.hid (below_up HB10.out HBA.out)
      have hb1 : w7.heap.size ≤ w10.heap.size := HB10.out.size
      have HV1 : Hid (∀ q, (Value.slice o3 n3 c3).ownBlock = some q → q < w10.heap.size) := Lib.hid (fun q e => (HP1.out.lt q e).2)
      have HV2 : Hid (∀ q, (Value.slice o4 n4 c4).ownBlock = some q → q < w10.heap.size) := Lib.hid (fun q e => (HP2.out.lt q e).2)
      clear HX10 HP1 HP2 HB10 HBA HB9
      generalize w10.alloc (.cells #[.bool D.fin, .int .i64 (D.kind : Nat), .int .i64 (D.size : Nat), .slice o3 n3 c3, .slice o4 n4 c4] 33) = w11 at *
      generalize w10.heap.size = b1 at *
      have hh := HAD.out w11 HB11.out
      have z0 := hh.cell (i := 0) (by simp)
      have z1 := hh.cell (i := 1) (by simp)
      have z2 := hh.cell (i := 2) (by simp)
      have z3 := hh.cell (i := 3) (by simp)
      have z4 := hh.cell (i := 4) (by simp)
      have hbl := hh.blk.2
      clear hh
      have hb1w := HHA.out.blk.2
      go_upto_region 15 with fail
      have HHB := Lib.hid (ownH w11 f k 0 none none 0 0 0 0 36)
      have HBB := Lib.hid (below_alloc w11 (.cells #[.bool f, .int .i64 k, .int .i64 0, .slice none 0 0, .slice none 0 0] 36))
      have HX12 := Lib.hid (HX11.out.up HBB.out)
      have HR1 := Lib.hid (HQ1.out.up HBB.out)
      have HR2 := Lib.hid (HQ2.out.up HBB.out)
      have HB12 := Lib.hid (below_up HB11.out HBB.out)
      have HHC := Lib.hid (HHA.out.up HBB.out)
      have hb2 : w7.heap.size ≤ w11.heap.size := HB11.out.size
      have hgb := HX11.out.lt
      clear HX11 HQ1 HQ2 HB11 HBB HHA z0 z1 z2 z3 z4
      generalize w11.alloc (.cells #[.bool f, .int .i64 k, .int .i64 0, .slice none 0 0, .slice none 0 0] 36) = w12 at *
      generalize w11.heap.size = b2 at *
      have hh := HAD.out w12 HB12.out
      have z0 := hh.cell (i := 0) (by simp)
      have z1 := hh.cell (i := 1) (by simp)
      have z2 := hh.cell (i := 2) (by simp)
      have z3 := hh.cell (i := 3) (by simp)
      have z4 := hh.cell (i := 4) (by simp)
      have y0 := HHB.out.cell (i := 0) (by simp)
      have y1 := HHB.out.cell (i := 1) (by simp)
      have y2 := HHB.out.cell (i := 2) (by simp)
      have y3 := HHB.out.cell (i := 3) (by simp)
      have y4 := HHB.out.cell (i := 4) (by simp)
      have hbl2 := hh.blk.2
      have hbl3 := HHB.out.blk.2
      have hfr : ∀ i, w12.frozen? ⟨b2, i, none⟩ = false := HHB.out.free
      clear hh
      have HN12 := Lib.hid HHB.out
      have HC12 := Lib.hid HHC.out
      have HR112 := Lib.hid HR1.out
      have HR212 := Lib.hid HR2.out
      clear HR1 HR2 HHC
      by_cases k0 : k = 0
      · subst k0
        have hz : 0 ≤ z ∧ z ≤ 65535 := by
          have h := HMI.out
          unfold mayI at h
          rw [if_pos rfl] at h
          by_cases c : z < 0 ∨ 65535 < z
          · rw [if_pos c] at h; cases h
          · omega
        obtain ⟨zn, rfl⟩ : ∃ zn : Nat, z = (zn : Nat) := ⟨z.toNat, by omega⟩
        have hD : D = ⟨f, 0, zn, [], []⟩ := by rw [HD.out]; unfold backH; rw [if_pos rfl, Int.toNat_natCast]
        clear HD HMI HI1 HI2
        subst hD
        have HG := Lib.hid (HN12.out.store 2 (.int .i64 (zn : Nat)))
        go_upto_region 23 with fail
        have HN13 := Lib.hid HG.out.1
        have HX13 := Lib.hid (HX12.out.stay HG.out.2 (fun e => by injection e with e; omega))
        have HC13 := Lib.hid (HC12.out.keepN HG.out.2 (fun e => by injection e with e; omega))
        have HR113 := Lib.hid (HR112.out.keep HG.out.2 (.inr (fun e => by have := HV1.out _ e; omega)))
        have HR213 := Lib.hid (HR212.out.keep HG.out.2 (.inr (fun e => by have := HV2.out _ e; omega)))
        have HB13 := Lib.hid (HB12.out.grown HG.out.2 HB12.out.size (fun k e => by injection e with e; omega))
        clear HG
        clear HN12 HX12 HC12 HR112 HR212 HB12
        generalize w12.setCell ⟨b2, 2, none⟩ (.int .i64 (zn : Nat)) = w13 at *
        have HCA : Hid (Own w13 b1 33 (.slice (some ⟨b1, 0, none⟩) 5 5) #[.bool f, .int .i64 0, .int .i64 (zn : Nat), .slice o3 n3 c3, .slice o4 n4 c4].toList) := Lib.hid HC13.out
        have HCB : Hid (Own w13 b2 36 (.slice (some ⟨b2, 0, none⟩) 5 5) #[.bool f, .int .i64 0, .int .i64 (zn : Nat), .slice none 0 0, .slice none 0 0].toList) := Lib.hid HN13.out
        obtain ⟨A, hA, hAs, hAl⟩ := HCA.out.whole
        obtain ⟨B', hB', hBs, hBl⟩ := HCB.out.whole
        have hAe : A = #[.bool f, .int .i64 0, .int .i64 (zn : Nat), .slice o3 n3 c3, .slice o4 n4 c4] := by rw [← Array.toArray_toList (xs := A), hAl]
        have hBe : B' = #[.bool f, .int .i64 0, .int .i64 (zn : Nat), .slice none 0 0, .slice none 0 0] := by rw [← Array.toArray_toList (xs := B'), hBl]
        subst hAe hBe
        have hx1 := HCA.out.blk.2
        have hx2 := HCB.out.blk.2
        have HA7 : Hid (∀ w', (∃ x, w' = ext w13 x) → w'.heap[b1]? = some (.cells #[.bool f, .int .i64 0, .int .i64 (zn : Nat), .slice o3 n3 c3, .slice o4 n4 c4] 33 (0, 0))) := Lib.hid (by rintro _ ⟨x, rfl⟩; rw [heap_ext _ _ _ hx1]; exact hA)
        have HB7' : Hid (∀ w', (∃ x, w' = ext w13 x) → w'.heap[b2]? = some (.cells #[.bool f, .int .i64 0, .int .i64 (zn : Nat), .slice none 0 0, .slice none 0 0] 36 (0, 0))) := Lib.hid (by rintro _ ⟨x, rfl⟩; rw [heap_ext _ _ _ hx2]; exact hB')
        clear hA hB' hAl hBl hAs hBs HCA HCB hx1 hx2
        have HTK := Lib.hid (fun W => takenP f 0 (zn : Nat) o3 o4 n3 n4 c3 c4 W)
        have HSM := Lib.hid (fun (W : World) (hb : Below w13.heap.size w13 W) => sameT f 0 (zn : Nat) (.slice o3 n3 c3) (.slice o4 n4 c4) (.slice none 0 0) (.slice none 0 0) ([]) ([]) W (show IntsAt W _ [] from HR113.out.sl.up hb) (show IntsAt W _ [] from HR213.out.sl.up hb) (Sl.nil W) (Sl.nil W))
        have HAT : Hid (∀ W, BoxS W gr S L' → Calls Try.prog 16 #[.pointer (some ⟨gr, 0, none⟩)] W fun e w' => e = .returned (.int .i64 (L' : Nat)) ∧ ∃ x, w' = ext W x) := Lib.hid (fun W h => (atS h).mono fun e w' ⟨h1, h2⟩ => ⟨h1, by rw [h2]; exact refl_ext W⟩)
        have HXF := Lib.hid HX13.out
        have HBF := Lib.hid HB13.out
        clear HN13 HX13 HC13 HR113 HR213 HB13
        clear hfr z0 z1 z2 z3 z4 y0 y1 y2 y3 y4 HHB HV1 HV2 HAD
        refine wp_region_ext (by kernel_rfl) (by kernel_rfl) ?_
        repeat (first | (go_big_quiet_want; refine quiet_load_box 33 5 _ rfl b1 rfl _ rfl HA7.out _ Try.underlying33 rfl (by kernel_rfl) ?_; go_simp; go_big_quiet_on) | (go_big_quiet_want; refine quiet_load_box 36 5 _ rfl b2 rfl _ rfl HB7'.out _ Try.underlying36 rfl (by kernel_rfl) ?_; go_simp; go_big_quiet_on) | (go_big_quiet_step (first | (go_at_call 15; exact calls_in (HTK.out _)) | (go_at_call 14; exact calls_in (HSM.out _ (ext_below _ _))) | (go_at_call 16; exact calls_in (HAT.out _ (HXF.out.up (ext_below _ _)))) | (go_at_call 24; exact calls_in (HLN.out _ (below_up HBF.out (ext_below _ _)))) | (go_at_call 8; exact calls_in (knownP _)))))
        refine wpQuiet_nil ?_
        rintro w' ⟨y, rfl⟩
        go_wp2
        go_ret
        exact ⟨rfl, ex_ext (HZW.out _ (below_up HBF.out (ext_below _ _)))⟩
      · by_cases k1 : k = 1
        · subst k1
          have hD : D = ⟨f, 1, 0, fixL, fixD⟩ := by rw [HD.out]; unfold backH; rw [if_neg (by decide), if_pos rfl]
          clear HD HMI HI1 HI2 k0
          subst hD
          go_upto_region 22 with (go_at_call 29; (with_reducible refine (fixLR _).mono ?_); rintro e w13 ⟨v5, rfl, ho, hq⟩; (have HF13 := Lib.hid ho; have HU13 := Lib.hid hq; have HNX := Lib.hid (HN12.out.up hq); have hfr13 : ∀ i, w13.frozen? ⟨b2, i, none⟩ = false := HNX.out.free; have hb13 := HNX.out.blk.2; have yy := HNX.out.cell (i := 3) (by simp); obtain ⟨o13, c13, g13, hv5, -⟩ := ho.cases; subst hv5; have HG13 := Lib.hid (HNX.out.store 3 (.slice o13 (ints (nls fixL)).length c13)); generalize (ints (nls fixL)).length = n13 at *; clear ho hq))
          have HN13 := Lib.hid (HN12.out.up HU13.out)
          have HX13 := Lib.hid (HX12.out.up HU13.out)
          have HC13 := Lib.hid (HC12.out.up HU13.out)
          have HR113 := Lib.hid (HR112.out.up HU13.out)
          have HR213 := Lib.hid (HR212.out.up HU13.out)
          have HB13 := Lib.hid (below_up HB12.out HU13.out)
          have HN14 := Lib.hid HG13.out.1
          have HX14 := Lib.hid (HX13.out.stay HG13.out.2 (fun e => by injection e with e; omega))
          have HC14 := Lib.hid (HC13.out.keepN HG13.out.2 (fun e => by injection e with e; omega))
          have HR114 := Lib.hid (HR113.out.keep HG13.out.2 (.inr (fun e => by have := HV1.out _ e; omega)))
          have HR214 := Lib.hid (HR213.out.keep HG13.out.2 (.inr (fun e => by have := HV2.out _ e; omega)))
          have HB14 := Lib.hid (HB13.out.grown HG13.out.2 HB13.out.size (fun k e => by injection e with e; omega))
          have HE14 := Lib.hid (HF13.out.keep HG13.out.2 (.inr (fun e => by have := (HF13.out.lt _ e).1; omega)))
          clear HNX yy HG13 HF13 HU13 hfr13 hb13 hfr z0 z1 z2 z3 z4 y0 y1 y2 y3 y4 HHB
          clear HN12 HX12 HC12 HR112 HR212 HB12
          clear HN13 HX13 HC13 HR113 HR213 HB13
          generalize w13.setCell ⟨b2, 3, none⟩ (.slice o13 n13 c13) = w14 at *
          have hb14 := HN14.out.blk.2
          go_upto_region 23 with (go_at_call 30; (with_reducible refine (fixDR _).mono ?_); rintro e w15 ⟨v5, rfl, ho, hq⟩; (have HF15 := Lib.hid ho; have HU15 := Lib.hid hq; have HNX := Lib.hid (HN14.out.up hq); have hfr15 : ∀ i, w15.frozen? ⟨b2, i, none⟩ = false := HNX.out.free; have hb15 := HNX.out.blk.2; have yy := HNX.out.cell (i := 4) (by simp); obtain ⟨o15, c15, g15, hv5, -⟩ := ho.cases; subst hv5; have HG15 := Lib.hid (HNX.out.store 4 (.slice o15 (ints (nls fixD)).length c15)); generalize (ints (nls fixD)).length = n15 at *; clear ho hq))
          have HN15 := Lib.hid (HN14.out.up HU15.out)
          have HX15 := Lib.hid (HX14.out.up HU15.out)
          have HC15 := Lib.hid (HC14.out.up HU15.out)
          have HR115 := Lib.hid (HR114.out.up HU15.out)
          have HR215 := Lib.hid (HR214.out.up HU15.out)
          have HB15 := Lib.hid (below_up HB14.out HU15.out)
          have HN16 := Lib.hid HG15.out.1
          have HX16 := Lib.hid (HX15.out.stay HG15.out.2 (fun e => by injection e with e; omega))
          have HC16 := Lib.hid (HC15.out.keepN HG15.out.2 (fun e => by injection e with e; omega))
          have HR116 := Lib.hid (HR115.out.keep HG15.out.2 (.inr (fun e => by have := HV1.out _ e; omega)))
          have HR216 := Lib.hid (HR215.out.keep HG15.out.2 (.inr (fun e => by have := HV2.out _ e; omega)))
          have HB16 := Lib.hid (HB15.out.grown HG15.out.2 HB15.out.size (fun k e => by injection e with e; omega))
          have HE16 := Lib.hid (HF15.out.keep HG15.out.2 (.inr (fun e => by have := (HF15.out.lt _ e).1; omega)))
          have HE13 := Lib.hid ((HE14.out.up HU15.out).keep HG15.out.2 (.inr (fun e => by have := (HE14.out.lt _ e).1; omega)))
          clear HNX yy HG15 HF15 HU15 hfr15 hb15 HE14
          clear HN14 HX14 HC14 HR114 HR214 HB14
          clear HN15 HX15 HC15 HR115 HR215 HB15
          generalize w15.setCell ⟨b2, 4, none⟩ (.slice o15 n15 c15) = w16 at *
          have HCA : Hid (Own w16 b1 33 (.slice (some ⟨b1, 0, none⟩) 5 5) #[.bool f, .int .i64 1, .int .i64 0, .slice o3 n3 c3, .slice o4 n4 c4].toList) := Lib.hid HC16.out
          have HCB : Hid (Own w16 b2 36 (.slice (some ⟨b2, 0, none⟩) 5 5) #[.bool f, .int .i64 1, .int .i64 0, .slice o13 n13 c13, .slice o15 n15 c15].toList) := Lib.hid HN16.out
          obtain ⟨A, hA, hAs, hAl⟩ := HCA.out.whole
          obtain ⟨B', hB', hBs, hBl⟩ := HCB.out.whole
          have hAe : A = #[.bool f, .int .i64 1, .int .i64 0, .slice o3 n3 c3, .slice o4 n4 c4] := by rw [← Array.toArray_toList (xs := A), hAl]
          have hBe : B' = #[.bool f, .int .i64 1, .int .i64 0, .slice o13 n13 c13, .slice o15 n15 c15] := by rw [← Array.toArray_toList (xs := B'), hBl]
          subst hAe hBe
          have hx1 := HCA.out.blk.2
          have hx2 := HCB.out.blk.2
          have HA7 : Hid (∀ w', (∃ x, w' = ext w16 x) → w'.heap[b1]? = some (.cells #[.bool f, .int .i64 1, .int .i64 0, .slice o3 n3 c3, .slice o4 n4 c4] 33 (0, 0))) := Lib.hid (by rintro _ ⟨x, rfl⟩; rw [heap_ext _ _ _ hx1]; exact hA)
          have HB7' : Hid (∀ w', (∃ x, w' = ext w16 x) → w'.heap[b2]? = some (.cells #[.bool f, .int .i64 1, .int .i64 0, .slice o13 n13 c13, .slice o15 n15 c15] 36 (0, 0))) := Lib.hid (by rintro _ ⟨x, rfl⟩; rw [heap_ext _ _ _ hx2]; exact hB')
          clear hA hB' hAl hBl hAs hBs HCA HCB hx1 hx2
          have HTK := Lib.hid (fun W => takenP f 1 0 o3 o4 n3 n4 c3 c4 W)
          have HSM := Lib.hid (fun (W : World) (hb : Below w16.heap.size w16 W) => sameT f 1 0 (.slice o3 n3 c3) (.slice o4 n4 c4) (.slice o13 n13 c13) (.slice o15 n15 c15) (nls fixL) (nls fixD) W (show IntsAt W _ _ from HR116.out.sl.up hb) (show IntsAt W _ _ from HR216.out.sl.up hb) (show IntsAt W _ _ from HE13.out.sl.up hb) (show IntsAt W _ _ from HE16.out.sl.up hb))
          have HAT : Hid (∀ W, BoxS W gr S L' → Calls Try.prog 16 #[.pointer (some ⟨gr, 0, none⟩)] W fun e w' => e = .returned (.int .i64 (L' : Nat)) ∧ ∃ x, w' = ext W x) := Lib.hid (fun W h => (atS h).mono fun e w' ⟨h1, h2⟩ => ⟨h1, by rw [h2]; exact refl_ext W⟩)
          have HXF := Lib.hid HX16.out
          have HBF := Lib.hid HB16.out
          clear HN16 HX16 HC16 HR116 HR216 HB16
          clear HV1 HV2 HAD HE13 HE16
          refine wp_region_ext (by kernel_rfl) (by kernel_rfl) ?_
          repeat (first | (go_big_quiet_want; refine quiet_load_box 33 5 _ rfl b1 rfl _ rfl HA7.out _ Try.underlying33 rfl (by kernel_rfl) ?_; go_simp; go_big_quiet_on) | (go_big_quiet_want; refine quiet_load_box 36 5 _ rfl b2 rfl _ rfl HB7'.out _ Try.underlying36 rfl (by kernel_rfl) ?_; go_simp; go_big_quiet_on) | (go_big_quiet_step (first | (go_at_call 15; exact calls_in (HTK.out _)) | (go_at_call 14; exact calls_in (HSM.out _ (ext_below _ _))) | (go_at_call 16; exact calls_in (HAT.out _ (HXF.out.up (ext_below _ _)))) | (go_at_call 24; exact calls_in (HLN.out _ (below_up HBF.out (ext_below _ _)))) | (go_at_call 8; exact calls_in (knownP _)))))
          refine wpQuiet_nil ?_
          rintro w' ⟨y, rfl⟩
          go_wp2
          go_ret
          exact ⟨rfl, ex_ext (HZW.out _ (below_up HBF.out (ext_below _ _)))⟩
        · have hk : k = 2 := by
            have h := HMI.out
            unfold mayI at h
            rw [if_neg k0, if_neg k1] at h
            apply Classical.byContradiction; intro hn
            rw [if_neg hn] at h
            cases h
          subst hk
          obtain ⟨-, -, -, -, q1, q2, -⟩ := mayI_dyn HMI.out
          have hD : D = ⟨f, 2, 0, l1.map Int.toNat, l2.map Int.toNat⟩ := by rw [HD.out]; unfold backH; rw [if_neg (by decide), if_neg (by decide)]
          have HQL := Lib.hid q1.symm
          have HQD := Lib.hid q2.symm
          clear HD HMI k0 k1 q1 q2
          subst hD
          have HG13 := Lib.hid (HN12.out.store 3 (.slice o1 n1 c1))
          go_upto_region 17 with fail
          have HN13 := Lib.hid HG13.out.1
          have HX13 := Lib.hid (HX12.out.stay HG13.out.2 (fun e => by injection e with e; omega))
          have HC13 := Lib.hid (HC12.out.keepN HG13.out.2 (fun e => by injection e with e; omega))
          have HR113 := Lib.hid (HR112.out.keep HG13.out.2 (.inr (fun e => by have := HV1.out _ e; omega)))
          have HR213 := Lib.hid (HR212.out.keep HG13.out.2 (.inr (fun e => by have := HV2.out _ e; omega)))
          have HB13 := Lib.hid (HB12.out.grown HG13.out.2 HB12.out.size (fun k e => by injection e with e; omega))
          clear HG13 hfr z0 z1 z2 z3 z4 y0 y1 y2 y3 y4 HHB
          clear HN12 HX12 HC12 HR112 HR212 HB12
          generalize w12.setCell ⟨b2, 3, none⟩ (.slice o1 n1 c1) = w13 at *
          have hh := HAD.out w13 HB13.out
          have z0 := hh.cell (i := 0) (by simp)
          have z1 := hh.cell (i := 1) (by simp)
          have z2 := hh.cell (i := 2) (by simp)
          have z3 := hh.cell (i := 3) (by simp)
          have z4 := hh.cell (i := 4) (by simp)
          have y0 := HN13.out.cell (i := 0) (by simp)
          have y1 := HN13.out.cell (i := 1) (by simp)
          have y2 := HN13.out.cell (i := 2) (by simp)
          have y3 := HN13.out.cell (i := 3) (by simp)
          have y4 := HN13.out.cell (i := 4) (by simp)
          have hb13 := HN13.out.blk.2
          have hh13 := hh.blk.2
          have hfr : ∀ i, w13.frozen? ⟨b2, i, none⟩ = false := HN13.out.free
          have HG14 := Lib.hid (HN13.out.store 4 (.slice o2 n2 c2))
          clear hh
          go_upto_region 23 with fail
          have HN14 := Lib.hid HG14.out.1
          have HX14 := Lib.hid (HX13.out.stay HG14.out.2 (fun e => by injection e with e; omega))
          have HC14 := Lib.hid (HC13.out.keepN HG14.out.2 (fun e => by injection e with e; omega))
          have HR114 := Lib.hid (HR113.out.keep HG14.out.2 (.inr (fun e => by have := HV1.out _ e; omega)))
          have HR214 := Lib.hid (HR213.out.keep HG14.out.2 (.inr (fun e => by have := HV2.out _ e; omega)))
          have HB14 := Lib.hid (HB13.out.grown HG14.out.2 HB13.out.size (fun k e => by injection e with e; omega))
          clear HG14
          clear HN13 HX13 HC13 HR113 HR213 HB13
          generalize w13.setCell ⟨b2, 4, none⟩ (.slice o2 n2 c2) = w14 at *
          have HY : Hid (∀ W, Below w14.heap.size w14 W → Below w.heap.size w W) := Lib.hid (fun W hb => HZW.out W (below_up HB14.out hb))
          have HCA : Hid (Own w14 b1 33 (.slice (some ⟨b1, 0, none⟩) 5 5) #[.bool f, .int .i64 2, .int .i64 0, .slice o3 n3 c3, .slice o4 n4 c4].toList) := Lib.hid HC14.out
          have HCB : Hid (Own w14 b2 36 (.slice (some ⟨b2, 0, none⟩) 5 5) #[.bool f, .int .i64 2, .int .i64 0, .slice o1 n1 c1, .slice o2 n2 c2].toList) := Lib.hid HN14.out
          obtain ⟨A, hA, hAs, hAl⟩ := HCA.out.whole
          obtain ⟨B', hB', hBs, hBl⟩ := HCB.out.whole
          have hAe : A = #[.bool f, .int .i64 2, .int .i64 0, .slice o3 n3 c3, .slice o4 n4 c4] := by rw [← Array.toArray_toList (xs := A), hAl]
          have hBe : B' = #[.bool f, .int .i64 2, .int .i64 0, .slice o1 n1 c1, .slice o2 n2 c2] := by rw [← Array.toArray_toList (xs := B'), hBl]
          subst hAe hBe
          have hx1 := HCA.out.blk.2
          have hx2 := HCB.out.blk.2
          have HA7 : Hid (∀ w', (∃ x, w' = ext w14 x) → w'.heap[b1]? = some (.cells #[.bool f, .int .i64 2, .int .i64 0, .slice o3 n3 c3, .slice o4 n4 c4] 33 (0, 0))) := Lib.hid (by rintro _ ⟨x, rfl⟩; rw [heap_ext _ _ _ hx1]; exact hA)
          have HB7' : Hid (∀ w', (∃ x, w' = ext w14 x) → w'.heap[b2]? = some (.cells #[.bool f, .int .i64 2, .int .i64 0, .slice o1 n1 c1, .slice o2 n2 c2] 36 (0, 0))) := Lib.hid (by rintro _ ⟨x, rfl⟩; rw [heap_ext _ _ _ hx2]; exact hB')
          clear hA hB' hAl hBl hAs hBs HCA HCB hx1 hx2
          have HTK := Lib.hid (fun W => takenP f 2 0 o3 o4 n3 n4 c3 c4 W)
          have HSM := Lib.hid (fun (W : World) (hb : Below w14.heap.size w14 W) => sameT f 2 0 (.slice o3 n3 c3) (.slice o4 n4 c4) (.slice o1 n1 c1) (.slice o2 n2 c2) (l1) (l2) W (by have h := HR114.out.sl.up hb; rw [HQL.out] at h; exact h) (by have h := HR214.out.sl.up hb; rw [HQD.out] at h; exact h) (HI1.out.up (HY.out W hb)) (HI2.out.up (HY.out W hb)))
          have HAT : Hid (∀ W, BoxS W gr S L' → Calls Try.prog 16 #[.pointer (some ⟨gr, 0, none⟩)] W fun e w' => e = .returned (.int .i64 (L' : Nat)) ∧ ∃ x, w' = ext W x) := Lib.hid (fun W h => (atS h).mono fun e w' ⟨h1, h2⟩ => ⟨h1, by rw [h2]; exact refl_ext W⟩)
          have HXF := Lib.hid HX14.out
          have HBF := Lib.hid HB14.out
          clear HN14 HX14 HC14 HR114 HR214 HB14
          clear hfr z0 z1 z2 z3 z4 y0 y1 y2 y3 y4 HV1 HV2 HAD
          refine wp_region_ext (by kernel_rfl) (by kernel_rfl) ?_
          repeat (first | (go_big_quiet_want; refine quiet_load_box 33 5 _ rfl b1 rfl _ rfl HA7.out _ Try.underlying33 rfl (by kernel_rfl) ?_; go_simp; go_big_quiet_on) | (go_big_quiet_want; refine quiet_load_box 36 5 _ rfl b2 rfl _ rfl HB7'.out _ Try.underlying36 rfl (by kernel_rfl) ?_; go_simp; go_big_quiet_on) | (go_big_quiet_step (first | (go_at_call 15; exact calls_in (HTK.out _)) | (go_at_call 14; exact calls_in (HSM.out _ (ext_below _ _))) | (go_at_call 16; exact calls_in (HAT.out _ (HXF.out.up (ext_below _ _)))) | (go_at_call 24; exact calls_in (HLN.out _ (below_up HBF.out (ext_below _ _)))) | (go_at_call 8; exact calls_in (knownP _)))))
          refine wpQuiet_nil ?_
          rintro w' ⟨y, rfl⟩
          go_wp2
          go_ret
          exact ⟨rfl, ex_ext (HZW.out _ (below_up HBF.out (ext_below _ _)))⟩
    · have hmi : ((m : Int) != 0) = true := by simpa using hm0
      have hm0' : ¬ mayI k z l1 l2 = 0 := by rw [← hm]; exact hm0
      rw [if_neg hm0'] at hst
      subst hst
      clear hm hm0' hm0 hstl
      go_upto_region 9 with (first | (refine load_box rfl 36 5 _ rfl w.heap.size rfl #[.bool f, .int .i64 k, .int .i64 z, .slice o1 n1 c1, .slice o2 n2 c2] rfl hA5 _ Try.underlying36 rfl (by kernel_rfl) ?_) | (go_at_call 19; (with_reducible refine (HGV.out _).mono ?_); rintro e w6 ⟨rfl, x6, rfl⟩; have HX6 := Lib.hid (ext_below w4 x6)) | (go_at_call 18; (with_reducible refine (HWP.out _).mono ?_); rintro e w7 ⟨rfl, vb7, hq1, hq2, hq3⟩; (have HV7 := Lib.hid hq1; have HB7 := Lib.hid ((HB4.out.trans (HX6.out.mono (by have := HB4.out.size; omega))).trans hq2);  clear hq1 hq2 hq3)))
      try dsimp only at HV7
      have HLN := Lib.hid (lenP HV7.out.p (by omega))
      have HZW : Hid (∀ W, Below w7.heap.size w7 W → ∃ x, W = ext w x) := Lib.hid (fun W hb => ex_ext (HBW.out W (HB7.out.trans (hb.mono (by have := HB7.out.size; omega)))))
      clear HWP HX6 hA5 HV4 HB4 HGV HAC HV7 HB7 HBW HB1 HA HW0 HI1 HI2
      generalize ext w4 x6 = w6 at *
      go_wp2_with (first | (go_at_call 24; (with_reducible refine HLN.out.mono ?_); rintro e w8 ⟨rfl, x8, rfl⟩) | (go_at_call 8; refine (knownP _).mono ?_; rintro e w9 ⟨rfl, x9, rfl⟩))
      go_ret
      exact ⟨rfl, HZW.out _ (by repeat (first | exact Below.refl _ _ | assumption | refine b_drewN ?_ _ | refine Below.drew ?_ | refine b_ext' ?_ _ | refine b_alloc' ?_ _))⟩
  · rw [decide_eq_false hl] at HLI
    clear hl
    go_enter Try.func7, Try.ntmps7
    go_wp2_with (first | (go_at_call 17; (with_reducible refine (HLI.out _ (by repeat (first | exact Below.refl _ _ | assumption | refine b_drewN ?_ _ | refine Below.drew ?_ | refine b_ext' ?_ _ | refine b_alloc' ?_ _))).mono ?_); rintro e w1 ⟨rfl, x1, rfl⟩) | (go_at_call 8; refine (knownP _).mono ?_; rintro e w2 ⟨rfl, x2, rfl⟩))
    go_ret
    exact ⟨rfl, (ex_ext (by repeat (first | exact Below.refl _ _ | assumption | refine b_drewN ?_ _ | refine Below.drew ?_ | refine b_ext' ?_ _ | refine b_alloc' ?_ _)))⟩
end Go.Cm
