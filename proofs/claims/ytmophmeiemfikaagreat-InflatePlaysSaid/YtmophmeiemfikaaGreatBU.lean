/- Texts of this claim, joined: walks of small functions and plain facts about them. Conditions: as each says. -/
import Derived.Test.YtmophmeiemfikaaGreatRows
import Derived.WalkKit
import Derived.WalkSpells
import Derived.WalkLawsBesides
import Derived.Deep.QuietTactic
import Derived.BigQuiet
import Derived.Lib.Hide
import Derived.Laws.Small
import Derived.Deep.LoopGhost
import Derived.Laws.BitsLemmas
import Derived.Deep.DeepCutAuto
import Derived.Deep.CutBlock
import Derived.Deep.CutRange
import Derived.Laws.IdiomStrings
import Derived.Laws.CopyOwn
import Derived.Laws.EntriesVeiled
import Derived.Shelf.Abstract
import Derived.WalkMore
import Derived.Test.YtmophmeiemfikaaGreatBT
import Derived.SizedLaws
import Derived.ProofKit
import Derived.OpenShut
import Derived.Deep.Slices
import Derived.ChangeSlices
import Derived.WideKeyArgs
/- The walk of InflatePlays. Conditions: the two lists read as such. -/
namespace Go.Cm
open Go.RowKit Go.Proofs

theorem take_min2 (l : Byts) (n : Nat) : l.take (min n l.length) = l.take n := by
  rcases Nat.le_total n l.length with h | h
  · rw [Nat.min_eq_left h]
  · rw [Nat.min_eq_right h, List.take_length, List.take_of_length_le h]
set_option maxRecDepth 100000 in
set_option maxHeartbeats 8000000 in
theorem playsI (s t : ByteArray) (b : Int) (vs vt : Value) (ns : List Int) (ts : List Bool) (w : World) (hvs : Sl w vs (ints ns)) (hvt : Sl w vt (ts.map Value.bool)) : Calls Tryz.prog 4 #[.agg #[.string s, .int .i64 b, .string t, vs, vt]] w fun e w' => e = .returned (.bool true) ∧ Below w.heap.size w w' := by
  have HK := Lib.hid knownI
  have HSM := Lib.hid (smallI s t)
  obtain ⟨on, cn, bn, fn, hvn, hdn, hcn⟩ := hvs
  obtain ⟨ot, ct, bt, ft, hvt2, hdt, hct⟩ := hvt
  rw [show (ints ns).length = ns.length by simp [ints]] at hvn hdn hcn
  rw [List.length_map] at hvt2 hdt hct
  subst hvn
  subst hvt2
  have HIN := Lib.hid (index_any (P := Tryz.prog) 35 3 Tryz.underlying35 (by kernel_rfl) hdn)
  have HIT := Lib.hid (index_any (P := Tryz.prog) 36 4 Tryz.underlying36 (by kernel_rfl) hdt)
  have hnl := hdn.len
  have htl := hdt.len
  have HBN := Lib.hid hdn.hblk
  have HBT := Lib.hid hdt.hblk
  have HCN : Hid (∀ i, i < ns.length → w.cell? ⟨bn, fn + i, none⟩ = some (.int .i64 (ns.getD i 0))) := Lib.hid (fun i hi => by
    rw [hcn i hi]; simp [ints, List.getD, hi])
  have HCT : Hid (∀ i, i < ts.length → w.cell? ⟨bt, ft + i, none⟩ = some (.bool (ts.getD i false))) := Lib.hid (fun i hi => by
    rw [hct i hi]; simp [List.getD, hi])
  clear hdn hcn hdt hct
  obtain ⟨w0, hw0⟩ : ∃ w0, w0 = w.alloc (.cells #[.string s, .int .i64 b, .string t, .slice on ns.length cn, .slice ot ts.length ct] 38) := ⟨_, rfl⟩
  obtain ⟨gc, hgc⟩ : ∃ gc, gc = w.heap.size := ⟨_, rfl⟩
  have HB0 : Hid (Below w.heap.size w w0) := Lib.hid (by rw [hw0]; exact below_alloc w _)
  have C0 : w0.cell? ⟨gc, 0, none⟩ = some (.string s) := by rw [hw0, hgc, World.cell?_alloc_new]; rfl
  have C1 : w0.cell? ⟨gc, 1, none⟩ = some (.int .i64 b) := by rw [hw0, hgc, World.cell?_alloc_new]; rfl
  have C2 : w0.cell? ⟨gc, 2, none⟩ = some (.string t) := by rw [hw0, hgc, World.cell?_alloc_new]; rfl
  have C3 : w0.cell? ⟨gc, 3, none⟩ = some (.slice on ns.length cn) := by rw [hw0, hgc, World.cell?_alloc_new]; rfl
  have C4 : w0.cell? ⟨gc, 4, none⟩ = some (.slice ot ts.length ct) := by rw [hw0, hgc, World.cell?_alloc_new]; rfl
  have hgc0 : gc < w0.heap.size := by rw [hw0, hgc]; simp
  have CA : Hid (∀ W, Below w0.heap.size w0 W → W.cell? ⟨gc, 0, none⟩ = some (.string s) ∧ W.cell? ⟨gc, 1, none⟩ = some (.int .i64 b) ∧ W.cell? ⟨gc, 2, none⟩ = some (.string t) ∧ W.cell? ⟨gc, 3, none⟩ = some (.slice on ns.length cn) ∧ W.cell? ⟨gc, 4, none⟩ = some (.slice ot ts.length ct) ∧ gc < W.heap.size) := Lib.hid (fun W hb =>
    ⟨(hb.cell (p := ⟨gc, 0, none⟩) hgc0).trans C0, (hb.cell (p := ⟨gc, 1, none⟩) hgc0).trans C1, (hb.cell (p := ⟨gc, 2, none⟩) hgc0).trans C2, (hb.cell (p := ⟨gc, 3, none⟩) hgc0).trans C3, (hb.cell (p := ⟨gc, 4, none⟩) hgc0).trans C4, Nat.lt_of_lt_of_le hgc0 hb.size⟩)
  by_cases hsm : (s.size ≤ 600 ∧ t.size ≤ 40000)
  · obtain ⟨hs, ht⟩ := hsm
    have HSM1 : Hid (Calls Tryz.prog 5 #[.string s, .string t] w0 fun e w' => e = .returned (.bool true) ∧ w' = w0) := Lib.hid (by have := HSM.out w0; rw [decide_eq_true ⟨hs, ht⟩] at this; exact this)
    by_cases hbad : b < 0 ∨ 8 * (s.size : Int) < b
    · have HA := Lib.hid (fun W => newMBad s t b (by omega) hbad W)
      have hcs : (decide (b < 0) = true ∧ b < 0) ∨ (decide (b < 0) = false ∧ decide (b > 8 * (s.size : Int)) = true ∧ ¬ b < 0 ∧ 8 * (s.size : Int) < b) := by
        by_cases h : b < 0
        · exact .inl ⟨decide_eq_true h, h⟩
        · exact .inr ⟨decide_eq_false h, decide_eq_true (by omega), h, by omega⟩
      clear hbad
      rcases hcs with ⟨h1, h2⟩ | ⟨h1, h2, h3, h4⟩
      all_goals
        go_enter Tryz.func4, Tryz.ntmps4
        go_upto_region 1 with (fail)
        rw [← hw0, ← hgc]
        clear hw0 hgc
        go_wp2_with (first
          | ((with_reducible go_at_call 5); (with_reducible refine HSM1.out.mono ?_); rintro e w' ⟨rfl, hw⟩; rw [hw]; clear hw)
          | ((with_reducible go_at_call 11); (with_reducible refine (HA.out _).mono ?_); rintro e w' ⟨rfl, hw⟩; rw [hw]; clear hw)
          | ((with_reducible go_at_call 6); (with_reducible refine (HK.out _).mono ?_); rintro e w' ⟨rfl, hb⟩; have HB2 := Lib.hid (HB0.out.trans (hb.mono HB0.out.size)); clear hb))
        go_ret
        exact ⟨rfl, HB2.out⟩
    · obtain ⟨p, rfl⟩ := Int.eq_ofNat_of_zero_le (show 0 ≤ b by omega)
      have hp : p ≤ 8 * s.size := by omega
      have h1 : ¬ (p : Int) < 0 := by omega
      have h2 : ¬ 8 * (s.size : Int) < (p : Int) := by omega
      have HN := Lib.hid (fun W => newC s t p (by omega) hp (by omega) W)
      have HR := Lib.hid (fun W => allR s t p (by omega) hp (by omega) W)
      have HLL : Hid ((bgI s (bys t) p).length ≤ 100000000) := Lib.hid (by have := bgI_len2 s (bys t) p; omega)
      have HBG := Lib.hid (txI_big (s := s) (t := bys t) (p := p) hp)
      unfold RetMade at HR
      have hs4 : s.size ≤ 4000000 := by omega
      generalize bys t = T at *
      obtain ⟨F, hF⟩ : ∃ F, F = txI s T p := ⟨_, rfl⟩
      obtain ⟨E, hE⟩ : ∃ E, E = erI s T p := ⟨_, rfl⟩
      obtain ⟨Q, hQ⟩ : ∃ Q, Q = enI s T p := ⟨_, rfl⟩
      obtain ⟨L, hL⟩ : ∃ L, L = bgI s T p := ⟨_, rfl⟩
      have HST := Lib.hid (fun (W : World) (B gm told : Nat) (V : Nat → Prop) (h : Mac W B gm V s T p told) hV n => stepC h hp hs4 hV n)
      have HDN := Lib.hid (fun (W : World) (B gm told : Nat) (V : Nat → Prop) (h : Mac W B gm V s T p told) hV => doneC h hp hs4 hV)
      have HSR := Lib.hid (fun (W : World) (B gm told : Nat) (V : Nat → Prop) (h : Mac W B gm V s T p told) hV => startsC h hp hs4 hV)
      have HEN := Lib.hid (fun (W : World) (B gm told : Nat) (V : Nat → Prop) (h : Mac W B gm V s T p told) hV => endC h hp hs4 hV)
      have HTW := Lib.hid (fun (W : World) (B gm gm2 told : Nat) (V : Nat → Prop) (h : TwoM W B gm gm2 V s T p told) n => stepTwo h hp hs4 n)
      rw [← hF] at HST HDN HSR HEN HBG HR
      rw [← hE] at HST HDN HSR HEN HR
      rw [← hQ] at HEN HR
      rw [← hL] at HSR HR HLL
      clear hF hE hQ hL
      clear hbad
      go_enter Tryz.func4, Tryz.ntmps4
      go_upto_region 1 with (fail)
      rw [← hw0, ← hgc]
      clear hw0 hgc
      go_upto_region 9 with (first
        | ((with_reducible go_at_call 5); (with_reducible refine HSM1.out.mono ?_); rintro e w' ⟨rfl, hw⟩; rw [hw]; clear hw)
        | ((with_reducible go_at_call 11); (with_reducible refine (HN.out _).mono ?_); rintro e w1 ⟨gm, rfl, hm1, hb⟩; have HM1 := Lib.hid hm1; have HB1 := Lib.hid hb; obtain ⟨d0, d1, d2, d3, d4, dg⟩ := CA.out _ hb; clear hm1 hb C0 C1 C2 C3 C4 hgc0)
        | ((with_reducible go_at_call 8); (with_reducible refine (HR.out _).mono ?_); rintro e w2 ⟨c2, v2, q2, rfl, hb, h1, ⟨L2, h2, h3⟩, h4⟩; have HO2 := Lib.hid h2; have HS2 := Lib.hid h2.sl; obtain ⟨o2, k2, b2, f2, hv2, -, -⟩ := HS2.out; have HB2 := Lib.hid hb; clear d0 d1 d2 d3 d4 dg; obtain ⟨d0, d1, d2, d3, d4, dg⟩ := CA.out _ (HB1.out.trans (hb.mono HB1.out.size)); have H3 := Lib.hid h1; have H4 := Lib.hid h3; have H5 := Lib.hid h4; clear hb h1 h2 h3 h4))
      obtain ⟨n2, hn2⟩ : ∃ n2, n2 = L2.length := ⟨_, rfl⟩
      rw [← hn2] at hv2 ⊢
      subst hv2
      clear hn2
      have HBA := Lib.hid (below_alloc w2 (.cells #[.string c2, .slice o2 n2 k2, .int .i64 (q2 : Nat), .int .i64 (E : Nat)] 30))
      have m0 : (w2.alloc (.cells #[.string c2, .slice o2 n2 k2, .int .i64 (q2 : Nat), .int .i64 (E : Nat)] 30)).cell? ⟨w2.heap.size, 0, none⟩ = some (.string c2) := by rw [World.cell?_alloc_new]; rfl
      have m1 : (w2.alloc (.cells #[.string c2, .slice o2 n2 k2, .int .i64 (q2 : Nat), .int .i64 (E : Nat)] 30)).cell? ⟨w2.heap.size, 1, none⟩ = some (.slice o2 n2 k2) := by rw [World.cell?_alloc_new]; rfl
      have m2 : (w2.alloc (.cells #[.string c2, .slice o2 n2 k2, .int .i64 (q2 : Nat), .int .i64 (E : Nat)] 30)).cell? ⟨w2.heap.size, 2, none⟩ = some (.int .i64 (q2 : Nat)) := by rw [World.cell?_alloc_new]; rfl
      have m3 : (w2.alloc (.cells #[.string c2, .slice o2 n2 k2, .int .i64 (q2 : Nat), .int .i64 (E : Nat)] 30)).cell? ⟨w2.heap.size, 3, none⟩ = some (.int .i64 (E : Nat)) := by rw [World.cell?_alloc_new]; rfl
      have hgm : w2.heap.size < (w2.alloc (.cells #[.string c2, .slice o2 n2 k2, .int .i64 (q2 : Nat), .int .i64 (E : Nat)] 30)).heap.size := by simp
      generalize w2.alloc (.cells #[.string c2, .slice o2 n2 k2, .int .i64 (q2 : Nat), .int .i64 (E : Nat)] 30) = w3 at *
      obtain ⟨gM, hgM⟩ : ∃ gM, gM = w2.heap.size := ⟨_, rfl⟩
      rw [← hgM] at m0 m1 m2 m3 hgm ⊢
      obtain ⟨B, hB⟩ : ∃ B, B = w0.heap.size := ⟨_, rfl⟩
      obtain ⟨V, hV⟩ : ∃ V : Nat → Prop, V = fun q => w1.heap.size ≤ q ∧ q < w3.heap.size := ⟨_, rfl⟩
      have HB13 : Hid (Below w1.heap.size w1 w3) := Lib.hid (HB2.out.trans (HBA.out.mono HB2.out.size))
      have HB03 : Hid (Below B w0 w3) := Lib.hid (by rw [hB]; exact HB1.out.trans (HB13.out.mono HB1.out.size))
      have HBZ : Hid (B ≤ w3.heap.size) := Lib.hid (by rw [hB]; exact Nat.le_trans HB1.out.size HB13.out.size)
      have HBW : Hid (w.heap.size ≤ B) := Lib.hid (by rw [hB]; exact HB0.out.size)
      have HVL : Hid (∀ q, V q → q < w3.heap.size) := Lib.hid (fun q e => by rw [hV] at e; exact e.2)
      have HM3 : Hid (Mac w3 B gm V s T p 0) := Lib.hid (by rw [hB]; exact HM1.out.more HB13.out (fun q e => .inr (by rw [hV] at e; exact e.1)))
      have HVM : Hid (V gM) := Lib.hid (by rw [hV, hgM]; exact ⟨HB2.out.size, by rw [← hgM]; exact hgm⟩)
      have HMW : Hid (∀ W, MFx B V w3 W → W.cell? ⟨gM, 0, none⟩ = some (.string c2) ∧ W.cell? ⟨gM, 1, none⟩ = some (.slice o2 n2 k2) ∧ W.cell? ⟨gM, 2, none⟩ = some (.int .i64 (q2 : Nat)) ∧ W.cell? ⟨gM, 3, none⟩ = some (.int .i64 (E : Nat)) ∧ gM < W.heap.size) := Lib.hid (fun W h => by
        have hb := h.block gM hgm (fun e => e.2 HVM.out)
        exact ⟨(World.cell?_of_block hb).trans m0, (World.cell?_of_block hb).trans m1, (World.cell?_of_block hb).trans m2, (World.cell?_of_block hb).trans m3, Nat.lt_of_lt_of_le hgm h.size⟩)
      have HCW : Hid (∀ W, MFx B V w3 W → W.cell? ⟨gc, 3, none⟩ = some (.slice on ns.length cn) ∧ W.cell? ⟨gc, 4, none⟩ = some (.slice ot ts.length ct) ∧ gc < W.heap.size) := Lib.hid (fun W h => by
        obtain ⟨-, -, -, e3, e4, e5⟩ := CA.out W (by rw [← hB]; exact MFx.below h HB03.out HBZ.out)
        exact ⟨e3, e4, e5⟩)
      have HBL : Hid (∀ W, MFx B V w3 W → Below w.heap.size w W) := Lib.hid (fun W h => HB0.out.trans ((MFx.below h HB03.out HBZ.out).mono (by rw [hB]; exact HB0.out.size)))
      have HSV : Hid (∀ W, MFx B V w3 W → E = 0 → SlK 2 W (.slice o2 n2 k2) (L.map stC)) := Lib.hid (fun W h e => by
        have ho := HO2.out.up HBA.out
        rw [H4.out e] at ho
        exact (OwnK.fx ho h (fun q e1 e2 => e2.2 (by
          have h1 := HO2.out.lt q e1
          rw [hV]
          exact ⟨h1.1, Nat.lt_of_lt_of_le h1.2 HBA.out.size⟩))).sl)
      have HC2 : Hid (bys c2 = F) := Lib.hid H3.out
      have HQ2 : Hid (E = 0 → q2 = Q) := Lib.hid H5.out
      clear hgM hB hV m0 m1 m2 m3 hgm HBA HB13 HM1 HB1 HB2 HS2 HO2 H3 H4 H5 d0 d1 d2 d3 d4 dg HN HR CA HSM HSM1 h1 h2
      go_upto_region 11 with (fail)
      go_loopg [3, 6, 7, 8, 9, 10, 11, 12, 13, 14] (ns.length + 1) (fun gk mv av iv x8 x9 x10 x11 x12 x13 x14 wr => ∃ (k told g B2 : Nat), mv = .pointer (some ⟨g, 0, none⟩) ∧ av = .int .i64 told ∧ iv = .int .i64 k ∧ k ≤ ns.length ∧ B ≤ B2 ∧ Mac wr B2 g V s T p told ∧ told ≤ F.length ∧ MFx B V w3 wr ∧ gk = ns.length + 1 - k)
      case atStart => exact ⟨0, 0, gm, B, rfl, rfl, rfl, Nat.zero_le _, Nat.le_refl _, HM3.out, Nat.zero_le _, Fx.refl _ _, rfl⟩
      case round =>
        obtain ⟨k, told, g, B2, rfl, rfl, rfl, hk, hb2, hmac, htold, hfx, rfl⟩ := hrel
        have HM := Lib.hid hmac
        have HB2 := Lib.hid hb2
        have HTD := Lib.hid htold
        have HFX := Lib.hid hfx
        obtain ⟨c3, c4, hgc⟩ := HCW.out _ hfx
        have HW := Lib.hid (HBL.out _ hfx)
        have hws := HFX.out.size
        clear hmac htold hb2 hfx
        by_cases hlt : k < ns.length ∧ k < 40
        · obtain ⟨hk1, hk2⟩ := hlt
          have hlti : decide (k < ns.length) = true := by rw [decide_eq_true_iff]; omega
          have hl40 : decide ((k : Int) < 40) = true := by rw [decide_eq_true_iff]; omega
          have HCT2 : Hid (∀ h : k < ts.length, wr.cell? ⟨bt, ft + k, none⟩ = some (.bool (ts.getD k false)) ∧ bt < wr.heap.size) := Lib.hid (fun h => by
            have hb := HBT.out (by omega)
            exact ⟨by rw [HW.out.cell (p := ⟨bt, ft + k, none⟩) hb]; exact HCT.out k h, Nat.lt_of_lt_of_le hb HW.out.size⟩)
          have HCN2 : Hid (wr.cell? ⟨bn, fn + k, none⟩ = some (.int .i64 (ns.getD k 0)) ∧ bn < wr.heap.size) := Lib.hid (by
            have hb := HBN.out (by omega)
            exact ⟨by rw [HW.out.cell (p := ⟨bn, fn + k, none⟩) hb]; exact HCN.out k hk1, Nat.lt_of_lt_of_le hb HW.out.size⟩)
          go_upto_region 13 with (fail)
          go_cut [88] (fun x wx => (∃ tb : Bool, x = .bool tb) ∧ wx = wr)
          case first =>
            by_cases htt : k < ts.length
            · have hti : decide (k < ts.length) = true := decide_eq_true htt
              have hit := fun W kd => HIT.out W kd (k : Int) (by omega) (by omega)
              simp only [Int.toNat_natCast] at hit
              obtain ⟨hcell, hbl⟩ := HCT2.out htt
              go_wp2
              go_meet
              case rel => exact ⟨⟨_, rfl⟩, rfl⟩
            · have hti : decide (k < ts.length) = false := decide_eq_false htt
              go_wp2
              go_meet
              case rel => exact ⟨⟨_, rfl⟩, rfl⟩
          case rest =>
            obtain ⟨⟨tb, rfl⟩, hwc⟩ := hcut
            rw [hwc]
            clear hwc
            go_upto_if 88 with (fail)
            go_cut [3, 8] (fun mv x8 wx => ∃ (g' B3 : Nat), mv = .pointer (some ⟨g', 0, none⟩) ∧ B ≤ B3 ∧ Mac wx B3 g' V s T p told ∧ MFx B V w3 wx)
            case first =>
              cases tb with
              | true =>
                have HCP := Lib.hid (copyC HM.out (fun q e => Nat.lt_of_lt_of_le (HVL.out q e) HFX.out.size))
                go_wp2_with (first
                  | ((with_reducible go_at_call 12); (with_reducible refine HCP.out.mono ?_); rintro e w4 ⟨g4, rfl, htw, hb4⟩; have HTW4 := Lib.hid htw; have HB4 := Lib.hid hb4; have HTS := Lib.hid (HTW.out _ _ _ _ _ _ htw 3); clear htw hb4)
                  | ((with_reducible go_at_call 13); (with_reducible refine HTS.out.mono ?_); rintro e w5 ⟨cc, ce, rfl, ⟨B5, hb5, hm5⟩, hf5⟩; have HM5 := Lib.hid hm5; have HB5 := Lib.hid hb5; have HF5 := Lib.hid hf5; clear hm5 hb5 hf5))
                go_meet
                case rel =>
                  refine ⟨_, B5, rfl, Nat.le_trans HB2.out HB5.out, HM5.out, ?_⟩
                  exact (HFX.out.trans (fx_below HB4.out)).trans (HF5.out.low HB2.out)
              | false =>
                go_wp2
                go_meet
                case rel => exact ⟨_, B2, rfl, HB2.out, HM.out, HFX.out⟩
            case rest =>
              obtain ⟨g4, B4, rfl, hb4, hm4, hf4⟩ := hcut
              have HM4 := Lib.hid hm4
              have HF4 := Lib.hid hf4
              have HB4 := Lib.hid hb4
              obtain ⟨c3', c4', hgc'⟩ := HCW.out _ hf4
              have HW4 := Lib.hid (HBL.out _ hf4)
              have hws4 := hf4.size
              obtain ⟨hcn, hbn⟩ : wc.cell? ⟨bn, fn + k, none⟩ = some (.int .i64 (ns.getD k 0)) ∧ bn < wc.heap.size := by
                have hb := HBN.out (by omega)
                exact ⟨by rw [HW4.out.cell (p := ⟨bn, fn + k, none⟩) hb]; exact HCN.out k hk1, Nat.lt_of_lt_of_le hb HW4.out.size⟩
              have hin := fun W kd => HIN.out W kd (k : Int) (by omega) (by omega)
              simp only [Int.toNat_natCast] at hin
              generalize ns.getD k 0 = n at *
              have HSP := Lib.hid (HST.out _ _ _ _ _ hm4 (fun q e => Nat.lt_of_lt_of_le (HVL.out q e) hf4.size) n)
              clear c3 c4 hgc hm4 hf4 hb4 hws HCT2 HCN2 HM HFX HW HB2
              go_upto_if 108 with ((with_reducible go_at_call 13); (with_reducible refine HSP.out.mono ?_); rintro e w5 ⟨c, er, rfl, h1, h2, hm, hb⟩; have H1 := Lib.hid h1; have H2 := Lib.hid h2; have HM5 := Lib.hid hm; have HF5 := Lib.hid (HF4.out.trans (hb.low HB4.out)); clear h1 h2 hm hb)
              have hf5 := HF5.out
              obtain ⟨m0, m1, m2, m3, hgm⟩ := HMW.out _ hf5
              have hc2 : c2.size = F.length := by rw [← HC2.out, bys_len]
              have hFl := HBG.out
              have htd := HTD.out
              clear c3' c4' hgc' hws4 hcn hbn hin hf5 HSP
              go_cut [12, 13] (fun x y wx => x = .string c ∧ y = .int .i64 (er : Nat) ∧ wx = w5)
              case first =>
                by_cases hn1 : n < 1
                · obtain ⟨hc, her⟩ := H1.out hn1
                  have hc' : c = ⟨#[]⟩ := bys_inj hc
                  have hdn1 : decide (n < 1) = true := decide_eq_true hn1
                  subst hc'
                  subst her
                  go_wp2
                  go_meet
                  case rel => exact ⟨rfl, rfl, rfl⟩
                · obtain ⟨hc, her⟩ := H2.out (by omega)
                  have hdn1 : decide (n < 1) = false := decide_eq_false hn1
                  by_cases hlt2 : told < c2.size
                  · have hdl : decide (told < c2.size) = true := decide_eq_true hlt2
                    rw [if_neg (by omega)] at her
                    subst her
                    have hcs : c.size = min n.toNat (F.length - told) := by rw [← bys_len, hc, List.length_take, List.length_drop]
                    have HCS := Lib.hid hcs
                    have HSL : Hid (∀ z : Int, z = (told : Int) + c.size → ∀ W : World, (Instr.sliceAt 9 (.string c2) (some (.int .i64 (told : Int))) (some (.int .i64 z)) none).run Tryz.prog W = .ok (.string c) W) := Lib.hid (fun z hz W => by
                      have h := slice_mid c2 told c.size (by omega) W
                      rw [HC2.out] at h
                      have e : (⟨((F.drop told).take c.size).toArray⟩ : ByteArray) = c := bys_inj (by
                        show ((F.drop told).take c.size) = bys c
                        rw [hc, hcs, ← List.length_drop]
                        exact take_min2 _ _)
                      rw [e] at h
                      rw [hz]
                      exact_mod_cast h)
                    clear hcs hc
                    go_wp2_with ((with_reducible show wpList _ _ _ (Oper.mk _ (.slice _ _ _ _ _) _ _ _ _ :: _) _ _); refine wpList_slice_by rfl 9 (.tmp 115) (some (.tmp 116)) (some (.tmp 125)) none rfl _ (HSL.out _ (by have := HCS.out; omega) _) ?_)
                    all_goals
                      go_meet
                      case rel => exact ⟨rfl, rfl, rfl⟩
                  · have hdl : decide (told < c2.size) = false := decide_eq_false hlt2
                    rw [if_pos (by omega)] at her
                    rw [List.drop_of_length_le (by omega), List.take_nil] at hc
                    have hc' : c = ⟨#[]⟩ := bys_inj hc
                    subst hc'
                    subst her
                    go_wp2
                    go_meet
                    case rel => exact ⟨rfl, rfl, rfl⟩
              case rest =>
                obtain ⟨rfl, rfl, hwc⟩ := hcut
                rw [hwc]
                clear hwc
                have hcs : told + c.size ≤ F.length := by
                  by_cases hn1 : n < 1
                  · have h := (H1.out hn1).1
                    have := congrArg List.length h
                    rw [bys_len, List.length_nil] at this
                    omega
                  · have h := congrArg List.length (H2.out (by omega)).1
                    rw [bys_len, List.length_take, List.length_drop] at h
                    omega
                have HM6 : Hid (Mac w5 B4 g4 V s T p (told + c.size)) := Lib.hid (by have h := HM5.out; rw [bys_len] at h; exact h)
                clear HM5 H1 H2
                go_upto_region 29 with (fail)
                obtain ⟨td, htde⟩ : ∃ td, td = told + c.size := ⟨_, rfl⟩
                rw [show (told : Int) + (c.size : Int) = (td : Int) by omega]
                rw [← htde] at hcs HM6
                obtain ⟨dn, hdn⟩ : ∃ dn : Bool, (dn = true ↔ F.length ≤ td ∧ E = 0) := ⟨decide (F.length ≤ td ∧ E = 0), by simp⟩
                have HDN2 := Lib.hid hdn
                have HTD6 := Lib.hid hcs
                have HC2S := Lib.hid hc2
                clear htde hc2 hcs htd hFl hdn
                go_cut [6, 14, 132] (fun x6 x y wx => x6 = .int .i64 (td : Nat) ∧ x = .bool dn ∧ wx = w5)
                case first =>
                  by_cases hq : td = c2.size
                  · by_cases hE : E = 0
                    · have hdt : dn = true := HDN2.out.2 ⟨by have := HC2S.out; omega, hE⟩
                      have hq1 : ((td : Int) == (c2.size : Int)) = true := by rw [beq_iff_eq]; omega
                      have HQ := Lib.hid hq
                      clear hq
                      subst hE
                      subst hdt
                      go_wp2
                      go_meet
                      case rel => exact ⟨by have := HQ.out; first | rfl | rw [this], rfl, rfl⟩
                    · have hE' : ((E : Int) == 0) = false := by simpa using hE
                      have hdt : dn = false := by
                        cases dn with
                        | false => rfl
                        | true => exact absurd (HDN2.out.1 rfl).2 hE
                      have hq1 : ((td : Int) == (c2.size : Int)) = true := by rw [beq_iff_eq]; omega
                      have HQ := Lib.hid hq
                      clear hq hE
                      subst hdt
                      go_wp2
                      go_meet
                      case rel => exact ⟨by have := HQ.out; first | rfl | rw [this], rfl, rfl⟩
                  · have hdt : dn = false := by
                      cases dn with
                      | false => rfl
                      | true => exact absurd (HDN2.out.1 rfl).1 (by have := HC2S.out; have := HTD6.out; omega)
                    have hq1 : ((td : Int) == (c2.size : Int)) = false := by rw [beq_eq_false_iff_ne]; omega
                    clear hq
                    subst hdt
                    go_wp2
                    go_meet
                    case rel => exact ⟨rfl, rfl, rfl⟩
                case rest =>
                  obtain ⟨rfl, rfl, hwc⟩ := hcut
                  rw [hwc]
                  clear hwc
                  go_upto_region 32 with (first
                    | ((with_reducible go_at_call 14); (with_reducible refine (outC HM6.out).mono ?_); rintro e w6 ⟨rfl, hw⟩; rw [hw]; clear hw)
                    | ((with_reducible go_at_call 15); (with_reducible refine (HDN.out _ _ _ _ _ HM6.out (fun q e => Nat.lt_of_lt_of_le (HVL.out q e) HF5.out.size)).mono ?_); rintro e w6 ⟨b, rfl, hb, hm, hbl⟩; have hbt : dn = b := Bool.eq_iff_iff.2 (HDN2.out.trans hb.symm); subst hbt; have HM7 := Lib.hid hm; have HF6 := Lib.hid (HF5.out.trans (hbl.low HB4.out)); clear hb hm hbl))
                  clear m0 m1 m2 m3 hgm
                  obtain ⟨m0, m1, m2, m3, hgm⟩ := HMW.out _ HF6.out
                  obtain ⟨S, hS⟩ : ∃ S : Nat → Prop, S = fun q => B4 ≤ q ∧ ¬ V q := ⟨_, rfl⟩
                  have hnS : ¬ S gM := by rw [hS]; exact fun e => e.2 HVM.out
                  have HSS := Lib.hid hS
                  clear hS
                  have HBD : Hid (Below w6.heap.size w6 w6.drew) := Lib.hid (b_drew1 (Below.refl _ _))
                  have HS7 : Hid (MFx B4 V w6 w6.drew) := Lib.hid (fx_below HBD.out)
                  have HM8 : Hid (Mac w6.drew B4 g4 V s T p td) := Lib.hid (HM7.out.up HBD.out)
                  have HVX : Hid (∀ W, MFx B4 V w6 W → (∀ q, V q → q < W.heap.size) ∧ MFx B V w3 W) := Lib.hid (fun W h => ⟨fun q e => Nat.lt_of_lt_of_le (HVL.out q e) (Nat.le_trans HF6.out.size h.size), HF6.out.trans (h.low HB4.out)⟩)
                  go_cut [194] (fun x wx => x = .bool false ∧ Mac wx B4 g4 V s T p td ∧ MFx B V w3 wx)
                  case first =>
                    refine wp_region_phases (fun w' => ∃ x, w' = fxw w6 S x) [([0,1,2,5,6],[3,4,7]), ([8,9,10,12,13],[11]), ([14,15,16,17,18,19,20,21],[22]), ([23,24,25,26],[27]), ([28,29,30,31],[])] (by kernel_rfl) (by kernel_rfl) (ex_fxw (fx_below (b_drew1 (Below.refl _ _)))) ?_
                    generalize w6.drew = w7 at *
                    cases dn with
                    | true =>
                      obtain ⟨hdt, hE⟩ := HDN2.out.1 rfl
                      subst hE
                      have HD := Lib.hid hdt
                      clear hdt
                      (unfold wpPhases; simp only [pick, List.map_cons, List.map_nil, List.getD_cons_zero, List.getD_cons_succ])
                      repeat (go_big_quiet_step (fail))
                      refine wpQuiet_nil ?_
                      unfold wpAct
                      go_wp2_with (fail)
                      (with_reducible refine (HSR.out _ _ _ _ _ HM8.out (HVX.out _ HS7.out).1).mono ?_)
                      rintro e w8 ⟨v8, rfl, h1, -, hm, hb⟩
                      have HV8 := Lib.hid (h1 ⟨HD.out, by trivial⟩).sl
                      have HM9 := Lib.hid (hm.weaken (fun q e => .inl e))
                      have HS8 := Lib.hid (HS7.out.trans hb)
                      clear h1 hm hb
                      go_wp2
                      refine ⟨ex_fxw (by rw [HSS.out]; exact HS8.out), ?_⟩
                      unfold wpAct
                      go_wp2_with (fail)
                      (with_reducible refine (startsLn HV8.out HLL.out).mono ?_)
                      rintro e w9 ⟨v9, rfl, ho, hb⟩
                      have HO9 := Lib.hid ho.sl
                      have HS9 := Lib.hid (HS8.out.trans (fx_below hb))
                      have HM10 := Lib.hid (HM9.out.up hb)
                      clear ho hb
                      go_wp2
                      refine ⟨ex_fxw (by rw [HSS.out]; exact HS9.out), ?_⟩
                      unfold wpAct
                      go_wp2_with (fail)
                      (with_reducible refine (startsSame HO9.out (HSV.out _ (HVX.out _ HS9.out).2 (by trivial))).mono ?_)
                      rintro e w10 ⟨rfl, hx⟩
                      have HS10 := Lib.hid (HS9.out.trans (fx_below (below_ext hx)))
                      have HM11 := Lib.hid (HM10.out.up (below_ext hx))
                      clear hx
                      go_wp2
                      refine ⟨ex_fxw (by rw [HSS.out]; exact HS10.out), ?_⟩
                      unfold wpAct
                      (unfold wpPhases; simp only [pick, List.map_cons, List.map_nil, List.getD_cons_zero, List.getD_cons_succ])
                      repeat (go_big_quiet_step (fail))
                      refine wpQuiet_nil ?_
                      unfold wpAct
                      go_wp2_with (fail)
                      (with_reducible refine (HEN.out _ _ _ _ _ HM11.out (HVX.out _ HS10.out).1).mono ?_)
                      rintro e w11 ⟨q, rfl, h1, -, hm, hb⟩
                      have hqe : q = q2 := (h1 ⟨HD.out, by trivial⟩).trans (HQ2.out (by trivial)).symm
                      subst hqe
                      have HM12 := Lib.hid hm
                      have HS11 := Lib.hid (HS10.out.trans hb)
                      clear h1 hm hb
                      go_wp2
                      refine ⟨ex_fxw (by rw [HSS.out]; exact HS11.out), ?_⟩
                      unfold wpAct
                      (unfold wpPhases; simp only [pick, List.map_cons, List.map_nil, List.getD_cons_zero, List.getD_cons_succ])
                      repeat (go_big_quiet_step (fail))
                      refine wpQuiet_nil ?_
                      unfold wpAct
                      go_wp2_with (fail)
                      refine ⟨ex_fxw (by rw [HSS.out]; exact HS11.out), ?_⟩
                      unfold wpAct
                      (unfold wpPhases; simp only [pick, List.map_cons, List.map_nil, List.getD_cons_zero, List.getD_cons_succ])
                      repeat (go_big_quiet_step (fail))
                      refine wpQuiet_nil ?_
                      unfold wpAct
                      go_wp2_with (fail)
                      refine ⟨ex_fxw (by rw [HSS.out]; exact HS11.out), ?_⟩
                      unfold wpAct
                      (unfold wpPhases; simp only [pick, List.map_cons, List.map_nil, List.getD_cons_zero, List.getD_cons_succ])
                      repeat (go_big_quiet_step (fail))
                      refine wpQuiet_nil ?_
                      unfold wpAct
                      unfold wpPhases
                      intro hz
                      clear hz
                      go_wp2
                      go_meet
                      case rel => exact ⟨rfl, HM12.out, (HVX.out _ HS11.out).2⟩
                    | false =>
                      have HD : Hid (¬ (F.length ≤ td ∧ E = 0)) := Lib.hid (fun h => by have := HDN2.out.2 h; cases this)
                      (unfold wpPhases; simp only [pick, List.map_cons, List.map_nil, List.getD_cons_zero, List.getD_cons_succ])
                      repeat (go_big_quiet_step (fail))
                      refine wpQuiet_nil ?_
                      unfold wpAct
                      go_wp2_with (fail)
                      refine ⟨ex_fxw (by rw [HSS.out]; exact HS7.out), ?_⟩
                      unfold wpAct
                      go_wp2_with (fail)
                      refine ⟨ex_fxw (by rw [HSS.out]; exact HS7.out), ?_⟩
                      unfold wpAct
                      go_wp2_with (fail)
                      refine ⟨ex_fxw (by rw [HSS.out]; exact HS7.out), ?_⟩
                      unfold wpAct
                      (unfold wpPhases; simp only [pick, List.map_cons, List.map_nil, List.getD_cons_zero, List.getD_cons_succ])
                      repeat (go_big_quiet_step (fail))
                      refine wpQuiet_nil ?_
                      unfold wpAct
                      go_wp2_with (fail)
                      refine ⟨ex_fxw (by rw [HSS.out]; exact HS7.out), ?_⟩
                      unfold wpAct
                      (unfold wpPhases; simp only [pick, List.map_cons, List.map_nil, List.getD_cons_zero, List.getD_cons_succ])
                      repeat (go_big_quiet_step (fail))
                      refine wpQuiet_nil ?_
                      unfold wpAct
                      go_wp2_with (fail)
                      (with_reducible refine (HSR.out _ _ _ _ _ HM8.out (HVX.out _ HS7.out).1).mono ?_)
                      rintro e w8 ⟨v8, rfl, -, h1, hm, hb⟩
                      have hv8 := h1 HD.out
                      subst hv8
                      have HM9 := Lib.hid (hm.weaken (fun q e => .inl e))
                      have HS8 := Lib.hid (HS7.out.trans hb)
                      clear h1 hm hb
                      go_wp2
                      refine ⟨ex_fxw (by rw [HSS.out]; exact HS8.out), ?_⟩
                      unfold wpAct
                      (unfold wpPhases; simp only [pick, List.map_cons, List.map_nil, List.getD_cons_zero, List.getD_cons_succ])
                      repeat (go_big_quiet_step (fail))
                      refine wpQuiet_nil ?_
                      unfold wpAct
                      go_wp2_with (fail)
                      (with_reducible refine (HEN.out _ _ _ _ _ HM9.out (HVX.out _ HS8.out).1).mono ?_)
                      rintro e w9 ⟨q, rfl, -, h1, hm, hb⟩
                      have hq0 := h1 HD.out
                      subst hq0
                      have HM10 := Lib.hid hm
                      have HS9 := Lib.hid (HS8.out.trans hb)
                      clear h1 hm hb
                      go_wp2
                      refine ⟨ex_fxw (by rw [HSS.out]; exact HS9.out), ?_⟩
                      unfold wpAct
                      (unfold wpPhases; simp only [pick, List.map_cons, List.map_nil, List.getD_cons_zero, List.getD_cons_succ])
                      repeat (go_big_quiet_step (fail))
                      refine wpQuiet_nil ?_
                      unfold wpAct
                      unfold wpPhases
                      intro hz
                      clear hz
                      go_wp2
                      go_meet
                      case rel => exact ⟨rfl, HM10.out, (HVX.out _ HS9.out).2⟩
                  case rest =>
                    obtain ⟨rfl, hm9, hf9⟩ := hcut
                    have HM9 := Lib.hid hm9
                    have HF9 := Lib.hid hf9
                    clear hm9 hf9
                    go_wp2
                    go_roundg (ns.length + 1 - (k + 1))
                    case measure => omega
                    case rel => exact ⟨k + 1, td, g4, B4, rfl, rfl, by go_num, hk1, HB4.out, HM9.out, HTD6.out, HF9.out, rfl⟩
        · have hcond : (decide (k < ns.length) = true ∧ decide ((k : Int) < 40) = false) ∨ (decide (k < ns.length) = false) := by
            by_cases h1 : k < ns.length
            · exact .inl ⟨by rw [decide_eq_true_iff]; exact h1, by rw [decide_eq_false_iff_not]; omega⟩
            · exact .inr (by rw [decide_eq_false_iff_not]; omega)
          clear hlt
          rcases hcond with ⟨hcd1, hcd2⟩ | hcd1
          all_goals
            go_wp2_with ((with_reducible go_at_call 6); (with_reducible refine (HK.out _).mono ?_); rintro e w5 ⟨rfl, hb⟩; have HB5 := Lib.hid hb; clear hb)
            go_ret
            exact ⟨rfl, HW.out.trans (HB5.out.mono HW.out.size)⟩
  · have HSM1 : Hid (Calls Tryz.prog 5 #[.string s, .string t] w0 fun e w' => e = .returned (.bool false) ∧ w' = w0) := Lib.hid (by have := HSM.out w0; rw [decide_eq_false hsm] at this; exact this)
    go_enter Tryz.func4, Tryz.ntmps4
    go_upto_region 1 with (fail)
    rw [← hw0, ← hgc]
    clear hw0 hgc
    go_wp2_with (first
      | ((with_reducible go_at_call 5); (with_reducible refine HSM1.out.mono ?_); rintro e w' ⟨rfl, hw⟩; rw [hw]; clear hw)
      | ((with_reducible go_at_call 6); (with_reducible refine (HK.out _).mono ?_); rintro e w' ⟨rfl, hb⟩; have HB2 := Lib.hid (HB0.out.trans (hb.mono HB0.out.size)); clear hb))
    go_ret
    exact ⟨rfl, HB2.out⟩
end Go.Cm

/- Arguments that a law is handed, as data: lists of ints, texts. Conditions: none. -/
namespace Go.Cm
open Go.RowKit Go.Proofs Go.WideShapes Go.ChangeShapes Go.Deep

section
variable {H : Type} {enc : TypeId × Value → H} {P : Program}
theorem post_of_below {f : Func} {s : ChangeSpec} {apart fresh handsOn again : Bool} {W W' : World} {args : Array Value} {v : Value} {ds gs : List (DataW H)} {before pa pv : List MemPlace}
    (hW : DataW.Whole enc P f.params.toList s.vars apart W args.toList ds gs before)
    (hres : ∀ (b : Nat) (sp : Nat → Bool) (hd : Bool), DataW.TrodAll enc P W' b sp hd f.resultTypes.toList (v.resultList f.resultTypes.size) (s.fn H (ds ++ gs)).results [])
    (hargs : ∀ sp : Nat → Bool, (∀ p ∈ before, sp p.block = true) → DataW.TrodAll enc P W' 0 sp true f.params.toList args.toList (s.fn H (ds ++ gs)).args pa)
    (hvars : ∀ sp : Nat → Bool, (∀ p ∈ before, sp p.block = true) → DataW.TrodVars enc P W' sp s.vars (s.fn H (ds ++ gs)).vars pv)
    (hps : before = pa ++ pv) (hb : Below W.heap.size W W')
    (hok : ∀ (j : Nat) (t : TypeId) (r : Value), f.resultTypes[j]? = some t → (v.resultList f.resultTypes.size)[j]? = some r → Value.okWide P W' .any 0 t r) :
    s.post enc P f apart fresh handsOn again W args v W' := by
  have hlt : ∀ p ∈ before, p.block < W.heap.size := fun p hp => hW.lt p hp
  have hold : ∀ p ∈ before, (fun b => decide (b < W.heap.size)) p.block = true := fun p hp => by simpa using hlt p hp
  refine ⟨ds, gs, before, [], pa, pv, hW, hres _ _ _, hargs _ hold, hvars _ hold, World.keptBut_mono (fun p hp => ⟨hp, ?_⟩) (hb.frame (· ∈ before)), fun _ => ?_⟩
  · rw [hps, List.mem_append] at hp
    exact Or.inr hp
  · obtain ⟨_, _, _, _, _, hz, hn⟩ := hW
    refine ⟨hok, _, _, ([] ++ pa) ++ pv, ⟨[] ++ pa, pv, trodAll_append (hargs _ (fun _ _ => rfl)) (hres _ _ _), hvars _ (fun _ _ => rfl), rfl, ?_, ?_⟩, ?_⟩
    · intro b off hp
      have hin : MemPlace.cell b off ∈ before := by rw [hps]; simpa using hp
      rw [hb.frozen (hlt _ hin)]
      exact hz b off hin
    · intro ha
      have := hn ha
      rw [hps] at this
      simpa using this
    · intro p hp _
      rw [hps]
      simpa using hp
end

section
variable {H : Type} {enc : TypeId × Value → H} {P : Program} {w : World} {base : Nat} {held : Bool}
theorem weights_slice {t e : TypeId} {elems spare : List (DataW H)} (hu : P.underlying t = some (.slice e)) : (DataW.slice elems spare).weights P t = (elems.length + spare.length) * P.bytesOf e :: (DataW.weightsAll P e elems ++ DataW.weightsAll P e spare) := by
  simp [DataW.weights, hu]
theorem weightsAll_mem {e : TypeId} {d : DataW H} : ∀ {l : List (DataW H)}, d ∈ l → ∀ n ∈ d.weights P e, n ∈ DataW.weightsAll P e l
  | a :: l, h, n, hn => by
    simp only [DataW.weightsAll, List.mem_append]
    rcases List.mem_cons.1 h with rfl | h
    · exact .inl hn
    · exact .inr (weightsAll_mem h n hn)
theorem addr_add (b off j : Nat) : (⟨b, off, none⟩ : Addr).add j = ⟨b, off + j, none⟩ := by unfold Addr.add; split <;> simp_all
theorem reach_is : reachBytes = 140737488351232 := rfl
/-- a slice of whatever elements of one cell, opened -/
theorem open_hd {t e : TypeId} {fuel : Nat} {cs : List Value} {x : DataW H × List MemPlace} (ht : P.underlying t = some (.slice e)) (hc : P.cellsOf e = 1) (hb : 1 ≤ P.bytesOf e) (h : DataW.trod enc P w base (fun _ => true) held fuel t cs = some x) (hw : ∀ n ∈ x.1.weights P t, n ≤ reachBytes) :
    ∃ (oa : Option Addr) (len cap b off : Nat) (V : Nat → Value) (D : Nat → DataW H), cs = [.slice oa len cap] ∧ Hd w oa len cap b off ∧ ∀ i, i < len → w.cell? ⟨b, off + i, none⟩ = some (V i) ∧ (∃ n p, DataW.trod enc P w base (fun _ => true) held n e [V i] = some (D i, p)) ∧ ∀ n ∈ (D i).weights P e, n ≤ reachBytes := by
  rcases open_slice1 ht hc h with ⟨rfl, -⟩ | ⟨a, len, cap, m, n, V, D, Pl, rfl, -, hl, hm, hmm, rfl, hx⟩
  · exact ⟨none, 0, 0, 0, 0, fun _ => undef, fun _ => .nil, rfl, ⟨fun h => absurd h (Nat.lt_irrefl 0), Nat.le_refl _, by simp [maxLen], by simp, fun h => absurd h (Nat.lt_irrefl 0)⟩, fun i hi => absurd hi (Nat.not_lt_zero i)⟩
  · simp only [if_true] at hmm
    subst hmm
    have hwt := weights_slice (P := P) (elems := (List.range len).map D) (spare := (List.range (m - len)).map fun j => D (len + j)) ht
    simp only at hw
    rw [hwt] at hw
    have h1 := hw _ (List.mem_cons_self ..)
    simp only [List.length_map, List.length_range] at h1
    have h2 : m * 1 ≤ (len + (m - len)) * P.bytesOf e := Nat.mul_le_mul (by omega) hb
    rw [reach_is] at h1
    obtain ⟨ab, ao, asp⟩ := a
    have hsp : 0 < len → asp = none := fun h0 => by
      have h3 := (hx 0 (by omega)).1
      simpa [Addr.add] using World.cell?_spot h3
    refine ⟨some ⟨ab, ao, asp⟩, len, m, ab, ao, V, D, rfl, ⟨fun h0 => by rw [hsp h0], hl, hm, by omega, fun h0 => ?_⟩, fun i hi => ⟨?_, ⟨n, Pl i, (hx i (by omega)).2⟩, fun k hk => hw k (List.mem_cons_of_mem _ (List.mem_append_left _ (weightsAll_mem (List.mem_map.2 ⟨i, List.mem_range.2 hi, rfl⟩) k hk)))⟩⟩
    · have h3 := (hx 0 (by omega)).1
      have := World.block_lt_of_cell? _ _ h3
      simpa [Addr.add] using this
    · have h3 := (hx i (by omega)).1
      have h4 := hsp (by omega)
      subst h4
      rwa [addr_add] at h3
theorem open_IntsAt {t e : TypeId} {fuel : Nat} {cs : List Value} {x : DataW H × List MemPlace} (ht : P.underlying t = some (.slice e)) (he : P.underlying e = some (.int .i64)) (hc : P.cellsOf e = 1) (hb : 1 ≤ P.bytesOf e)
    (h : DataW.trod enc P w base (fun _ => true) held fuel t cs = some x) (hw : ∀ n ∈ x.1.weights P t, n ≤ reachBytes) : ∃ v l, cs = [v] ∧ IntsAt w v l := by
  obtain ⟨oa, len, cap, b, off, V, D, rfl, hd, hx⟩ := open_hd ht hc hb h hw
  have hV : ∀ i, i < len → ∃ z : Int, V i = .int .i64 z := fun i hi => by
    obtain ⟨-, ⟨n, p, h2⟩, -⟩ := hx i hi
    obtain ⟨k, e1, -, -⟩ := DataW.trod_int he h2
    exact ⟨k, by simpa using e1⟩
  obtain ⟨Z, hZ⟩ := choose_lt hV
  refine ⟨_, (List.range len).map Z, rfl, ?_⟩
  have hl : (ints ((List.range len).map Z)).length = len := by simp
  refine ⟨oa, cap, b, off, by rw [hl], by rw [hl]; exact hd, fun i hi => ?_⟩
  rw [hl] at hi
  rw [(hx i hi).1, hZ i hi, ints_getD _ _ (by simpa using hi)]
  simp [List.getD, hi]
end

section
variable {H : Type} {enc : TypeId × Value → H} {w : World} {base : Nat} {held : Bool}
end
end Go.Cm

/- An argument that is a case of steps, opened. Conditions: none. -/
namespace Go.Cm
open Go.RowKit Go.Proofs Go.WideShapes Go.ChangeShapes Go.Deep

section
variable {H : Type} {enc : TypeId × Value → H} {w : World} {base : Nat} {held : Bool}
theorem open_BoolsAt {t e : TypeId} {fuel : Nat} {cs : List Value} {x : DataW H × List MemPlace} {P : Program} (ht : P.underlying t = some (.slice e)) (he : P.underlying e = some .bool) (hc : P.cellsOf e = 1) (hb : 1 ≤ P.bytesOf e)
    (h : DataW.trod enc P w base (fun _ => true) held fuel t cs = some x) (hw : ∀ n ∈ x.1.weights P t, n ≤ reachBytes) : ∃ (v : Value) (l : List Bool), cs = [v] ∧ Sl w v (l.map Value.bool) := by
  obtain ⟨oa, len, cap, b, off, V, D, rfl, hd, hx⟩ := open_hd ht hc hb h hw
  have hV : ∀ i, i < len → ∃ z : Bool, V i = .bool z := fun i hi => by
    obtain ⟨-, ⟨n, p, h2⟩, -⟩ := hx i hi
    obtain ⟨k, e1, -⟩ := DataW.trod_bool he h2
    exact ⟨k, by simpa using e1⟩
  obtain ⟨Z, hZ⟩ := choose_lt hV
  refine ⟨_, (List.range len).map Z, rfl, oa, cap, b, off, by simp, by simpa using hd, fun i hi => ?_⟩
  have hi' : i < len := by simpa using hi
  rw [(hx i hi').1, hZ i hi']
  simp [List.getD, hi']
set_option maxRecDepth 10000 in
theorem open_case {v : Value} {x : DataW H} {p : List MemPlace} {r : Reach} {b0 : Nat} (hv : Value.okWide Tryz.prog w r b0 38 v) (h : DataW.Trod enc Tryz.prog w base (fun _ => true) held 38 v x p) (hw : ∀ n ∈ x.weights Tryz.prog 38, n ≤ reachBytes) :
    ∃ (s : ByteArray) (k : Int) (z : ByteArray) (u1 u2 : Value) (l1 : List Int) (l2 : List Bool), v = .agg #[.string s, .int .i64 k, .string z, u1, u2] ∧ Sl w u1 (ints l1) ∧ Sl w u2 (l2.map Value.bool) := by
  obtain ⟨A, rfl, hsz⟩ := okWide_struct Tryz.underlying38 hv
  obtain ⟨fuel, hf⟩ := h
  obtain ⟨xs, n, -, hx, hlen, hxl, hg⟩ := DataW.trod_struct Tryz.underlying38 hf
  have hs : A.size = 5 := hsz.trans (by kernel_rfl)
  simp only [Prod.mk.injEq] at hx
  obtain ⟨hx1, -⟩ := hx
  match xs, hxl with
  | [x0, x1, x2, x3, x4], _ =>
    have h0 := hg 0 _ rfl
    have h1 := hg 1 _ rfl
    have h2 := hg 2 _ rfl
    have h3 := hg 3 _ rfl
    have h4 := hg 4 _ rfl
    have cs : Tryz.prog.cellsOf 9 = 1 := by kernel_rfl
    have cb : Tryz.prog.cellsOf 4 = 1 := by kernel_rfl
    have bb : Tryz.prog.bytesOf 4 = 1 := by kernel_rfl
    have c24 : Tryz.prog.cellsOf 35 = 1 := by kernel_rfl
    have c25 : Tryz.prog.cellsOf 36 = 1 := by kernel_rfl
    have c3 : Tryz.prog.cellsOf 3 = 1 := by kernel_rfl
    have b3 : Tryz.prog.bytesOf 3 = 8 := by kernel_rfl
    simp only [List.getElem?_cons_zero, List.getElem?_cons_succ] at h0 h1 h2 h3 h4
    have hwx : ∀ n ∈ DataW.weightsEach Tryz.prog [9, 3, 9, 35, 36] [x0.1, x1.1, x2.1, x3.1, x4.1], n ≤ reachBytes := fun k hk => hw k (by
      rw [hx1]
      simpa [DataW.weights, Tryz.underlying38] using hk)
    have hw3 : ∀ n ∈ x3.1.weights Tryz.prog 35, n ≤ reachBytes := fun k hk => hwx k (DataW.weights_mem_each (j := 3) rfl rfl k hk)
    have hw4 : ∀ n ∈ x4.1.weights Tryz.prog 36, n ≤ reachBytes := fun k hk => hwx k (DataW.weights_mem_each (j := 4) rfl rfl k hk)
    obtain ⟨f, ef, -, -⟩ := DataW.trod_string Tryz.underlying9 h0
    obtain ⟨k, ek, -, -⟩ := DataW.trod_int Tryz.underlying3 h1
    obtain ⟨z, ez, -, -⟩ := DataW.trod_string Tryz.underlying9 h2
    obtain ⟨u1, l1, e1, hl1⟩ := open_IntsAt Tryz.underlying35 Tryz.underlying3 c3 (by rw [b3]; decide) h3 hw3
    obtain ⟨u2, l2, e2, hl2⟩ := open_BoolsAt Tryz.underlying36 Tryz.underlying4 cb (by rw [bb]; decide) h4 hw4
    refine ⟨f, k, z, u1, u2, l1, l2, ?_, hl1, hl2⟩
    have q0 : A[0]? = some (.string f) := by
      have e := congrArg (fun l => l[0]?) ef
      simpa [cs, Value.cells] using e
    have q1 : A[1]? = some (.int .i64 k) := by
      have e := congrArg (fun l => l[0]?) ek
      simpa [c3, Value.cells] using e
    have q2 : A[2]? = some (.string z) := by
      have e := congrArg (fun l => l[0]?) ez
      simpa [cs, Value.cells] using e
    have q3 : A[3]? = some u1 := by
      have e := congrArg (fun l => l[0]?) e1
      simpa [c24, Value.cells] using e
    have q4 : A[4]? = some u2 := by
      have e := congrArg (fun l => l[0]?) e2
      simpa [c25, Value.cells] using e
    congr 1
    refine Array.ext (by rw [hs]; rfl) fun i hi hi2 => ?_
    have hi5 : i < 5 := by omega
    have hq : A[i]? = (#[Value.string f, .int .i64 k, .string z, u1, u2] : Array Value)[i]? := by
      match i, hi5 with
      | 0, _ => rw [q0]; rfl
      | 1, _ => rw [q1]; rfl
      | 2, _ => rw [q2]; rfl
      | 3, _ => rw [q3]; rfl
      | 4, _ => rw [q4]; rfl
      | i + 5, h => omega
    rw [Array.getElem?_eq_getElem hi, Array.getElem?_eq_getElem hi2] at hq
    exact Option.some.inj hq
end
end Go.Cm

/- The walks of the program's coder: a symbol with its further bits; an op. Conditions: the coder is there, the lengths lie beside it. -/
namespace Go.Cm
open Go.RowKit Go.Proofs

/-- what a coder in block gc over a writer in block g leaves alone -/
def FrC (g gc : Nat) (vb vb' : Value) (w w' : World) : Prop := (∀ k, k < w.heap.size → k ≠ g → k ≠ gc → vb.ownBlock ≠ some k → w'.heap[k]? = w.heap[k]?) ∧ (∀ k, vb'.ownBlock = some k → vb.ownBlock = some k ∨ w.heap.size ≤ k) ∧ w.heap.size ≤ w'.heap.size
theorem FrC.of {g gc : Nat} {vb vb' : Value} {w w' : World} (h : Fr g vb vb' w w') : FrC g gc vb vb' w w' := ⟨fun k hk h1 _ h3 => h.1 k hk h1 h3, h.2⟩
theorem FrC.refl (g gc : Nat) (vb : Value) (w : World) : FrC g gc vb vb w w := ⟨fun _ _ _ _ _ => rfl, fun _ h => .inl h, Nat.le_refl _⟩
theorem FrC.trans {g gc : Nat} {vb vb' vc : Value} {w w1 w2 : World} (h : FrC g gc vb vb' w w1) (k : FrC g gc vb' vc w1 w2) : FrC g gc vb vc w w2 := by
  refine ⟨fun q hq h1 h2 h3 => ?_, fun q hq => ?_, Nat.le_trans h.2.2 k.2.2⟩
  · rw [k.1 q (Nat.lt_of_lt_of_le hq h.2.2) h1 h2 ?_, h.1 q hq h1 h2 h3]
    intro e
    rcases h.2.1 q e with z | z
    · exact h3 z
    · omega
  · rcases k.2.1 q hq with z | z
    · exact h.2.1 q z
    · exact .inr (Nat.le_trans h.2.2 z)
theorem FrC.below {g gc : Nat} {vb vb' : Value} {w w1 w2 : World} (h : FrC g gc vb vb' w w1) (hb : Below w1.heap.size w1 w2) : FrC g gc vb vb' w w2 :=
  ⟨fun k hk h1 h2 h3 => by rw [hb.block k (Nat.lt_of_lt_of_le hk h.2.2), h.1 k hk h1 h2 h3], h.2.1, Nat.le_trans h.2.2 hb.size⟩
theorem FrC.cell {g gc : Nat} {vb : Value} {w : World} (c : Nat) (v : Value) : FrC g gc vb vb w (w.setCell ⟨gc, c, none⟩ v) :=
  ⟨fun k _ _ h2 _ => by rw [heap_setCell_other _ _ _ _ (by exact h2)], fun _ h => .inl h, by simp⟩
/-- a list of lengths that stays while the coder works -/
def Stay (g gc : Nat) (vb : Value) (w : World) (v : Value) (l : List Int) : Prop := ∀ W vb', FrC g gc vb vb' w W → IntsAt W v l
theorem Stay.next {g gc : Nat} {vb vb' : Value} {w w' : World} {v : Value} {l : List Int} (h : Stay g gc vb w v l) (hf : FrC g gc vb vb' w w') : Stay g gc vb' w' v l := fun W vc hc => h W vc (hf.trans hc)
end Go.Cm

/- The walk of a coded block's writing. Conditions: the writer is there, the part lies below it. -/
namespace Go.Cm
open Go.RowKit Go.Proofs

theorem Stay.own {w : World} {B' g gc : Nat} {vb v : Value} {l : List Int} (h : Own w B' 3 v (ints l)) (hk : ∀ k, v.ownBlock = some k → k ≠ g ∧ k ≠ gc ∧ vb.ownBlock ≠ some k) : Stay g gc vb w v l := fun W _vb' hf =>
  (h.of_blk (w' := W) fun k e => hf.1 k (h.lt k e).2 (hk k e).1 (hk k e).2.1 (hk k e).2.2).sl
end Go.Cm
