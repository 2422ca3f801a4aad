/- The walk of the law PrefixBack. Conditions: the arguments read as data. -/
import Derived.Test.YtfeglklggadndaaBackM
import Derived.Deep.LoopGhost
namespace Go.Cm
open Go.RowKit Go.Proofs

theorem WrtV.keepRow {w w' : World} {B g N L : Nat} {vb : Value} {row : Option Nat} (h : WrtV w B g N L vb) (hg : w.grownBy w' row) (h1 : row ≠ some g) (h2 : ∀ k, vb.ownBlock = some k → row ≠ some k) : WrtV w' B g N L vb :=
  ⟨h.box.keep hg h1, h.own.keep hg (ne_of_row h2), h.ne, h.ge, h.lt⟩

set_option maxRecDepth 100000 in
set_option maxHeartbeats 4000000 in
theorem prefixBack (v u : Value) (l ss : List Int) (more : ByteArray) (w : World) (hv : IntsAt w v l) (hu : IntsAt w u ss) (hs63 : more.size ≤ 140737488351232) :
    Calls Try.prog 6 #[v, u, .string more] w fun e w' => e = .returned (.bool true) ∧ ∃ x, w' = ext w x := by
  have HV := Lib.hid hv
  have HNW := Lib.hid (newP v l w hv)
  obtain ⟨oa, cap, b, off, rfl, hd, -⟩ := hv.open
  obtain ⟨ou, capu, bu, offu, rfl, hdu, hcu⟩ := hu.open
  have hixu := index_any (P := Try.prog) 22 3 Try.underlying22 (by kernel_rfl) hdu
  have hm := hd.len
  have hmu := hdu.len
  have hbku := hdu.hblk
  have HCU := Lib.hid hcu
  clear hv hu hd hdu hcu
  by_cases hbig : (l.length : Int) > 320
  · go_enter Try.func6, Try.ntmps6
    go_wp2_with (go_at_call 7; refine (knownP _).mono ?_; rintro e w1 ⟨rfl, x, rfl⟩)
    go_ret
    exact ⟨rfl, (ex_ext (by repeat (first | exact Below.refl _ _ | assumption | refine b_drewN ?_ _ | refine Below.drew ?_ | refine b_ext' ?_ _ | refine b_alloc' ?_ _)))⟩
  · by_cases hbig2 : (more.size : Int) > 100
    · go_enter Try.func6, Try.ntmps6
      go_wp2_with (go_at_call 7; refine (knownP _).mono ?_; rintro e w1 ⟨rfl, x, rfl⟩)
      go_ret
      exact ⟨rfl, (ex_ext (by repeat (first | exact Below.refl _ _ | assumption | refine b_drewN ?_ _ | refine Below.drew ?_ | refine b_ext' ?_ _ | refine b_alloc' ?_ _)))⟩
    · have hm100 : more.size ≤ 100 := by omega
      unfold RetTab at HNW
      clear hs63
      by_cases he : errI l = 0
      · obtain ⟨L, rfl, hlen, h15, hk⟩ := errI_zero he
        have HNW2 : Hid (Calls Try.prog 15 #[.slice oa (nls L).length cap] w fun e w' => Below w.heap.size w w' ∧ ∃ g, e = .returned (.tuple #[.pointer (some ⟨g, 0, none⟩), .int .i64 0]) ∧ TabAt w' w.heap.size g L) := Lib.hid (HNW.out.mono fun e w' ⟨hb, h⟩ => by
          rcases h with ⟨-, g, h1, h2⟩ | ⟨h0, -⟩
          · rw [nls_toNat] at h2; exact ⟨hb, g, h1, h2⟩
          · exact absurd he h0)
        clear HNW
        have HE := Lib.hid he
        have H15 := Lib.hid h15
        have HKR := Lib.hid hk
        clear he h15 hk
        rw [nls_length] at HV hm hbig HNW2 ⊢
        go_enter Try.func6, Try.ntmps6
        go_wp2_with (first | (go_at_call 15; refine HNW2.out.mono ?_; rintro e w1 ⟨hb, gt, rfl, hT⟩; have HB1 := Lib.hid hb; have HT1 := Lib.hid hT; have HV1 := Lib.hid (HV.out.up hb); clear hb hT) | (go_at_call 8; refine (openP w1).mono ?_; rintro e w2 ⟨gw, rfl, hO, hb2⟩; have HO2 := Lib.hid hO; have HB2 := Lib.hid hb2; clear hO hb2))
        obtain ⟨vb0, hV0⟩ := HO2.out.v
        have HV0 := Lib.hid hV0
        have hn1 : w.heap.size ≤ w1.heap.size := HB1.out.size
        clear hV0 HO2 HNW2
        go_loopg [10, 11] 60 (fun gk vt i wr => ∃ (k N Ln : Nat) (ts : List Nat) (vb : Value), k ≤ 60 ∧ k ≤ ss.length ∧ i = .int .i64 k ∧ Hid (Ln ≤ 15 * k) ∧ WrtV wr w1.heap.size gw N Ln vb ∧ Own wr w1.heap.size 3 vt (ints (nls ts)) ∧ Hid (EncN L ts N Ln) ∧ Hid (ts.length ≤ k) ∧ vt.ownBlock ≠ some gw ∧ Hid (∀ q, vb.ownBlock = some q → vt.ownBlock ≠ some q) ∧ Below w1.heap.size w1 wr ∧ gk = 60 - k)
        case atStart => exact ⟨0, 0, 0, [], vb0, by omega, by omega, rfl, Lib.hid (by omega), HV0.out, Own.nil _ _ _, Lib.hid (EncN.nil L), Lib.hid (Nat.le_refl _), by simp [Value.ownBlock], Lib.hid (fun q _ => by simp [Value.ownBlock]), HB2.out, rfl⟩
        case round =>
          clear HV0 HB2
          obtain ⟨k, N, Ln, ts, vb, hk, hks, rfl, HLn, hW, hT, HENC, HTL, hne, HDJ, hB, rfl⟩ := hrel
          have HW := Lib.hid hW
          have HTK := Lib.hid hT
          have HB := Lib.hid hB
          clear hW hT hB
          by_cases hgo : k < ss.length ∧ k < 60
          · obtain ⟨hlt, h60⟩ := hgo
            have hlti : (k : Int) < (ss.length : Int) := by omega
            have h60i : (k : Int) < 60 := by omega
            have hbu := hbku (by omega)
            have hcell0 := HCU.out k hlt
            have hbu1 : bu < w1.heap.size := by omega
            have hcell1 := (HB1.out.cell (p := ⟨bu, offu + k, none⟩) hbu).trans hcell0
            have hcell := (HB.out.cell (p := ⟨bu, offu + k, none⟩) hbu1).trans hcell1
            have hbur : bu < wr.heap.size := Nat.lt_of_lt_of_le hbu1 HB.out.size
            generalize ss.getD k 0 = y at *
            have HWV := Lib.hid (writeV (.slice oa L.length cap) (nls L) y HV1.out HB.out HW.out (by have := HLn.out; omega))
            unfold RetV at HWV
            have HEZ := Lib.hid (fun h => errW_zero (L := L) (n := y) h)
            have HNB := Lib.hid (fun h => numW_bad (l := nls L) (n := y) (NL := (N, Ln)) h)
            by_cases hew : errW (nls L) y = 0
            · obtain ⟨i, rfl, hi, hi0, -, -⟩ := HEZ.out hew
              have hnw := numW_ok (L := L) (i := i) (N := N) (Ln := Ln) hew
              rw [hew, hnw] at HWV
              have hx15 := H15.out _ (getD_mem L i 0 hi)
              have HE2 := Lib.hid (HENC.out.snoc HW.out.lt hi hi0 (code_lt H15.out HKR.out i hi))
              clear hnw hew HNB HEZ
              have HLX : Hid (L.getD i 0 ≤ 15) := Lib.hid hx15
              clear hx15 hi0
              go_wp2_with (first | (go_at_call 9; (with_reducible refine HWV.out.mono ?_); rintro e w3 ⟨rfl, vb', hq1, hq2, hq3⟩; have HW3 := Lib.hid hq1; have HB3 := Lib.hid (HB.out.trans hq2); have HF3 := Lib.hid hq3; have HT3 := Lib.hid (HTK.out.of_block (w' := w3) (fun q hq => hq3.1 q (HTK.out.lt q hq).2 (fun e => hne (by rw [hq, e])) (fun e => HDJ.out q e hq))); have HTA := Lib.hid (HT3.out.up (below_alloc w3 (.cells #[.int .i64 (i : Int)] 3))); have HXA : Hid (Sl (w3.alloc (.cells #[.int .i64 (i : Int)] 3)) (.slice (some ⟨w3.heap.size, 0, none⟩) 1 1) [.int .i64 (i : Int)]) := Lib.hid (by simpa using sl_lit w3 #[.int .i64 (i : Int)] 3 (by simp)); have HSA : Hid (w1.heap.size ≤ (w3.alloc (.cells #[.int .i64 (i : Int)] 3)).heap.size) := Lib.hid (Nat.le_trans (HB.out.trans hq2).size (by simp)); clear hq1 hq2 hq3; have hcell3 := (HB3.out.cell (p := ⟨bu, offu + k, none⟩) hbu1).trans hcell1; have hbu3 : bu < w3.heap.size := Nat.lt_of_lt_of_le hbu1 HB3.out.size) | (at_builtin; refine wpList_app rfl (.tmp 70) (.tmp 75) 22 rfl w1.heap.size 3 (.int .i64 0) 8 Try.underlying22 (by kernel_rfl) rfl (by decide) u10 (ints (nls ts)) rfl HTA.out (.slice (some ⟨w3.heap.size, 0, none⟩) 1 1) [.int .i64 (i : Int)] rfl HXA.out (by intro u hu; simp at hu; subst hu; rfl) (by have := HTL.out; rw [ints_length, nls_length]; simp; omega) HSA.out ?_; intro v' w5 hown1 hg1 hk1; have HT5 := Lib.hid hown1; have HG5 := Lib.hid hg1; have HK5 := Lib.hid hk1; clear hown1 hg1 hk1))
              have hsA : (w3.alloc (.cells #[.int .i64 (i : Int)] 3)).heap.size = w3.heap.size + 1 := by simp
              have e5 : ints (nls ts) ++ [Value.int .i64 (i : Int)] = ints (nls (ts ++ [i])) := by simp [ints, nls]
              rw [e5] at HT5
              have hne3 : u10.ownBlock ≠ some gw := hne
              have hdj3 : ∀ q, vb'.ownBlock = some q → u10.ownBlock ≠ some q := fun q hq e => by
                rcases HF3.out.2.1 q hq with z | z
                · exact HDJ.out q z e
                · have := (HTK.out.lt q e).2; omega
              have hW5 := (HW3.out.up (below_alloc w3 (.cells #[.int .i64 (i : Int)] 3))).keepRow HG5.out hne3 (fun q hq e => hdj3 q hq e)
              have hne5 : v'.ownBlock ≠ some gw := fun e => by
                rcases HK5.out _ e with z | z
                · exact hne3 z
                · have := HW3.out.box.lt; omega
              have hdj5 : ∀ q, vb'.ownBlock = some q → v'.ownBlock ≠ some q := fun q hq e => by
                rcases HK5.out q e with z | z
                · exact hdj3 q hq z
                · have := (HW3.out.own.lt q hq).2; omega
              have hB5 : Below w1.heap.size w1 w5 := below_grown (HB3.out.alloc HB3.out.size _) HSA.out HTA.out HG5.out
              go_roundg (60 - (k + 1))
              case measure => omega
              case rel => exact ⟨k + 1, _, _, ts ++ [i], vb', by omega, by omega, by go_num, Lib.hid (by have := HLn.out; have := HLX.out; omega), hW5, HT5.out, HE2, Lib.hid (by rw [List.length_append, List.length_singleton]; have := HTL.out; omega), hne5, Lib.hid hdj5, hB5, rfl⟩
            · rw [HNB.out hew] at HWV
              have hei : (((errW (nls L) y : Nat) : Int) == 0) = false := by
                rw [beq_eq_false_iff_ne]; omega
              clear HNB HEZ hew
              generalize errW (nls L) y = eq at *
              go_wp2_with (go_at_call 9; (with_reducible refine HWV.out.mono ?_); rintro e w3 ⟨rfl, vb', hq1, hq2, hq3⟩; have HW3 := Lib.hid hq1; have HB3 := Lib.hid (HB.out.trans hq2); have HF3 := Lib.hid hq3; have HT3 := Lib.hid (HTK.out.of_block (w' := w3) (fun q hq => hq3.1 q (HTK.out.lt q hq).2 (fun e => hne (by rw [hq, e])) (fun e => HDJ.out q e hq))); clear hq1 hq2 hq3)
              have hdj3 : ∀ q, vb'.ownBlock = some q → u10.ownBlock ≠ some q := fun q hq e => by
                rcases HF3.out.2.1 q hq with z | z
                · exact HDJ.out q z e
                · have := (HTK.out.lt q e).2; omega
              go_roundg (60 - (k + 1))
              case measure => omega
              case rel => exact ⟨k + 1, N, Ln, ts, vb', by omega, by omega, by go_num, Lib.hid (by have := HLn.out; omega), HW3.out, HT3.out, HENC, Lib.hid (by have := HTL.out; omega), hne, Lib.hid hdj3, HB3.out, rfl⟩
          · have hL900 : Ln ≤ 900 := by have := HLn.out; omega
            obtain ⟨ot, ct, gk, hvt, hdt, -, hct, -⟩ := HTK.out.cases
            rw [ints_length, nls_length] at hvt hdt hct
            have hixt := index_any (P := Try.prog) 22 3 Try.underlying22 (by kernel_rfl) hdt
            have hbt := hdt.hblk
            have HCT : Hid (∀ q, q < ts.length → wr.cell? ⟨gk, q, none⟩ = some (.int .i64 (ts.getD q 0 : Nat))) := Lib.hid (fun q hq => by rw [hct q hq, ints_getD _ _ (by rw [nls_length]; exact hq), nls_getD])
            obtain ⟨vv, hvv⟩ := num_more HW.out.lt more
            have hsz := size_more N Ln more
            have hts : ((⟨(textN N Ln).toArray⟩ : ByteArray)).size = (Ln + 7) / 8 := by
              show (textN N Ln).toArray.size = _
              rw [List.size_toArray, textN_length]
            have HLN := Lib.hid (lenP HW.out.p (by omega))
            have htx : ∀ x, Calls Try.prog 12 #[.pointer (some ⟨gw, 0, none⟩)] (ext wr x) fun e w' => e = .returned (.string ⟨(textN N Ln).toArray⟩) ∧ ∃ y, w' = ext (ext wr x) y := fun x => textP (HW.out.p.up (ext_below wr x)) (by omega)
            have HTX := Lib.hid htx
            have hlt30 := HTL.out
            obtain ⟨T, hT⟩ : ∃ T, T = (⟨(textN N Ln).toArray⟩ : ByteArray) := ⟨_, rfl⟩
            rw [← hT] at hvv hsz hts HTX
            have HNUM := Lib.hid hvv
            clear hvv hT htx hct hdt
            have hsz2 : (T ++ more).size ≤ 1000 := by omega
            have hsz3 : Ln ≤ 8 * (T ++ more).size := by omega
            have hszz : ¬ 9223372036854775807 < T.size + more.size := by omega
            subst hvt
            by_cases hk1 : k < ss.length
            · obtain rfl : k = 60 := by omega
              have hlti : ((60 : Nat) : Int) < (ss.length : Int) := by omega
              have h60i : ¬ ((60 : Nat) : Int) < 60 := by omega
              go_wp2_with (first | (go_at_call 11; (with_reducible refine HLN.out.mono ?_); rintro e w4 ⟨rfl, x4, rfl⟩) | (go_at_call 12; (with_reducible refine (HTX.out x4).mono ?_); rintro e w5 ⟨rfl, x5, rfl⟩) | (go_at_call 14; refine (newS (T ++ more) 0 (by omega) (by omega) _).mono ?_; rintro e w7 ⟨gr, rfl, hS, hge, hb7⟩; have HS7 := Lib.hid hS; have HGE := Lib.hid hge; have HX7 := Lib.hid hb7; clear hS hge hb7))
              have HB6 : Hid (Below wr.heap.size wr (ext (ext wr x4) x5)) := Lib.hid (by repeat (first | exact Below.refl _ _ | assumption | refine b_drewN ?_ _ | refine Below.drew ?_ | refine b_ext' ?_ _ | refine b_alloc' ?_ _))
              have HT6 := Lib.hid (HT1.out.up (HB.out.trans (HB6.out.mono HB.out.size)))
              have HBW : Hid (Below w.heap.size w (ext (ext wr x4) x5)) := Lib.hid (HB1.out.trans ((HB.out.trans (HB6.out.mono HB.out.size)).mono hn1))
              have hct6 : ∀ q, q < ts.length → (ext (ext wr x4) x5).cell? ⟨gk, q, none⟩ = some (.int .i64 (ts.getD q 0 : Nat)) := fun q hq => (HB6.out.cell (p := ⟨gk, q, none⟩) (hbt (by omega))).trans (HCT.out q hq)
              have HC6 := Lib.hid hct6
              have hbt6 : 0 < ts.length → gk < (ext (ext wr x4) x5).heap.size := fun h => Nat.lt_of_lt_of_le (hbt h) HB6.out.size
              clear hct6 HB6 HLN HTX HCT hbt HW HB HT1 HV1
              generalize ext (ext wr x4) x5 = w6 at *
              go_loopg [15] ts.length (fun gj i wq => ∃ j : Nat, j ≤ ts.length ∧ i = .int .i64 j ∧ BoxS wq gr (T ++ more) (posN L ts j) ∧ Below w6.heap.size w6 wq ∧ gj = ts.length - j)
              case atStart => exact ⟨0, Nat.zero_le _, rfl, HS7.out, HX7.out, rfl⟩
              case round =>
                clear HS7 HX7
                obtain ⟨j, hj, rfl, hS, hX, rfl⟩ := hrel
                have HS := Lib.hid hS
                have HX := Lib.hid hX
                clear hS hX
                by_cases hjt : j < ts.length
                · have hcj := (HX.out.cell (p := ⟨gk, j, none⟩) (hbt6 (by omega))).trans (HC6.out j hjt)
                  have hpos : posN L ts j ≤ Ln := by
                    have h1 := posN_mono L ts (show j ≤ ts.length by omega)
                    rw [HENC.out.len] at h1; exact h1
                  have hr := HENC.out.read (v := vv) (left := 8 * (T ++ more).size - posN L ts j) hjt (by omega)
                  rw [← HNUM.out] at hr
                  have HRD := Lib.hid (read_is (HT6.out.up HX.out) HS.out H15.out (by omega) (by omega) hr)
                  have HNX : Hid (posN L ts j + L.getD (ts.getD j 0) 0 = posN L ts (j + 1)) := Lib.hid rfl
                  have HBR := Lib.hid (fun (w' : World) hg => below_row (w' := w') HX.out HX.out.size hg HGE.out)
                  rw [HNX.out] at HRD
                  clear hr HNX hpos
                  have HCJ : Hid (∀ w', Below w6.heap.size w6 w' → w'.cell? ⟨gk, j, none⟩ = some (.int .i64 (ts.getD j 0 : Nat))) := Lib.hid (fun w' h => (h.cell (p := ⟨gk, j, none⟩) (hbt6 (by omega))).trans (HC6.out j hjt))
                  have hg6 := hbt6 (by omega)
                  clear hcj
                  have hixj := fun W => hixt W .i64 (j : Int) (by omega) (by omega)
                  rw [Int.toNat_natCast, Nat.zero_add] at hixj
                  have hj60 : j ≤ 60 := by have := HTL.out; omega
                  generalize ts.getD j 0 = tj at *
                  go_wp2_with (go_at_call 16; (with_reducible refine HRD.out.mono ?_); rintro e w8 ⟨rfl, hbx, hg⟩; have HS8 := Lib.hid hbx; have hX8 := HBR.out w8 hg; have HX8 := Lib.hid hX8; have hcj8 := HCJ.out w8 hX8; have hg8 : gk < w8.heap.size := Nat.lt_of_lt_of_le hg6 hX8.size; clear hbx hg hX8)
                  go_roundg (ts.length - (j + 1))
                  case measure => omega
                  case rel => exact ⟨j + 1, by omega, by go_num, HS8.out, HX8.out, rfl⟩
                · obtain rfl : j = ts.length := by omega
                  have hpe := HENC.out.len
                  rw [hpe] at HS
                  clear hpe
                  have HAT := Lib.hid (atS HS.out)
                  go_wp2_with (first | (go_at_call 22; (with_reducible refine HAT.out.mono ?_); rintro e w9 ⟨rfl, hw9⟩; rw [hw9]; clear hw9) | (go_at_call 7; refine (knownP _).mono ?_; rintro e w10 ⟨rfl, x10, rfl⟩))
                  go_ret
                  exact ⟨rfl, ex_ext ((HBW.out.trans (HX.out.mono HBW.out.size)).trans ((ext_below _ _).mono (Nat.le_trans HBW.out.size HX.out.size)))⟩
            · obtain rfl : k = ss.length := by omega
              go_wp2_with (first | (go_at_call 11; (with_reducible refine HLN.out.mono ?_); rintro e w4 ⟨rfl, x4, rfl⟩) | (go_at_call 12; (with_reducible refine (HTX.out x4).mono ?_); rintro e w5 ⟨rfl, x5, rfl⟩) | (go_at_call 14; refine (newS (T ++ more) 0 (by omega) (by omega) _).mono ?_; rintro e w7 ⟨gr, rfl, hS, hge, hb7⟩; have HS7 := Lib.hid hS; have HGE := Lib.hid hge; have HX7 := Lib.hid hb7; clear hS hge hb7))
              have HB6 : Hid (Below wr.heap.size wr (ext (ext wr x4) x5)) := Lib.hid (by repeat (first | exact Below.refl _ _ | assumption | refine b_drewN ?_ _ | refine Below.drew ?_ | refine b_ext' ?_ _ | refine b_alloc' ?_ _))
              have HT6 := Lib.hid (HT1.out.up (HB.out.trans (HB6.out.mono HB.out.size)))
              have HBW : Hid (Below w.heap.size w (ext (ext wr x4) x5)) := Lib.hid (HB1.out.trans ((HB.out.trans (HB6.out.mono HB.out.size)).mono hn1))
              have hct6 : ∀ q, q < ts.length → (ext (ext wr x4) x5).cell? ⟨gk, q, none⟩ = some (.int .i64 (ts.getD q 0 : Nat)) := fun q hq => (HB6.out.cell (p := ⟨gk, q, none⟩) (hbt (by omega))).trans (HCT.out q hq)
              have HC6 := Lib.hid hct6
              have hbt6 : 0 < ts.length → gk < (ext (ext wr x4) x5).heap.size := fun h => Nat.lt_of_lt_of_le (hbt h) HB6.out.size
              clear hct6 HB6 HLN HTX HCT hbt HW HB HT1 HV1
              generalize ext (ext wr x4) x5 = w6 at *
              go_loopg [15] ts.length (fun gj i wq => ∃ j : Nat, j ≤ ts.length ∧ i = .int .i64 j ∧ BoxS wq gr (T ++ more) (posN L ts j) ∧ Below w6.heap.size w6 wq ∧ gj = ts.length - j)
              case atStart => exact ⟨0, Nat.zero_le _, rfl, HS7.out, HX7.out, rfl⟩
              case round =>
                clear HS7 HX7
                obtain ⟨j, hj, rfl, hS, hX, rfl⟩ := hrel
                have HS := Lib.hid hS
                have HX := Lib.hid hX
                clear hS hX
                by_cases hjt : j < ts.length
                · have hcj := (HX.out.cell (p := ⟨gk, j, none⟩) (hbt6 (by omega))).trans (HC6.out j hjt)
                  have hpos : posN L ts j ≤ Ln := by
                    have h1 := posN_mono L ts (show j ≤ ts.length by omega)
                    rw [HENC.out.len] at h1; exact h1
                  have hr := HENC.out.read (v := vv) (left := 8 * (T ++ more).size - posN L ts j) hjt (by omega)
                  rw [← HNUM.out] at hr
                  have HRD := Lib.hid (read_is (HT6.out.up HX.out) HS.out H15.out (by omega) (by omega) hr)
                  have HNX : Hid (posN L ts j + L.getD (ts.getD j 0) 0 = posN L ts (j + 1)) := Lib.hid rfl
                  have HBR := Lib.hid (fun (w' : World) hg => below_row (w' := w') HX.out HX.out.size hg HGE.out)
                  rw [HNX.out] at HRD
                  clear hr HNX hpos
                  have HCJ : Hid (∀ w', Below w6.heap.size w6 w' → w'.cell? ⟨gk, j, none⟩ = some (.int .i64 (ts.getD j 0 : Nat))) := Lib.hid (fun w' h => (h.cell (p := ⟨gk, j, none⟩) (hbt6 (by omega))).trans (HC6.out j hjt))
                  have hg6 := hbt6 (by omega)
                  clear hcj
                  have hixj := fun W => hixt W .i64 (j : Int) (by omega) (by omega)
                  rw [Int.toNat_natCast, Nat.zero_add] at hixj
                  have hj60 : j ≤ 60 := by have := HTL.out; omega
                  generalize ts.getD j 0 = tj at *
                  go_wp2_with (go_at_call 16; (with_reducible refine HRD.out.mono ?_); rintro e w8 ⟨rfl, hbx, hg⟩; have HS8 := Lib.hid hbx; have hX8 := HBR.out w8 hg; have HX8 := Lib.hid hX8; have hcj8 := HCJ.out w8 hX8; have hg8 : gk < w8.heap.size := Nat.lt_of_lt_of_le hg6 hX8.size; clear hbx hg hX8)
                  go_roundg (ts.length - (j + 1))
                  case measure => omega
                  case rel => exact ⟨j + 1, by omega, by go_num, HS8.out, HX8.out, rfl⟩
                · obtain rfl : j = ts.length := by omega
                  have hpe := HENC.out.len
                  rw [hpe] at HS
                  clear hpe
                  have HAT := Lib.hid (atS HS.out)
                  go_wp2_with (first | (go_at_call 22; (with_reducible refine HAT.out.mono ?_); rintro e w9 ⟨rfl, hw9⟩; rw [hw9]; clear hw9) | (go_at_call 7; refine (knownP _).mono ?_; rintro e w10 ⟨rfl, x10, rfl⟩))
                  go_ret
                  exact ⟨rfl, ex_ext ((HBW.out.trans (HX.out.mono HBW.out.size)).trans ((ext_below _ _).mono (Nat.le_trans HBW.out.size HX.out.size)))⟩
      · have hne : ¬ (errI l : Int) = 0 := by omega
        have HNW2 : Hid (Calls Try.prog 15 #[.slice oa l.length cap] w fun e w' => Below w.heap.size w w' ∧ e = .returned (.tuple #[.pointer none, .int .i64 (errI l : Nat)])) := Lib.hid (HNW.out.mono fun e w' ⟨hb, h⟩ => by
          rcases h with ⟨h0, -⟩ | ⟨-, h⟩
          · exact absurd h0 he
          · exact ⟨hb, h⟩)
        clear HNW he
        generalize errI l = q at *
        have hqi : ((q : Int) != 0) = true := by simpa using hne
        go_enter Try.func6, Try.ntmps6
        go_wp2_with (first | (go_at_call 15; refine HNW2.out.mono ?_; rintro e w1 ⟨hb, rfl⟩; have HB1 := Lib.hid hb; clear hb) | (go_at_call 8; refine (openP w1).mono ?_; rintro e w2 ⟨gw, rfl, -, hb2⟩; have HB2 := Lib.hid (HB1.out.trans (hb2.mono HB1.out.size)); clear hb2) | (go_at_call 7; refine (knownP _).mono ?_; rintro e w6 ⟨rfl, x6, rfl⟩))
        go_ret
        exact ⟨rfl, ex_ext (HB2.out.trans ((ext_below _ _).mono HB2.out.size))⟩
end Go.Cm
