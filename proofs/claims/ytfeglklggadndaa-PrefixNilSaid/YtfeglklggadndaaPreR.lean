/- The walk of the document's reading of a symbol. Conditions: the lengths are right, the reader is there. -/
import Derived.Test.YtfeglklggadndaaPreM
import Derived.Test.YtfeglklggadndaaPreW
import Derived.Test.YtfeglklggadndaaBitN
namespace Go.Cm
open Go.RowKit Go.Proofs

/-- what the document's reading answers -/
def RetRead (Bx : World → Nat → ByteArray → Nat → Prop) (L : List Nat) (s : ByteArray) (p g : Nat) (w : World) (e : Ending) (w' : World) : Prop :=
  ∃ a er d, e = .returned (.tuple #[.int .i64 (a : Nat), .int .i64 (er : Nat)]) ∧ ReadN L (numS s / 2 ^ p) (8 * s.size - p) a er d ∧ Bx w' g s (p + d) ∧ w.grownBy w' (some g)

set_option maxRecDepth 100000 in
set_option maxHeartbeats 1000000 in
theorem readR {w0 w : World} {g p : Nat} {s : ByteArray} (v : Value) (L : List Nat) (h0 : IntsAt w0 v (nls L)) (hb0 : Below w0.heap.size w0 w) (h : BoxT w g s p) (hgw : w0.heap.size ≤ g)
    (hlen : L.length ≤ 320) (h15 : ∀ x ∈ L, x ≤ 15) (hk : kraftN L ≤ 32768) (hs : s.size ≤ 4294967296) (hp : p ≤ 8 * s.size) :
    Calls Try.prog 21 #[.pointer (some ⟨g, 0, none⟩), v] w (RetRead BoxT L s p g w) := by
  have HCO : Hid (∀ w', Below w0.heap.size w w' → Calls Try.prog 18 #[v] w' fun e w'' => ∃ vc, e = .returned (.tuple #[vc, .int .i64 0]) ∧ Own w'' w'.heap.size 3 vc (ints (nls (codesN L))) ∧ Below w'.heap.size w' w'') := Lib.hid (fun w' hb => by
    have h1 := codesR v (nls L) w' (h0.up (hb0.trans hb))
    unfold RetCodes at h1
    rw [errI_nls hlen h15, if_neg (by omega), if_pos rfl, nls_toNat] at h1
    exact h1)
  obtain ⟨oa, cap, b, off, rfl, hd, hc⟩ := h0.open
  rw [nls_length] at hd hc
  rw [nls_length] at HCO ⊢
  have hix := index_any (P := Try.prog) 22 3 Try.underlying22 (by kernel_rfl) hd
  have hm := hd.len
  have hbk := hd.hblk
  have hsz0 := hb0.size
  have HBW := Lib.hid hb0
  have HB := Lib.hid h
  have HC : Hid (∀ i, i < L.length → w0.cell? ⟨b, off + i, none⟩ = some (.int .i64 (L.getD i 0 : Nat))) := Lib.hid (fun i hi => by rw [hc i hi, nls_getD])
  have H15 : Hid (∀ i, i < L.length → L.getD i 0 ≤ 15) := Lib.hid (fun i hi => h15 _ (getD_mem L i 0 hi))
  clear hc h0 hb0 h hd h15 hk
  go_enter Try.func21, Try.ntmps21
  go_wp2_with (go_at_call 18; refine (HCO.out _ (Below.refl _ _)).mono ?_; rintro e w2 ⟨vc, rfl, hq3, hq4⟩; have HQ3 := Lib.hid hq3; have HQ4 := Lib.hid hq4; clear hq3 hq4)
  have HB2 := Lib.hid (HB.out.up HQ4.out)
  have HC2 : Hid (∀ i, i < L.length → w2.cell? ⟨b, off + i, none⟩ = some (.int .i64 (L.getD i 0 : Nat))) := Lib.hid (fun i hi => ((HBW.out.trans (HQ4.out.mono hsz0)).cell (p := ⟨b, off + i, none⟩) (hbk (by omega))).trans (HC.out i hi))
  have hsz2 := HQ4.out.size
  obtain ⟨oc, cc, bc, fc, rfl, hdc, hcc⟩ := (show IntsAt w2 vc (nls (codesN L)) from HQ3.out.sl).open
  rw [show (nls (codesN L)).length = L.length by rw [nls_length, codesN_length]] at hdc hcc ⊢
  have hixc := index_any (P := Try.prog) 22 3 Try.underlying22 (by kernel_rfl) hdc
  have HCC : Hid (∀ i, i < L.length → w2.cell? ⟨bc, fc + i, none⟩ = some (.int .i64 (codeN L i : Nat))) := Lib.hid (fun i hi => by rw [hcc i hi, nls_getD, codesN_getD L i hi])
  have hbkc := hdc.hblk
  have HBIT : Hid (∀ (i : Nat) (W : World), Calls Try.prog 38 #[.string s, .int .i64 i] W fun e w' => e = .returned (.int .i64 (((numS s).testBit i).toNat : Nat)) ∧ ∃ x, w' = ext W x) := Lib.hid (fun i W => bitT s i hs W)
  have HLF : Hid (∀ W, BoxT W g s p → Calls Try.prog 37 #[.pointer (some ⟨g, 0, none⟩)] W fun e w' => e = .returned (.int .i64 ((8 * s.size - p : Nat) : Int)) ∧ ∃ x, w' = ext W x) := Lib.hid (fun W h => leftT h hs hp)
  clear hdc hcc HQ3 HCO HC
  have HQW : Hid (Below w.heap.size w w2) := HQ4
  have HGR : Hid (w.grownBy w2 (some g)) := Lib.hid (grown_below HQ4.out _)
  have hbk2 : 0 < L.length → b < w2.heap.size := fun h => by have := hbk h; omega
  clear HQ4 hbk HBW HB HQW
  obtain ⟨left, hl⟩ : ∃ left, left = 8 * s.size - p := ⟨_, rfl⟩
  have hleft : left + p = 8 * s.size := by omega
  rw [← hl] at HLF
  clear hl
  go_loopg [8, 9] 15 (fun gk c n wr => ∃ k : Nat, 1 ≤ k ∧ k ≤ 16 ∧ k ≤ left + 1 ∧ n = .int .i64 k ∧ c = .int .i64 (turnN (numS s / 2 ^ p) (k - 1) : Nat) ∧ Hid (∀ i, i < L.length → hitN L (numS s / 2 ^ p) i → k ≤ L.getD i 0) ∧ (∃ x, wr = ext w2 x) ∧ gk = 16 - k)
  case atStart => exact ⟨1, by omega, by omega, by omega, rfl, rfl, Lib.hid (fun i _ h => by have := h.1; omega), refl_ext _, rfl⟩
  case round =>
    obtain ⟨k, hk1, hk16, hkl, rfl, rfl, HIT, ⟨x, rfl⟩, rfl⟩ := hrel
    have HB3 := Lib.hid (HB2.out.up (ext_below w2 x))
    have HL3 := Lib.hid (HLF.out _ HB3.out)
    have hszx := size_ext w2 x
    have hc0 := HB3.out.c0
    have hc1 := HB3.out.c1
    have hgx := HB3.out.lt
    by_cases hk15 : k ≤ 15
    · by_cases hkle : k ≤ left
      · have hki : (k : Int) ≤ (left : Int) := by omega
        have hk15i : (k : Int) ≤ 15 := by omega
        have heq : (p : Int) + (k : Int) - 1 = ((p + (k - 1) : Nat) : Int) := by omega
        have hTS := turnN_succ (numS s / 2 ^ p) (k - 1)
        rw [show k - 1 + 1 = k by omega, Nat.testBit_div_two_pow, Nat.add_comm (k - 1) p] at hTS
        have HTS := Lib.hid hTS
        have HBT := Lib.hid (HBIT.out (p + (k - 1)))
        have hqb : p + (k - 1) ≤ 68719476736 := by omega
        have htl := turnN_lt (numS s / 2 ^ p) (k - 1)
        have htl2 : 2 ^ (k - 1) ≤ 2 ^ 15 := Nat.pow_le_pow_right (by decide) (by omega)
        have hbb : ((numS s).testBit (p + (k - 1))).toNat ≤ 1 := by cases (numS s).testBit (p + (k - 1)) <;> simp
        clear hTS
        generalize ((numS s).testBit (p + (k - 1))).toNat = y at *
        generalize p + (k - 1) = q at *
        generalize turnN (numS s / 2 ^ p) (k - 1) = c at *
        have hc15 : c ≤ 32768 := by omega
        clear htl htl2
        go_wp2_with (go_at_call 37; refine HL3.out.mono ?_; rintro e w4 ⟨rfl, z, rfl⟩; have hg4 : g < (ext (ext w2 x) z).heap.size := (HB3.out.up (ext_below _ z)).lt)
        refine wp_region_ext (by kernel_rfl) (by kernel_rfl) ?_
        repeat (go_big_quiet_step ((go_at_call 38; exact calls_in (HBT.out _))))
        refine wpQuiet_nil ?_
        rintro w' ⟨x2, rfl⟩
        obtain ⟨wo, hwo⟩ : ∃ wo, ext (ext (ext w2 x) z) x2 = ext w2 wo := ex_ext (b_ext' (b_ext' (ext_below w2 x) z) x2)
        rw [hwo]
        clear hwo HB3 HL3 hszx hc0 hc1 hgx hg4
        go_wp2
        obtain ⟨t, ht⟩ : ∃ t, t = turnN (numS s / 2 ^ p) k := ⟨_, rfl⟩
        have hti : 2 * (c : Int) + (y : Int) = (t : Int) := by rw [ht, HTS.out]; norm_cast
        have HT := Lib.hid ht
        have ht15 : t ≤ 65537 := by rw [ht, HTS.out]; omega
        rw [hti]
        clear ht HTS HBT hti heq
        have HB5 := Lib.hid (HB2.out.up (ext_below w2 wo))
        have hsz5 := size_ext w2 wo
        have hcw : ∀ q o, q < w2.heap.size → (ext w2 wo).cell? ⟨q, o, none⟩ = w2.cell? ⟨q, o, none⟩ := fun q o hq => cell?_ext w2 wo q o hq
        have HCW := Lib.hid hcw
        have HGR5 : Hid (w.grownBy (ext w2 wo) (some g)) := Lib.hid (grown_trans HGR.out (grown_below (ext_below _ _) _))
        have HXT : Hid (∃ x, ext w2 wo = ext w2 x) := Lib.hid ⟨wo, rfl⟩
        clear hcw
        generalize ext w2 wo = w5 at *
        have hc1 := HB5.out.c1
        have hf1 := HB5.out.free 1
        have hg5 := HB5.out.lt
        go_loopg [10] L.length (fun gk i wr => ∃ j : Nat, j ≤ L.length ∧ i = .int .i64 j ∧ Hid (∀ q, q < j → hitN L (numS s / 2 ^ p) q → L.getD q 0 ≠ k) ∧ wr = w5 ∧ gk = L.length - j)
        case atStart => exact ⟨0, Nat.zero_le _, rfl, Lib.hid (fun q hq => absurd hq (Nat.not_lt_zero q)), rfl, rfl⟩
        case round =>
          obtain ⟨j, hj, rfl, HNO, rfl, rfl⟩ := hrel
          by_cases hlt : j < L.length
          · have hcell := (HCW.out b (off + j) (hbk2 (by omega))).trans (HC2.out j hlt)
            have hcellc := (HCW.out bc (fc + j) (hbkc (by omega))).trans (HCC.out j hlt)
            have hb5 : b < wr.heap.size := by have := hbk2 (by omega); omega
            have hbc5 : bc < wr.heap.size := by have := hbkc (by omega); omega
            have hitk := HIT.out j hlt
            have HHD : Hid (hitN L (numS s / 2 ^ p) j ↔ L.getD j 0 ≠ 0 ∧ codeN L j = turnN (numS s / 2 ^ p) (L.getD j 0)) := Lib.hid Iff.rfl
            have HLX : Hid (L.getD j 0 = L.getD j 0) := Lib.hid rfl
            generalize hx : L.getD j 0 = xx at *
            generalize hcd : codeN L j = cd at *
            have HX := Lib.hid hx
            have HITK := Lib.hid hitk
            clear hx hcd hitk
            have HSTEP : Hid (¬ (xx = k ∧ cd = t) → ∀ q, q < j + 1 → hitN L (numS s / 2 ^ p) q → L.getD q 0 ≠ k) := Lib.hid (fun hn q hq hh => by
              rcases Nat.lt_succ_iff_lt_or_eq.1 hq with h1 | rfl
              · exact HNO.out q h1 hh
              · intro he
                have hxk : xx = k := by rw [← HX.out]; exact he
                refine hn ⟨hxk, ?_⟩
                rw [HT.out, ← hxk]
                exact (HHD.out.1 hh).2)
            by_cases hxk : xx = k
            · have e1 : ((xx : Int) == (k : Int)) = true := by rw [hxk]; exact beq_self_eq_true _
              by_cases hct : cd = t
              · have e2 : ((cd : Int) == (t : Int)) = true := by rw [hct]; exact beq_self_eq_true _
                have HH : Hid (hitN L (numS s / 2 ^ p) j) := Lib.hid (HHD.out.2 ⟨by omega, by rw [hxk, ← HT.out]; exact hct⟩)
                have HXK := Lib.hid hxk
                clear hxk hct
                have HST := Lib.hid (HB5.out.set1 (p + k))
                go_wp2
                go_ret2
                have hst := HST.out
                rw [Int.natCast_add] at hst
                unfold RetRead; rw [show 8 * s.size - p = left by omega]
                exact ⟨j, 0, k, rfl, .inl ⟨hlt, HH.out, by rw [HX.out, HXK.out]; omega, rfl, by rw [HX.out, HXK.out]⟩, hst.1, grown_trans HGR5.out hst.2⟩
              · have e2 : ((cd : Int) == (t : Int)) = false := by simp; omega
                have HH := Lib.hid (HSTEP.out (fun h => hct h.2))
                clear hct hxk
                go_wp2
                go_roundg (L.length - (j + 1))
                case measure => omega
                case rel => exact ⟨j + 1, by omega, by go_num, HH, rfl, rfl⟩
            · have e1 : ((xx : Int) == (k : Int)) = false := by simp; omega
              have HH := Lib.hid (HSTEP.out (fun h => hxk h.1))
              clear hxk
              go_wp2
              go_roundg (L.length - (j + 1))
              case measure => omega
              case rel => exact ⟨j + 1, by omega, by go_num, HH, rfl, rfl⟩
          · obtain rfl : j = L.length := by omega
            have HIT2 : Hid (∀ i, i < L.length → hitN L (numS s / 2 ^ p) i → k + 1 ≤ L.getD i 0) := Lib.hid (fun i hi hh => by
              have h1 := HIT.out i hi hh
              have h2 := HNO.out i hi hh
              omega)
            have HT1 := HT
            go_wp2
            go_roundg (16 - (k + 1))
            case measure => omega
            case rel => exact ⟨k + 1, by omega, by omega, by omega, by go_num, by rw [Nat.add_sub_cancel, ← HT1.out], HIT2, HXT.out, rfl⟩
      · have hki : ¬ (k : Int) ≤ (left : Int) := by omega
        have hk15i : (k : Int) ≤ 15 := by omega
        have hl15 : (left : Int) < 15 := by omega
        have hN : ReadN L (numS s / 2 ^ p) left 0 2 0 := .inr ⟨fun i hi hh => by have := HIT.out i hi hh; omega, rfl, rfl, by rw [if_pos (by omega)]⟩
        have HN := Lib.hid hN
        clear hN
        go_wp2_with (first | (go_at_call 37; refine HL3.out.mono ?_; rintro e w4 ⟨rfl, z, rfl⟩; have HB4 := Lib.hid (HB3.out.up (ext_below _ z)); have HL4 := Lib.hid (HLF.out _ HB4.out)) | (go_at_call 37; refine HL4.out.mono ?_; rintro e w5 ⟨rfl, z2, rfl⟩))
        go_ret2
        unfold RetRead; rw [show 8 * s.size - p = left by omega]
        have hbz : Below w2.heap.size w2 (ext (ext (ext w2 x) z) z2) := (by repeat (first | exact Below.refl _ _ | assumption | refine b_drewN ?_ _ | refine Below.drew ?_ | refine b_ext' ?_ _ | refine b_alloc' ?_ _))
        exact ⟨0, 2, 0, rfl, HN.out, HB4.out.up (ext_below _ _), grown_trans HGR.out (grown_below hbz _)⟩
    · obtain rfl : k = 16 := by omega
      have hl15 : ¬ (left : Int) < 15 := by omega
      have hN : ReadN L (numS s / 2 ^ p) left 0 9 0 := .inr ⟨fun i hi hh => by have := HIT.out i hi hh; have := H15.out i hi; omega, rfl, rfl, by rw [if_neg (by omega)]⟩
      have HN := Lib.hid hN
      clear hN
      go_wp2_with (first | (go_at_call 37; refine HL3.out.mono ?_; rintro e w4 ⟨rfl, z, rfl⟩; have HB4 := Lib.hid (HB3.out.up (ext_below _ z))))
      go_ret2
      unfold RetRead; rw [show 8 * s.size - p = left by omega]
      have hbz : Below w2.heap.size w2 (ext (ext w2 x) z) := (by repeat (first | exact Below.refl _ _ | assumption | refine b_drewN ?_ _ | refine Below.drew ?_ | refine b_ext' ?_ _ | refine b_alloc' ?_ _))
      exact ⟨0, 9, 0, rfl, HN.out, HB4.out, grown_trans HGR.out (grown_below hbz _)⟩
end Go.Cm
