/- The walk of MiniSame. Conditions: the argument reads as an automaton. -/
import Derived.Test.YtjeclleophlliaaLawM
namespace Go.Cm
open Go.RowKit Go.Proofs

set_option maxRecDepth 100000 in
set_option maxHeartbeats 4000000 in
theorem miniSame (v : Value) (s : ByteArray) (d : Dfa) (w : World) (h : DfaAt w v d) (hs63 : s.size ≤ 140737488351232) : Calls Try.prog 4 #[v, .string s] w fun e w' => e = .returned (.bool true) ∧ ∃ x, w' = ext w x := by
  obtain ⟨A, rfl, hv⟩ := h
  have HIN : Hid (DfaIn (w.alloc (.cells A 26)) w.heap.size A d) := Lib.hid ⟨heap_alloc_new w (.cells A 26), hv.up (below_alloc _ _)⟩
  have HS := Lib.hid hv.hsize
  have HCL := Lib.hid hv.hlen
  have HSM := Lib.hid (fun W (hW : DfaIn W w.heap.size A d) => small (.agg A) d W ⟨A, rfl, hW.2⟩)
  clear hv
  have hz := zero_dfa
  obtain ⟨Z, hZ⟩ : ∃ Z, Z = zArr := ⟨_, rfl⟩
  rw [← hZ] at hz
  have HBN : Hid (∀ W : World, BoxD (W.alloc (.cells Z 26)) W.heap.size (.slice none 0 0) (.slice none 0 0) (List.replicate 256 0)) := Lib.hid (fun W => hZ ▸ box_new W)
  clear hZ
  cases hsm : smallB d with
  | false =>
    go_enter Try.func4, Try.ntmps4
    go_wp2_with (first | (refine load_dfa rfl _ rfl w.heap.size rfl A HS.out HIN.out.1 ?_) | (go_at_call 7; refine (HSM.out _ HIN.out).mono ?_; rintro e w' ⟨rfl, x, rfl⟩; rw [hsm]) | (go_at_call 8; refine (known _).mono ?_; rintro e w' ⟨rfl, x2, rfl⟩))
    go_ret
    exact ⟨rfl, (ex_ext (by repeat (first | exact Below.refl _ _ | assumption | refine b_drewN ?_ _ | refine Below.drew ?_ | refine b_ext' ?_ _ | refine b_alloc' ?_ _)))⟩
  | true =>
    by_cases hlen : 300 < s.size
    · have hl2 : (300 : Int) < (s.size : Int) := by omega
      go_enter Try.func4, Try.ntmps4
      go_wp2_with (first | (refine load_dfa rfl _ rfl w.heap.size rfl A HS.out HIN.out.1 ?_) | (go_at_call 7; refine (HSM.out _ HIN.out).mono ?_; rintro e w' ⟨rfl, x, rfl⟩; rw [hsm]) | (go_at_call 8; refine (known _).mono ?_; rintro e w' ⟨rfl, x2, rfl⟩))
      go_ret
      exact ⟨rfl, (ex_ext (by repeat (first | exact Below.refl _ _ | assumption | refine b_drewN ?_ _ | refine Below.drew ?_ | refine b_ext' ?_ _ | refine b_alloc' ?_ _)))⟩
    · have hl2 : ¬ (300 : Int) < (s.size : Int) := by omega
      by_cases hv : Valid d
      · have HE := Lib.hid (makeE_yes hv)
        have HI := Lib.hid (makeI_yes hv)
        have HV1 := Lib.hid (make_valid hv)
        have HE2 := Lib.hid (makeE_yes (make_valid hv))
        have HI2 := Lib.hid ((makeI_yes (make_valid hv)).trans (make_make hv))
        have HRB := Lib.hid (rightB_true (make_valid hv))
        have HAF := Lib.hid (make_after hv HCL.out s.data.toList)
        have HML := Lib.hid (make_len d)
        have HHL := Lib.hid (heads_len hv)
        have hn2 := hv.2.1
        clear hv
        go_enter Try.func4, Try.ntmps4
        go_wp2_with (first | (refine load_dfa rfl _ rfl w.heap.size rfl A HS.out HIN.out.1 ?_) | (go_at_call 7; refine (HSM.out _ HIN.out).mono ?_; rintro e w' ⟨rfl, x, rfl⟩; rw [hsm]; have HIN1 := Lib.hid (HIN.out.up (ext_below _ x))) | (refine load_dfa rfl _ rfl w.heap.size rfl A HS.out HIN1.out.1 ?_))
        clear hsm HSM
        have hb0 : Below w.heap.size w (ext (w.alloc (.cells A 26)) x) := (by repeat (first | exact Below.refl _ _ | assumption | refine b_drewN ?_ _ | refine Below.drew ?_ | refine b_ext' ?_ _ | refine b_alloc' ?_ _))
        generalize ext (w.alloc (.cells A 26)) x = w1 at *
        have HB0 := Lib.hid hb0; clear hb0
        refine (makeP (.agg A) d w1 ⟨A, rfl, HIN1.out.2⟩).mono ?_
        rintro e w2 ⟨v2, rfl, ⟨C2, rfl, hv2⟩, hb2⟩
        rw [HE.out]
        rw [HI.out] at hv2
        have HV2 := Lib.hid hv2
        have HB2 := Lib.hid hb2
        have HS2 := Lib.hid hv2.hsize
        have HIN2 := Lib.hid (HIN1.out.up hb2)
        clear hv2 hb2
        go_wp2_with (first | (refine store_new rfl _ _ rfl w2.heap.size rfl C2 rfl HV2.out (HBN.out w2) ?_; intro w3 hg3 hgr3; have HN3 := Lib.hid (DfaIn.new HV2.out hg3 hgr3); clear hg3 hgr3) | (refine load_dfa rfl _ rfl w2.heap.size rfl C2 HS2.out HN3.out.1.1 ?_))
        refine (makeP (.agg C2) (makeD d) w3 ⟨C2, rfl, HN3.out.1.2⟩).mono ?_
        rintro e w4 ⟨v4, rfl, ⟨C4, rfl, hv4⟩, hb4⟩
        rw [HE2.out]
        rw [HI2.out] at hv4
        have HV4 := Lib.hid hv4
        have HB4 := Lib.hid hb4
        have HS4 := Lib.hid hv4.hsize
        clear hv4 hb4
        go_wp2_with (refine store_new rfl _ _ rfl w4.heap.size rfl C4 rfl HV4.out (HBN.out w4) ?_; intro w5 hg5 hgr5; have HN5 := Lib.hid (DfaIn.new HV4.out hg5 hgr5); clear hg5 hgr5)
        have h35 : Below w3.heap.size w3 w5 := HB4.out.trans (HN5.out.2.mono HB4.out.size)
        have h25 : Below w2.heap.size w2 w5 := HN3.out.2.trans (h35.mono HN3.out.2.size)
        have hin5 : DfaIn w5 w.heap.size A d := HIN2.out.up h25
        have him5 : DfaIn w5 w2.heap.size C2 (makeD d) := HN3.out.1.up h35
        have HI5 := Lib.hid hin5
        have HM5 := Lib.hid him5
        have HN5' := Lib.hid HN5.out.1
        have HW5 : Hid (Below w.heap.size w w5) := Lib.hid (HB0.out.trans ((HB2.out.trans (h25.mono HB2.out.size)).mono HB0.out.size))
        obtain ⟨oa1, cap1, hn1⟩ := dfa_len hin5.2
        obtain ⟨oa2, cap2, hn2'⟩ := dfa_len him5.2
        rw [HML.out] at hn2'
        have hc1 : w5.cell? ⟨w.heap.size, 256, none⟩ = some (.slice oa1 d.next.length cap1) := (cell_of_row w5 w.heap.size 256 A 26 (0, 0) hin5.1).trans hn1
        have hc2 : w5.cell? ⟨w2.heap.size, 256, none⟩ = some (.slice oa2 (heads d).length cap2) := (cell_of_row w5 w2.heap.size 256 C2 26 (0, 0) him5.1).trans hn2'
        have hs1 : w.heap.size < w5.heap.size := hin5.lt
        have hs2 : w2.heap.size < w5.heap.size := him5.lt
        have hle : ((heads d).length : Int) ≤ (d.next.length : Int) := by have := HHL.out; omega
        generalize hav : afterI d s.data.toList = av
        have HCR : Hid (∀ x, Calls Try.prog 17 #[.agg C2] (ext w5 x) fun e w' => e = .returned (.bool true) ∧ ∃ y, w' = ext (ext w5 x) y) := Lib.hid (fun x => by
          have h := rightR (.agg C2) (makeD d) (ext w5 x) ⟨C2, rfl, (HM5.out.up (ext_below _ x)).2⟩
          rwa [HRB.out] at h)
        have HCA : Hid (∀ x, Calls Try.prog 18 #[.agg C2, .string s] (ext w5 x) fun e w' => e = .returned (.int .i64 av) ∧ ∃ y, w' = ext (ext w5 x) y) := Lib.hid (fun x => by
          have h := after (.agg C2) (makeD d) s (ext w5 x) ⟨C2, rfl, (HM5.out.up (ext_below _ x)).2⟩ hs63
          rwa [HAF.out, hav] at h)
        have HCB : Hid (∀ x, Calls Try.prog 18 #[.agg A, .string s] (ext w5 x) fun e w' => e = .returned (.int .i64 av) ∧ ∃ y, w' = ext (ext w5 x) y) := Lib.hid (fun x => by
          have h := after (.agg A) d s (ext w5 x) ⟨A, rfl, (HI5.out.up (ext_below _ x)).2⟩ hs63
          rwa [hav] at h)
        have HCS : Hid (∀ x, Calls Try.prog 13 #[.agg C2, .agg C4] (ext w5 x) fun e w' => e = .returned (.bool true) ∧ ∃ y, w' = ext (ext w5 x) y) := Lib.hid (fun x =>
          same_same (.agg C2) (.agg C4) (makeD d) (ext w5 x) ⟨C2, rfl, (HM5.out.up (ext_below _ x)).2⟩ ⟨C4, rfl, (HN5'.out.up (ext_below _ x)).2⟩)
        have HCK : Hid (∀ x, Calls Try.prog 8 #[] (ext w5 x) fun e w' => e = .returned (.bool true) ∧ ∃ y, w' = ext (ext w5 x) y) := Lib.hid (fun x => known (ext w5 x))
        clear hav hn1 hn2' h35 h25 hin5 him5 HIN HIN1 HIN2 HN3 HN5 HV2 HV4 HB0 HB2 HB4 HBN hz HE HI HE2 HI2 HV1 HRB HAF HML HHL

        go_wp2

        refine wp_region_ext (by kernel_rfl) (by kernel_rfl) ?_

        repeat (first | (go_big_quiet_want; refine quiet_load_dfa _ rfl w.heap.size rfl A HS.out HI5.out.1 ?_; go_simp; go_big_quiet_on) | (go_big_quiet_want; refine quiet_load_dfa _ rfl w2.heap.size rfl C2 HS2.out HM5.out.1 ?_; go_simp; go_big_quiet_on) | (go_big_quiet_want; refine quiet_load_dfa _ rfl w4.heap.size rfl C4 HS4.out HN5'.out.1 ?_; go_simp; go_big_quiet_on) | go_big_quiet_step ((first | (go_at_call 17; with_reducible exact calls_in (HCR.out _)) | (go_at_call 18; with_reducible exact calls_in (HCA.out _)) | (go_at_call 18; with_reducible exact calls_in (HCB.out _)) | (go_at_call 13; with_reducible exact calls_in (HCS.out _)) | (go_at_call 8; with_reducible exact calls_in (HCK.out _)))))

        refine wpQuiet_nil ?_
        rintro w' ⟨x2, rfl⟩
        go_wp2
        go_ret
        exact ⟨rfl, ex_ext (b_ext' HW5.out x2)⟩
      · have HE := Lib.hid (makeE_no hv)
        have HRB := Lib.hid (rightB_false hv)
        clear hv
        go_enter Try.func4, Try.ntmps4
        go_wp2_with (first | (refine load_dfa rfl _ rfl w.heap.size rfl A HS.out HIN.out.1 ?_) | (go_at_call 7; refine (HSM.out _ HIN.out).mono ?_; rintro e w' ⟨rfl, x, rfl⟩; rw [hsm]; have HIN1 := Lib.hid (HIN.out.up (ext_below _ x))) | (refine load_dfa rfl _ rfl w.heap.size rfl A HS.out HIN1.out.1 ?_))
        clear hsm HSM
        have hb0 : Below w.heap.size w (ext (w.alloc (.cells A 26)) x) := (by repeat (first | exact Below.refl _ _ | assumption | refine b_drewN ?_ _ | refine Below.drew ?_ | refine b_ext' ?_ _ | refine b_alloc' ?_ _))
        generalize ext (w.alloc (.cells A 26)) x = w1 at *
        have HB0 := Lib.hid hb0; clear hb0
        refine (makeP (.agg A) d w1 ⟨A, rfl, HIN1.out.2⟩).mono ?_
        rintro e w2 ⟨v2, rfl, ⟨C2, rfl, hv2⟩, hb2⟩
        rw [HE.out]
        have HV2 := Lib.hid hv2
        have HB2 := Lib.hid hb2
        have HIN2 := Lib.hid (HIN1.out.up hb2)
        clear hv2 hb2
        go_wp2_with (first | (refine store_new rfl _ _ rfl w2.heap.size rfl C2 rfl HV2.out (HBN.out w2) ?_; intro w3 hg3 hgr3; have HN3 := Lib.hid (DfaIn.new HV2.out hg3 hgr3); have HIN3 := Lib.hid (HIN2.out.up HN3.out.2); clear hg3 hgr3) | (refine load_dfa rfl _ rfl w.heap.size rfl A HS.out HIN3.out.1 ?_))
        refine (rightR (.agg A) d w3 ⟨A, rfl, HIN3.out.2⟩).mono ?_
        rintro e w' ⟨rfl, x2, rfl⟩
        rw [HRB.out]
        go_wp2_with (fail)
        refine (known _).mono ?_
        rintro e w' ⟨rfl, x3, rfl⟩
        go_wp2
        go_ret
        have hw3 : Below w.heap.size w w3 := HB0.out.trans ((HB2.out.trans (HN3.out.2.mono HB2.out.size)).mono HB0.out.size)
        exact ⟨rfl, ex_ext (b_ext' (b_ext' hw3 x2) x3)⟩
end Go.Cm
