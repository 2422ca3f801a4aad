/- The walk of MiniApart. Conditions: the argument reads as an automaton. -/
import Derived.Test.YtjeclleophlliaaLawM
namespace Go.Cm
open Go.RowKit Go.Proofs

theorem make_reachI {d : Dfa} (hv : Valid d) : reachI (makeD d) = nl (List.range (heads d).length) := by
  rw [reachI_yes (make_valid hv), make_reach hv]

set_option maxRecDepth 100000 in
set_option maxHeartbeats 4000000 in
theorem miniApart (v : Value) (d : Dfa) (w : World) (h : DfaAt w v d) : Calls Try.prog 5 #[v] w fun e w' => e = .returned (.bool true) ∧ ∃ x, w' = ext w x := by
  obtain ⟨A, rfl, hv⟩ := h
  have HIN : Hid (DfaIn (w.alloc (.cells A 26)) w.heap.size A d) := Lib.hid ⟨heap_alloc_new w (.cells A 26), hv.up (below_alloc _ _)⟩
  have HS := Lib.hid hv.hsize
  have HSM := Lib.hid (fun W (hW : DfaIn W w.heap.size A d) => small (.agg A) d W ⟨A, rfl, hW.2⟩)
  clear hv
  have hz := zero_dfa
  obtain ⟨Z, hZ⟩ : ∃ Z, Z = zArr := ⟨_, rfl⟩
  rw [← hZ] at hz
  have HBN : Hid (∀ W : World, BoxD (W.alloc (.cells Z 26)) W.heap.size (.slice none 0 0) (.slice none 0 0) (List.replicate 256 0)) := Lib.hid (fun W => hZ ▸ box_new W)
  clear hZ
  cases hsm : smallB d with
  | false =>
    go_enter Try.func5, Try.ntmps5
    go_wp2_with (first | (refine load_dfa rfl _ rfl w.heap.size rfl A HS.out HIN.out.1 ?_) | (go_at_call 7; refine (HSM.out _ HIN.out).mono ?_; rintro e w' ⟨rfl, x, rfl⟩; rw [hsm]) | (go_at_call 8; refine (known _).mono ?_; rintro e w' ⟨rfl, x2, rfl⟩))
    go_ret
    exact ⟨rfl, (ex_ext (by repeat (first | exact Below.refl _ _ | assumption | refine b_drewN ?_ _ | refine Below.drew ?_ | refine b_ext' ?_ _ | refine b_alloc' ?_ _)))⟩
  | true =>
    have HLN : Hid ((makeI d).next.length ≤ 30) := Lib.hid (by
      by_cases hv : Valid d
      · rw [makeI_yes hv, make_len]
        have h1 := heads_len hv
        have h2 : d.next.length ≤ 30 := by
          have := hsm; unfold smallB at this; simp at this; omega
        omega
      · rw [makeI_no hv]; decide)
    by_cases hv : Valid d
    · have HE := Lib.hid (makeE_yes hv)
      have HI := Lib.hid (makeI_yes hv)
      have HML := Lib.hid (make_len d)
      have HAL := Lib.hid (make_alike hv)
      have HRE := Lib.hid (make_reachI hv)
      clear hv
      go_enter Try.func5, Try.ntmps5
      go_wp2_with (first | (refine load_dfa rfl _ rfl w.heap.size rfl A HS.out HIN.out.1 ?_) | (go_at_call 7; refine (HSM.out _ HIN.out).mono ?_; rintro e w' ⟨rfl, x, rfl⟩; rw [hsm]; have HIN1 := Lib.hid (HIN.out.up (ext_below _ x))) | (refine load_dfa rfl _ rfl w.heap.size rfl A HS.out HIN1.out.1 ?_))
      clear hsm HSM
      have hb0 : Below w.heap.size w (ext (w.alloc (.cells A 26)) x) := (by repeat (first | exact Below.refl _ _ | assumption | refine b_drewN ?_ _ | refine Below.drew ?_ | refine b_ext' ?_ _ | refine b_alloc' ?_ _))
      generalize ext (w.alloc (.cells A 26)) x = w1 at *
      have HB0 := Lib.hid hb0; clear hb0
      refine (makeP (.agg A) d w1 ⟨A, rfl, HIN1.out.2⟩).mono ?_
      rintro e w2 ⟨v2, rfl, ⟨C2, rfl, hv2⟩, hb2⟩
      rw [HE.out]
      rw [HI.out] at hv2 HLN
      have HV2 := Lib.hid hv2
      have HB2 := Lib.hid hb2
      have HS2 := Lib.hid hv2.hsize
      clear hv2 hb2
      go_wp2_with (first | (refine store_new rfl _ _ rfl w2.heap.size rfl C2 rfl HV2.out (HBN.out w2) ?_; intro w3 hg3 hgr3; have HN3 := Lib.hid (DfaIn.new HV2.out hg3 hgr3); clear hg3 hgr3) | (refine load_dfa rfl _ rfl w2.heap.size rfl C2 HS2.out HN3.out.1.1 ?_))
      refine (alikeP (.agg C2) (makeD d) w3 ⟨C2, rfl, HN3.out.1.2⟩).mono ?_
      rintro e w4 ⟨r4, rfl, hr4, hb4⟩
      have HIN4 := Lib.hid (HN3.out.1.up hb4)
      rw [HAL.out] at hr4
      have HR4 := Lib.hid hr4
      have HB4 := Lib.hid hb4
      clear hr4 hb4
      go_wp2_with (refine load_dfa rfl _ rfl w2.heap.size rfl C2 HS2.out HIN4.out.1 ?_)
      refine (reachedP (.agg C2) (makeD d) w4 ⟨C2, rfl, HIN4.out.2⟩).mono ?_
      rintro e w5 ⟨r5, rfl, hr5, hb5⟩
      rw [HRE.out] at hr5
      have HIN5 := Lib.hid (HIN4.out.up hb5)
      rw [HML.out] at HLN
      obtain ⟨oa2, cap2, hn2⟩ := dfa_len HIN5.out.2
      rw [HML.out] at hn2
      have HW5 : Hid (Below w.heap.size w w5) := Lib.hid (HB0.out.trans ((HB2.out.trans ((HN3.out.2.trans ((HB4.out.trans (hb5.mono HB4.out.size)).mono HN3.out.2.size)).mono HB2.out.size)).mono HB0.out.size))
      have hcn : w5.cell? ⟨w2.heap.size, 256, none⟩ = some (.slice oa2 (heads d).length cap2) := (cell_of_row w5 w2.heap.size 256 C2 26 (0, 0) HIN5.out.1).trans hn2
      have hs5 : w2.heap.size < w5.heap.size := HIN5.out.lt
      have HX4 : Hid (RowsAt w5 r4 ((List.range (heads d).length).map fun i => nl [i])) := Lib.hid (HR4.out.up hb5)
      have HR5 := Lib.hid hr5
      clear hr5 hb5 hn2 HR4 HIN HIN1 HIN4 HIN5 HN3 HV2 HB0 HB2 HB4 HBN HAL HRE HML HI HE hz
      obtain ⟨ox, cx, bx, fx, rfl, hdx, hrx⟩ := HX4.out.open
      obtain ⟨oy, cy, by_, fy, rfl, hdy, hry⟩ := HR5.out.open
      have hl1 : ((List.range (heads d).length).map fun i => nl [i]).length = (heads d).length := by simp
      have hl2 : (nl (List.range (heads d).length)).length = (heads d).length := by simp
      rw [hl1] at hdx hrx ⊢
      rw [hl2] at hdy hry ⊢
      have HRX : Hid (∀ i, i < (heads d).length → ∃ oi ci bi fi, w5.cell? ⟨bx, fx + i, none⟩ = some (.slice oi 1 ci) ∧ Hd w5 oi 1 ci bi fi ∧ w5.cell? ⟨bi, fi, none⟩ = some (.int .i64 (i : Int))) := Lib.hid (fun i hi => by
        obtain ⟨oi, ci, bi, fi, h1, h2, h3, -⟩ := hrx i hi
        have e : ((List.range (heads d).length).map fun i => nl [i]).getD i [] = [(i : Int)] := by simp [List.getD, hi, nl]
        rw [e] at h1 h2 h3
        have h4 := h3 0 (by simp)
        exact ⟨oi, ci, bi, fi, h1, h2, by simpa using h4⟩)
      have HRY : Hid (∀ i, i < (heads d).length → w5.cell? ⟨by_, fy + i, none⟩ = some (.int .i64 (i : Int))) := Lib.hid (fun i hi => by
        have h3 := hry i hi
        rw [nl_getD] at h3
        simpa [List.getD, hi] using h3)
      clear hrx hry hl1 hl2 HX4 HR5
      generalize (heads d).length = n at *
      have hn30 : n ≤ 30 := HLN.out
      have HDX := Lib.hid hdx
      have HDY := Lib.hid hdy
      have hixx := index_any (P := Try.prog) 23 24 Try.underlying23 (by kernel_rfl) hdx
      have hixy := index_any (P := Try.prog) 24 3 Try.underlying24 (by kernel_rfl) hdy
      clear hdx hdy
      go_wp2
      go_loopg [7] (n + 1) (fun gk i wr => ∃ k : Nat, k ≤ n ∧ i = .int .i64 k ∧ wr = w5 ∧ gk = n + 1 - k)
      case atStart => exact ⟨0, Nat.zero_le _, rfl, rfl, rfl⟩
      case round =>
        obtain ⟨k, hk, rfl, rfl, rfl⟩ := hrel
        by_cases hlt : k < n
        · obtain ⟨oi, ci, bi, fi, hck, hdk, hc0⟩ := HRX.out k hlt
          have hry := HRY.out k hlt
          have hbx := HDX.out.hblk (by omega)
          have hby := HDY.out.hblk (by omega)
          have hbi := hdk.hblk (by omega)
          have hixk : ∀ W : World, (Instr.indexAt 24 (.slice oi 1 ci) (.int .i64 0)).run Try.prog W = .ok (.pointer (some ⟨bi, fi, none⟩)) W := fun W => by
            have h := index_any (P := Try.prog) 24 3 Try.underlying24 (by kernel_rfl) hdk W .i64 0 (by decide) (by decide)
            simpa using h
          have hne : ((k : Int) != (k : Int)) = false := by simp
          clear hdk
          go_wp2
          go_roundg (n + 1 - (k + 1))
          case measure => omega
          case rel => exact ⟨k + 1, by omega, by go_num, rfl, rfl⟩
        · go_wp2_with (go_at_call 8; refine (known _).mono ?_; rintro e w' ⟨rfl, x2, rfl⟩)
          go_ret
          exact ⟨rfl, ex_ext (b_ext' HW5.out x2)⟩
    · have HE := Lib.hid (makeE_no hv)
      have HI := Lib.hid (makeI_no hv)
      clear hv
      go_enter Try.func5, Try.ntmps5
      go_wp2_with (first | (refine load_dfa rfl _ rfl w.heap.size rfl A HS.out HIN.out.1 ?_) | (go_at_call 7; refine (HSM.out _ HIN.out).mono ?_; rintro e w' ⟨rfl, x, rfl⟩; rw [hsm]; have HIN1 := Lib.hid (HIN.out.up (ext_below _ x))) | (refine load_dfa rfl _ rfl w.heap.size rfl A HS.out HIN1.out.1 ?_))
      clear hsm HSM
      have hb0 : Below w.heap.size w (ext (w.alloc (.cells A 26)) x) := (by repeat (first | exact Below.refl _ _ | assumption | refine b_drewN ?_ _ | refine Below.drew ?_ | refine b_ext' ?_ _ | refine b_alloc' ?_ _))
      generalize ext (w.alloc (.cells A 26)) x = w1 at *
      have HB0 := Lib.hid hb0; clear hb0
      refine (makeP (.agg A) d w1 ⟨A, rfl, HIN1.out.2⟩).mono ?_
      rintro e w2 ⟨v2, rfl, ⟨C2, rfl, hv2⟩, hb2⟩
      rw [HE.out]
      rw [HI.out] at hv2
      have HV2 := Lib.hid hv2
      have HB2 := Lib.hid hb2
      clear hv2 hb2
      go_wp2_with (refine store_new rfl _ _ rfl w2.heap.size rfl C2 rfl HV2.out (HBN.out w2) ?_; intro w3 hg3 hgr3; have HN3 := Lib.hid (DfaIn.new HV2.out hg3 hgr3); obtain ⟨oa2, cap2, hn2⟩ := dfa_len HN3.out.1.2; have hcn : w3.cell? ⟨w2.heap.size, 256, none⟩ = some (.slice oa2 0 cap2) := (cell_of_row w3 w2.heap.size 256 C2 26 (0, 0) HN3.out.1.1).trans hn2; have hs3 : w2.heap.size < w3.heap.size := HN3.out.1.lt; clear hg3 hgr3 hn2)
      refine (known w3).mono ?_
      rintro e w' ⟨rfl, x2, rfl⟩
      go_wp2
      go_ret
      have hw3 : Below w.heap.size w w3 := HB0.out.trans ((HB2.out.trans (HN3.out.2.mono HB2.out.size)).mono HB0.out.size)
      exact ⟨rfl, ex_ext (b_ext' hw3 x2)⟩
end Go.Cm
