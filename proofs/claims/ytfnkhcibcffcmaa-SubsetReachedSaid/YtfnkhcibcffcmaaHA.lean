/- Texts of this claim, joined: walks of small functions and plain facts about them. Conditions: as each says. -/
import Derived.Test.YtfnkhcibcffcmaaGY
import Derived.Test.YtfnkhcibcffcmaaGL
import Derived.Test.YtfnkhcibcffcmaaGP
/- The walk of SubsetReached. Conditions: the edges' sets are words. -/
namespace Go.Cm
open Go.RowKit Go.Proofs

/-- what the automaton without choices is, where there is one, and where there is none -/
theorem sub_cases (e : List (List Ed)) (F : Int) (r : List Int) : (subE e F r = 0 ∧ rightN e F r = true ∧ ∃ R, listsN e F r = some R ∧ subI e F r = dfaS e F r R) ∨ ((subE e F r = 3 ∨ subE e F r = 4) ∧ subI e F r = zeroD) := by
  unfold subE subI
  by_cases h : rightN e F r = true
  · rw [if_pos h, if_pos h]
    cases hl : listsN e F r with
    | some R => exact .inl ⟨rfl, h, R, rfl, rfl⟩
    | none => exact .inr ⟨.inl rfl, rfl⟩
  · rw [if_neg h, if_neg h]
    exact .inr ⟨.inr rfl, rfl⟩
/-- how many states have been met, where the walk stands at a column of a row -/
noncomputable def cntC (e : List (List Ed)) (F : Int) (r : List Int) (R : List (List Nat)) (i j : Nat) : Nat := (curS (nxtN e F r) (cloN e F r [F]) [] R i j).length
noncomputable def cntS (e : List (List Ed)) (F : Int) (r : List Int) (R : List (List Nat)) (i : Nat) : Nat := (stS (nxtN e F r) (cloN e F r [F]) (R.take i)).length
structure MetC (R : Nat) (row : Nat → List Int) (S : Nat → Nat) (C : Nat → Nat → Nat) : Prop where
  s0 : S 0 = 1
  more : ∀ i, i < R → i < S i
  all : S R = R
  c0 : ∀ i, C i 0 = S i
  cE : ∀ i, i < R → C i (row i).length = S (i + 1)
  step : ∀ i j, i < R → j < (row i).length → ((row i).getD j 0 < C i j ∧ C i (j + 1) = C i j) ∨ ((row i).getD j 0 = C i j ∧ C i (j + 1) = C i j + 1)
  le : ∀ i j, i < R → C i j ≤ R
theorem met_c {e : List (List Ed)} {F : Int} {r : List Int} {R : List (List Nat)} (h : listsN e F r = some R) :
    MetC R.length (fun i => (dfaS e F r R).next.getD i []) (cntS e F r R) (cntC e F r R) := by
  have hm := lists_met h
  have hrow : ∀ i, i < R.length → (dfaS e F r R).next.getD i [] = rowS e F r R (R.getD i []) := fun i hi => by simp [dfaS, List.getD, hi]
  have hlen : ∀ L, (rowS e F r R L).length = (nxtN e F r L).length := fun L => by simp [rowS]
  refine ⟨by simp [cntS, stS, uniq, addNew], fun i hi => hm.more i hi, ?_, fun i => rfl, fun i hi => ?_, fun i j hi hj => ?_, fun i j hi => ?_⟩
  · unfold cntS
    rw [List.take_length, hm.all]
  · rw [hrow i hi, hlen]
    exact congrArg List.length (MetS.endCur (z := []) hi)
  · rw [hrow i hi] at hj ⊢
    rw [hlen] at hj
    have hg : (rowS e F r R (R.getD i [])).getD j 0 = (idx R ((nxtN e F r (R.getD i [])).getD j []) : Int) := by
      unfold rowS
      generalize nxtN e F r (R.getD i []) = l at hj ⊢
      simp [List.getD, hj]
    rw [hg]
    obtain ⟨h1, h2⟩ := hm.step (z := []) hi hj
    unfold cntC
    by_cases hx : (nxtN e F r (R.getD i [])).getD j [] ∈ curS (nxtN e F r) (cloN e F r [F]) [] R i j
    · obtain ⟨h3, h4⟩ := h1 hx
      exact .inl ⟨by omega, h4⟩
    · obtain ⟨h3, h4⟩ := h2 hx
      exact .inr ⟨by omega, h4⟩
  · obtain ⟨k, hk⟩ := hm.cur (z := []) hi j
    have := congrArg List.length hk
    rw [List.length_append] at this
    unfold cntC
    omega
set_option maxRecDepth 100000 in
set_option maxHeartbeats 8000000 in
theorem subsetReached {w : World} {A : Array Value} {e : List (List Ed)} {F : Int} {r : List Int} (h : NfaV w A e F r) (hw : ∀ a x, x ∈ Row e a → EdW x) :
    Calls Try.prog 5 #[.agg A] w fun en w' => en = .returned (.bool true) ∧ ∃ x, w' = ext w x := by
  have HKN := Lib.hid (fun (x : World) => known19 (w := x))
  have HH := Lib.hid h
  have HEW := Lib.hid hw
  obtain ⟨ve, vr, rfl, he, hr⟩ := h
  obtain ⟨oe, ce, be, fe, rfl, -, -⟩ := he.open
  obtain ⟨orr, cr, br, fr, rfl, -, -⟩ := hr.open
  obtain ⟨n, hn⟩ : ∃ n, n = e.length := ⟨_, rfl⟩
  obtain ⟨m, hm⟩ : ∃ m, m = r.length := ⟨_, rfl⟩
  rw [← hn, ← hm] at HH ⊢
  have hz := zero_dfa
  obtain ⟨Z, hZ⟩ : ∃ Z, Z = zArr := ⟨_, rfl⟩
  rw [← hZ] at hz
  have HBN : Hid (∀ W : World, BoxD (W.alloc (.cells Z 33)) W.heap.size (.slice none 0 0) (.slice none 0 0) (List.replicate 256 0)) := Lib.hid (fun W => hZ ▸ box_new W)
  clear he hr hn hm hZ hw
  have HA := Lib.hid (below_alloc w (.cells #[.slice oe n ce, .int .i64 F, .slice orr m cr] 25))
  have HSM := Lib.hid (smallN (HH.out.up HA.out))
  have HBX := Lib.hid (by simpa using own_lit w 0 #[.slice oe n ce, .int .i64 F, .slice orr m cr] 25 (by simp) (Nat.zero_le _) : Own (w.alloc (.cells #[.slice oe n ce, .int .i64 F, .slice orr m cr] 25)) 0 25 (.slice (some ⟨w.heap.size, 0, none⟩) 3 3) [.slice oe n ce, .int .i64 F, .slice orr m cr])
  go_enter Try.func5, Try.ntmps5
  by_cases hn8 : 8 < n
  · go_wp2_with (first
      | ((with_reducible go_at_call 6); refine HSM.out.mono ?_; rintro en w1 ⟨⟨b, rfl, -⟩, x1, rfl⟩; have HB1 := Lib.hid (HA.out.trans ((ext_below _ x1).mono HA.out.size)); have HBX1 := Lib.hid (HBX.out.up (ext_below _ x1)); generalize ext (w.alloc (.cells #[.slice oe n ce, .int .i64 F, .slice orr m cr] 25)) x1 = w1 at *; have c0 := HBX1.out.cell (i := 0) (by simp); simp only [List.getD_cons_zero] at c0; have hp := HBX1.out.blk.2; cases b)
      | ((with_reducible go_at_call 7); refine (HKN.out _).mono ?_; rintro en w2 ⟨rfl, x2, rfl⟩))
    all_goals
      go_ret
      exact ⟨rfl, ex_ext (HB1.out.trans ((ext_below w1 x2).mono HB1.out.size))⟩
  go_upto_region 3 with (first
      | ((with_reducible go_at_call 6); refine HSM.out.mono ?_; rintro en w1 ⟨⟨b, rfl, hsm⟩, x1, rfl⟩; have HSB := Lib.hid hsm; clear hsm; have HB1 := Lib.hid (HA.out.trans ((ext_below _ x1).mono HA.out.size)); have HBX1 := Lib.hid (HBX.out.up (ext_below _ x1)); generalize ext (w.alloc (.cells #[.slice oe n ce, .int .i64 F, .slice orr m cr] 25)) x1 = w1 at *; have c0 := HBX1.out.cell (i := 0) (by simp); simp only [List.getD_cons_zero] at c0; have hp := HBX1.out.blk.2; cases b)
      | ((with_reducible go_at_call 7); refine (HKN.out _).mono ?_; rintro en w2 ⟨rfl, x2, rfl⟩))
  · go_ret
    exact ⟨rfl, ex_ext (HB1.out.trans ((ext_below w1 x2).mono HB1.out.size))⟩
  have HTOT := Lib.hid (HSB.out trivial).1
  obtain ⟨p, hp0⟩ : ∃ p, p = w.heap.size := ⟨_, rfl⟩
  rw [← hp0] at HBX1 ⊢
  clear hp0
  have HSP := Lib.hid (subMakeP (HH.out.up HB1.out) HEW.out (by have := HTOT.out; omega))
  unfold RetSub at HSP
  clear HH HEW HTOT HSB HSM HBX HA c0 hp hn8
  rcases sub_cases e F r with ⟨hE, hR, R, hl, hI⟩ | ⟨hE, hI⟩
  · rw [hE, hI] at HSP
    have hval := dfaS_valid hR hl
    have hmet := met_c hl
    have hrl : (dfaS e F r R).next.length = R.length := by simp [dfaS]
    generalize cntS e F r R = S at *
    generalize cntC e F r R = C at *
    generalize dfaS e F r R = D at *
    have HVAL := Lib.hid (rightB_true hval)
    have HMET := Lib.hid hmet
    obtain ⟨k, hk⟩ : ∃ k, k = R.length := ⟨_, rfl⟩
    rw [← hk] at hrl HMET
    have HRL := Lib.hid hrl
    clear hE hR hl hI hval hmet hrl hk R
    go_upto_region 4 with (first
      | (refine wpList_load_cells rfl 25 _ rfl p 0 3 rfl _ _ (nfaBox HBX1.out) rfl Try.underlying25 rfl (by kernel_rfl) ?_)
      | ((with_reducible go_at_call 10); (with_reducible refine HSP.out.mono ?_); rintro en w3 ⟨v3, rfl, ⟨C3, rfl, hv3⟩, hb3⟩; have HV3 := Lib.hid hv3; have HB3 := Lib.hid hb3; clear hv3 hb3)
      | (refine store_new rfl _ _ rfl w3.heap.size rfl C3 rfl HV3.out (HBN.out w3) ?_; intro w4 hg4 hgr4; have HN4 := Lib.hid (DfaIn.new HV3.out hg4 hgr4); clear hg4 hgr4))
    have HB4 := Lib.hid (HB1.out.trans ((HB3.out.trans (HN4.out.2.mono HB3.out.size)).mono HB1.out.size))
    have HD4 := Lib.hid HN4.out.1
    clear HSP HBX1 HN4 HB3 HV3 HBN hz HB1
    generalize w3.heap.size = q at *
    have HRT := Lib.hid (rightRD (.agg C3) D w4 ⟨C3, rfl, HD4.out.2⟩)
    rw [HVAL.out] at HRT
    have HS4 := Lib.hid HD4.out.2.hsize
    go_upto_region 8 with (first
      | (refine load_dfa rfl _ rfl q rfl C3 HS4.out HD4.out.1 ?_)
      | ((with_reducible go_at_call 16); (with_reducible refine HRT.out.mono ?_); rintro en w5 ⟨rfl, x5, rfl⟩))
    have HB5 := Lib.hid (HB4.out.trans ((ext_below w4 x5).mono HB4.out.size))
    have HD5 := Lib.hid (HD4.out.up (ext_below w4 x5))
    clear HRT HD4 HB4 HS4
    generalize ext w4 x5 = w5 at *
    obtain ⟨vn, hn256, hrows⟩ := HD5.out.2.hnext
    have hcn : w5.cell? ⟨q, 256, none⟩ = some vn := (cell_of_row w5 q 256 C3 33 (0, 0) HD5.out.1).trans hn256
    have hq5 : q < w5.heap.size := HD5.out.lt
    obtain ⟨on, cn, bn, fn, rfl, hdn, hrs⟩ := hrows.open
    rw [HRL.out] at hcn hdn hrs
    have hix := index_any (P := Try.prog) 31 23 Try.underlying31 (by kernel_rfl) hdn
    have hbn := hdn.hblk
    have hkl := hdn.len
    have HRS := Lib.hid hrs
    clear hrs hrows hn256 hdn
    have HS0 := Lib.hid HMET.out.s0
    go_upto_region 10 with (fail)
    go_loopg [5, 6] k (fun gk nx iv wr => ∃ i : Nat, nx = .int .i64 (S i : Nat) ∧ iv = .int .i64 i ∧ i ≤ k ∧ Below w5.heap.size w5 wr ∧ gk = k - i)
    case atStart => exact ⟨0, by rw [HS0.out]; rfl, rfl, Nat.zero_le _, Below.refl _ _, rfl⟩
    case round =>
      obtain ⟨i, rfl, rfl, hi, hbl, rfl⟩ := hrel
      have HW := Lib.hid hbl
      have hcw := (hbl.cell (p := ⟨q, 256, none⟩) hq5).trans hcn
      have hqw : q < wr.heap.size := by have := hbl.size; omega
      clear hbl
      by_cases hlt : i < k
      · have hmore := HMET.out.more i hlt
        obtain ⟨oi, ci, bi, fi, hci, hdi, hcj, -⟩ := HRS.out i hlt
        have HCE := Lib.hid (HMET.out.cE i hlt)
        have HC0 := Lib.hid (HMET.out.c0 i)
        have HST := Lib.hid (fun j => HMET.out.step i j hlt)
        have HLE := Lib.hid (fun j => HMET.out.le i j hlt)
        obtain ⟨row, hrow⟩ : ∃ row, row = D.next.getD i [] := ⟨_, rfl⟩
        simp only [← hrow] at hci hdi hcj HCE HST
        have hb := hbn (by omega)
        have hcw1 := (HW.out.cell (p := ⟨bn, fn + i, none⟩) hb).trans hci
        have hixi := fun W => hix W .i64 (i : Int) (by omega) (by omega)
        simp only [Int.toNat_natCast] at hixi
        have hixj := index_int hdi
        have hbi := hdi.hblk
        have hml := hdi.len
        have HCJ := Lib.hid hcj
        obtain ⟨L, hL⟩ : ∃ L, L = row.length := ⟨_, rfl⟩
        simp only [← hL] at hcw1 hixj hbi hml HCJ HCE HST
        have d1 : decide (S i ≤ i) = false := decide_eq_false (by omega)
        have hmi : ¬ S i ≤ i := by omega
        clear hrow hci hdi hcj hL hmore
        go_upto_region 15 with (fail)
        go_loopg [5, 7] L (fun gk nx jv wx => ∃ j : Nat, nx = .int .i64 (C i j : Nat) ∧ jv = .int .i64 j ∧ j ≤ L ∧ Below w5.heap.size w5 wx ∧ gk = L - j)
        case atStart => exact ⟨0, by rw [HC0.out], rfl, Nat.zero_le _, HW.out, rfl⟩
        case round =>
          obtain ⟨j, rfl, rfl, hj, hbl, rfl⟩ := hrel
          have HW2 := Lib.hid hbl
          have hcx := (hbl.cell (p := ⟨q, 256, none⟩) hq5).trans hcn
          have hqx : q < wr.heap.size := by have := hbl.size; omega
          clear hbl
          have hcx1 := (HW2.out.cell (p := ⟨bn, fn + i, none⟩) hb).trans ((HW.out.cell (p := ⟨bn, fn + i, none⟩) hb).symm.trans hcw1)
          have hbx1 : bn < wr.heap.size := by have := HW2.out.size; omega
          by_cases hlj : j < L
          · have hbj := hbi (by omega)
            have hcx2 := (HW2.out.cell (p := ⟨bi, fi + j, none⟩) hbj).trans (HCJ.out j hlj)
            have hbx2 : bi < wr.heap.size := by have := HW2.out.size; omega
            have hixjj := fun W => hixj W j hlj
            have hst := HST.out j hlj
            have hle := HLE.out j
            generalize row.getD j 0 = y at *
            rcases hst with ⟨h1, h2⟩ | ⟨h1, h2⟩
            · have H2 := Lib.hid h2
              have d2 : decide ((C i j : Int) < y) = false := by simp; omega
              have d3 : (y == (C i j : Int)) = false := by simp; omega
              clear h2
              go_wp2
              go_roundg (L - (j + 1))
              case measure => omega
              case rel => exact ⟨j + 1, by rw [H2.out], by go_num, by omega, HW2.out, rfl⟩
            · have H2 := Lib.hid h2
              subst h1
              have hle1 : C i j + 1 ≤ k := by have := HLE.out (j + 1); omega
              have d2 : decide ((C i j : Int) < (C i j : Int)) = false := by simp
              have d3 : ((C i j : Int) == (C i j : Int)) = true := by simp
              clear h2
              go_wp2
              go_roundg (L - (j + 1))
              case measure => omega
              case rel => exact ⟨j + 1, by rw [H2.out]; go_num, by go_num, by omega, HW2.out, rfl⟩
          · have hje : j = L := by omega
            subst hje
            rw [HCE.out]
            go_wp2
            go_roundg (k - (i + 1))
            case measure => omega
            case rel => exact ⟨i + 1, rfl, by go_num, by omega, HW2.out, rfl⟩
      · have hie : i = k := by omega
        subst hie
        rw [HMET.out.all]
        go_wp2_with ((with_reducible go_at_call 7); refine (HKN.out _).mono ?_; rintro en w9 ⟨rfl, x9, rfl⟩)
        go_ret
        exact ⟨rfl, ex_ext (HB5.out.trans ((HW.out.trans ((ext_below _ x9).mono HW.out.size)).mono HB5.out.size))⟩
  · have hE' : (subE e F r == 0) = false := by rcases hE with h | h <;> rw [h] <;> rfl
    have hE2 : (subE e F r != 0) = true := by rcases hE with h | h <;> rw [h] <;> rfl
    rw [hI] at HSP
    generalize subE e F r = E at *
    clear hE hI
    go_upto_region 4 with (first
      | (refine wpList_load_cells rfl 25 _ rfl p 0 3 rfl _ _ (nfaBox HBX1.out) rfl Try.underlying25 rfl (by kernel_rfl) ?_)
      | ((with_reducible go_at_call 10); (with_reducible refine HSP.out.mono ?_); rintro en w3 ⟨v3, rfl, ⟨C3, rfl, hv3⟩, hb3⟩; have HV3 := Lib.hid hv3; have HB3 := Lib.hid hb3; clear hv3 hb3)
      | (refine store_new rfl _ _ rfl w3.heap.size rfl C3 rfl HV3.out (HBN.out w3) ?_; intro w4 hg4 hgr4; have HN4 := Lib.hid (DfaIn.new HV3.out hg4 hgr4); clear hg4 hgr4))
    have HB4 := Lib.hid (HB1.out.trans ((HB3.out.trans (HN4.out.2.mono HB3.out.size)).mono HB1.out.size))
    obtain ⟨oz, cz, hz256⟩ := dfa_len HN4.out.1.2
    have hcn : w4.cell? ⟨w3.heap.size, 256, none⟩ = some (.slice oz 0 cz) := (cell_of_row w4 w3.heap.size 256 C3 33 (0, 0) HN4.out.1.1).trans hz256
    have hq4 : w3.heap.size < w4.heap.size := HN4.out.1.lt
    clear HSP HBX1 HN4 HB3 HV3 HBN hz HB1 hz256
    go_wp2_with ((with_reducible go_at_call 7); refine (HKN.out _).mono ?_; rintro en w9 ⟨rfl, x9, rfl⟩)
    go_ret
    exact ⟨rfl, ex_ext (HB4.out.trans ((ext_below _ x9).mono HB4.out.size))⟩
end Go.Cm

/- The walk of SubsetSame. Conditions: none. -/
namespace Go.Cm
open Go.RowKit Go.Proofs

theorem subE_right {e : List (List Ed)} {F : Int} {r : List Int} (h : rightN e F r = true) : subE e F r ≠ 4 := by
  unfold subE
  rw [if_pos h]
  split <;> decide
set_option maxRecDepth 100000 in
set_option maxHeartbeats 8000000 in
theorem subsetSame {w : World} {v : Value} {ll : List (List Nd)} (h : TreesAt w v ll) (hq : TreesQ ll) (s : ByteArray) (hs63 : s.size ≤ 140737488351232) :
    Calls Try.prog 4 #[v, .string s] w fun e w' => e = .returned (.bool true) ∧ ∃ x, w' = ext w x := by
  have HKN := Lib.hid (fun (x : World) => known19 (w := x))
  have HFEW := Lib.hid (fewR h 150)
  have HTR := Lib.hid h
  obtain ⟨oa, cap, b, off, rfl, hd, hc⟩ := h.open
  obtain ⟨ln, hln⟩ : ∃ ln, ln = ll.length := ⟨_, rfl⟩
  rw [← hln] at HTR HFEW ⊢
  have HLN := Lib.hid hln
  have hz := zero_dfa
  obtain ⟨Z, hZ⟩ : ∃ Z, Z = zArr := ⟨_, rfl⟩
  rw [← hZ] at hz
  have HBN : Hid (∀ W : World, BoxD (W.alloc (.cells Z 33)) W.heap.size (.slice none 0 0) (.slice none 0 0) (List.replicate 256 0)) := Lib.hid (fun W => hZ ▸ box_new W)
  have HQ := Lib.hid hq
  clear hd hc h hq hln hZ
  go_enter Try.func4, Try.ntmps4
  by_cases hs20 : 20 < s.size
  · go_wp2_with (first
      | ((with_reducible go_at_call 13); refine HFEW.out.mono ?_; rintro en w1 ⟨⟨bf, rfl⟩, x1, rfl⟩; cases bf)
      | ((with_reducible go_at_call 7); refine (HKN.out _).mono ?_; rintro en w2 ⟨rfl, x2, rfl⟩))
    all_goals
      go_ret
      exact ⟨rfl, ex_ext (b_ext' (ext_below w x1) x2)⟩
  go_upto_region 3 with (first
    | ((with_reducible go_at_call 13); refine HFEW.out.mono ?_; rintro en w1 ⟨⟨bf, rfl⟩, x1, rfl⟩; cases bf)
    | ((with_reducible go_at_call 7); refine (HKN.out _).mono ?_; rintro en w2 ⟨rfl, x2, rfl⟩))
  · go_ret
    exact ⟨rfl, ex_ext (b_ext' (ext_below w x1) x2)⟩
  have HB1 := Lib.hid (ext_below w x1)
  clear HFEW
  generalize ext w x1 = w1 at *
  have HMK := Lib.hid (makeP (HTR.out.up HB1.out))
  by_cases h0 : mayL ll = 0
  · have hm := made h0 HQ.out
    have hmay := may_ok h0
    have hT : ∃ T, runN (mkS ll ll.length).e 0 (mkS ll ll.length).r (txt s) = T ∧ setL ll.length (fun k => langL (ll.getD k []) (txt s)) = T := ⟨_, hm.run (txt s), rfl⟩
    obtain ⟨T, hT1, hT2⟩ := hT
    have HME := Lib.hid (fun (x : World) (hx : Below w.heap.size w x) => matchingR (HTR.out.up hx) hmay.1 HQ.out hmay.2.2.1 s (by omega))
    rw [hT2] at HME
    have hrt := hm.right
    have hfew := hm.few
    have hedw : ∀ a x, x ∈ Row (mkS ll ll.length).e a → EdW x := fun a x hx => (hm.edq a x hx).2
    rw [h0] at HMK
    clear hm hmay hT2
    generalize (mkS ll ll.length).e = e at *
    generalize (mkS ll ll.length).r = r at *
    have HT1 := Lib.hid hT1
    have HEW := Lib.hid hedw
    have HRT := Lib.hid hrt
    clear hT1 hedw hrt
    go_upto_region 4 with ((with_reducible go_at_call 14); refine HMK.out.mono ?_; rintro en w3 ⟨A, rfl, h1, -, hb⟩; obtain ⟨ve, vr, rfl, he, hr⟩ := h1 rfl; have HV := Lib.hid (show NfaV w3 #[ve, .int .i64 0, vr] e 0 r from ⟨ve, vr, rfl, he, hr⟩); have HB3 := Lib.hid (HB1.out.trans (hb.mono HB1.out.size)); obtain ⟨oe, ce, be, fe, rfl, -, -⟩ := he.open; obtain ⟨orr, cr, br, fr, rfl, -, -⟩ := hr.open; clear he hr hb h1)
    obtain ⟨el, hel⟩ : ∃ el, el = e.length := ⟨_, rfl⟩
    obtain ⟨rl, hrl⟩ : ∃ rl, rl = r.length := ⟨_, rfl⟩
    rw [← hrl, ← hel] at HV ⊢
    clear hrl hel HMK
    have HA4 := Lib.hid (below_alloc w3 (.cells #[.slice oe el ce, .int .i64 0, .slice orr rl cr] 25))
    have HBX := Lib.hid (by simpa using own_lit w3 0 #[.slice oe el ce, .int .i64 0, .slice orr rl cr] 25 (by simp) (Nat.zero_le _) : Own (w3.alloc (.cells #[.slice oe el ce, .int .i64 0, .slice orr rl cr] 25)) 0 25 (.slice (some ⟨w3.heap.size, 0, none⟩) 3 3) [.slice oe el ce, .int .i64 0, .slice orr rl cr])
    have HV4 := Lib.hid (HV.out.up HA4.out)
    have HB4 := Lib.hid (HB3.out.trans (HA4.out.mono HB3.out.size))
    clear HA4 HV HB3
    generalize w3.alloc (.cells #[.slice oe el ce, .int .i64 0, .slice orr rl cr] 25) = w4 at *
    generalize w3.heap.size = p at *
    have HSP := Lib.hid (subMakeP HV4.out HEW.out (by omega))
    unfold RetSub at HSP
    have hne := subE_right HRT.out
    have hsc := sub_cases e 0 r
    rcases hsc with ⟨hE, hR, R, hl, hI⟩ | ⟨hE, hI⟩
    · rw [hE, hI] at HSP
      have HVAL := Lib.hid (rightB_true (dfaS_valid hR hl))
      have HAT := Lib.hid (after_told hR hl s.data.toList)
      rw [show (s.data.toList.map UInt8.toNat) = txt s from rfl, HT1.out] at HAT
      generalize dfaS e 0 r R = D at *
      clear hne hE hR hl hI HRT HT1 HEW HV4
      go_upto_region 7 with (first
        | (refine wpList_load_cells rfl 25 _ rfl p 0 3 rfl _ _ (nfaBox HBX.out) rfl Try.underlying25 rfl (by kernel_rfl) ?_)
        | ((with_reducible go_at_call 10); (with_reducible refine HSP.out.mono ?_); rintro en w5 ⟨v5, rfl, ⟨C5, rfl, hv5⟩, hb5⟩; have HV5 := Lib.hid hv5; have HB5 := Lib.hid hb5; clear hv5 hb5)
        | (refine store_new rfl _ _ rfl w5.heap.size rfl C5 rfl HV5.out (HBN.out w5) ?_; intro w6 hg6 hgr6; have HN6 := Lib.hid (DfaIn.new HV5.out hg6 hgr6); clear hg6 hgr6))
      have HB6 := Lib.hid (HB4.out.trans ((HB5.out.trans (HN6.out.2.mono HB5.out.size)).mono HB4.out.size))
      have HD6 := Lib.hid HN6.out.1
      have HM6 := Lib.hid (HME.out w6 HB6.out)
      clear HSP HBX HN6 HB5 HV5 HBN hz HB4 HME HB1
      generalize w5.heap.size = q at *
      go_upto_region 11 with ((with_reducible go_at_call 15); (with_reducible refine HM6.out.mono ?_); rintro en w7 ⟨u, rfl, hu, x7, rfl⟩; have HU := Lib.hid hu; clear hu)
      have HB7 := Lib.hid (HB6.out.trans ((ext_below w6 x7).mono HB6.out.size))
      have HD7 := Lib.hid (HD6.out.up (ext_below w6 x7))
      clear HD6 HM6
      generalize ext w6 x7 = w7 at *
      have HRD := Lib.hid (rightRD (.agg C5) D w7 ⟨C5, rfl, HD7.out.2⟩)
      rw [HVAL.out] at HRD
      have HAF := Lib.hid (fun (x : World) (hx : Below w7.heap.size w7 x) => after (.agg C5) D s x ⟨C5, rfl, (HD7.out.up hx).2⟩ hs63)
      rw [HAT.out] at HAF
      have HC5 := Lib.hid HD7.out.2.hsize
      cases T with
      | nil =>
        obtain ⟨ou, cu, bu, fu, rfl, hdu, -⟩ := HU.out.open
        rw [show (nz []).length = 0 from rfl]
        rw [show headI [] = -1 from rfl] at HAF
        clear hdu
        go_wp2_with (first
          | (refine load_dfa rfl _ rfl q rfl C5 HC5.out HD7.out.1 ?_)
          | ((with_reducible go_at_call 16); (with_reducible refine HRD.out.mono ?_); rintro en w8 ⟨rfl, x8, rfl⟩; have HB8 := Lib.hid (ext_below w7 x8); generalize ext w7 x8 = w8 at *; have HG8 := Lib.hid (HD7.out.up HB8.out).1))
        refine op_load_dfa _ rfl q rfl C5 HC5.out HG8.out ?_
        go_wp2_with (fail)
        refine (HAF.out _ HB8.out).mono ?_
        rintro en w9 ⟨rfl, x9, rfl⟩
        go_wp2_with ((with_reducible go_at_call 7); refine (HKN.out _).mono ?_; rintro en w10 ⟨rfl, x10, rfl⟩)
        go_ret
        exact ⟨rfl, ex_ext (HB7.out.trans ((HB8.out.trans (((ext_below w8 x9).trans ((ext_below _ x10).mono (ext_below w8 x9).size)).mono HB8.out.size)).mono HB7.out.size))⟩
      | cons k tl =>
        obtain ⟨ou, cu, bu, fu, rfl, hdu, hcu⟩ := HU.out.open
        have hul : (nz (k :: tl)).length = tl.length + 1 := by simp [nz]
        have h0c := hcu 0 (by rw [hul]; omega)
        rw [show (nz (k :: tl)).getD 0 0 = (k : Int) from rfl] at h0c
        rw [hul] at hdu ⊢
        have hbu := hdu.hblk (by omega)
        have hixu := index_int hdu
        have hix0 : ∀ W, (Instr.indexAt 23 (.slice ou (tl.length + 1) cu) (.int .i64 0)).run Try.prog W = .ok (.pointer (some ⟨bu, fu, none⟩)) W := fun W => by simpa using hixu W 0 (by omega)
        rw [show headI (k :: tl) = (k : Int) from rfl] at HAF
        have hc0 : w7.cell? ⟨bu, fu, none⟩ = some (.int .i64 (k : Int)) := by simpa using h0c
        obtain ⟨lu, hlu⟩ : ∃ lu, lu = tl.length + 1 := ⟨_, rfl⟩
        rw [← hlu] at hix0 ⊢
        have hlu0 : 0 < lu := by omega
        clear hdu hcu hixu h0c hul hlu
        go_wp2_with (first
          | (refine load_dfa rfl _ rfl q rfl C5 HC5.out HD7.out.1 ?_)
          | ((with_reducible go_at_call 16); (with_reducible refine HRD.out.mono ?_); rintro en w8 ⟨rfl, x8, rfl⟩; have HB8 := Lib.hid (ext_below w7 x8); generalize ext w7 x8 = w8 at *; have HG8 := Lib.hid (HD7.out.up HB8.out).1))
        refine op_load_dfa _ rfl q rfl C5 HC5.out HG8.out ?_
        go_wp2_with (fail)
        refine (HAF.out _ HB8.out).mono ?_
        rintro en w9 ⟨rfl, x9, rfl⟩
        have hkk : ((k : Int) == (k : Int)) = true := by simp
        go_wp2_with ((with_reducible go_at_call 7); refine (HKN.out _).mono ?_; rintro en w10 ⟨rfl, x10, rfl⟩)
        go_ret
        exact ⟨rfl, ex_ext (HB7.out.trans ((HB8.out.trans (((ext_below w8 x9).trans ((ext_below _ x10).mono (ext_below w8 x9).size)).mono HB8.out.size)).mono HB7.out.size))⟩
    · have hE3 : subE e 0 r = 3 := hE.resolve_right hne
      rw [hE3, hI] at HSP
      clear hne hE hI hE3 HRT HT1 HEW HV4 HME
      go_wp2_with (first
        | (refine wpList_load_cells rfl 25 _ rfl p 0 3 rfl _ _ (nfaBox HBX.out) rfl Try.underlying25 rfl (by kernel_rfl) ?_)
        | ((with_reducible go_at_call 10); (with_reducible refine HSP.out.mono ?_); rintro en w5 ⟨v5, rfl, ⟨C5, rfl, hv5⟩, hb5⟩; have HV5 := Lib.hid hv5; have HB5 := Lib.hid hb5; clear hv5 hb5)
        | (refine store_new rfl _ _ rfl w5.heap.size rfl C5 rfl HV5.out (HBN.out w5) ?_; intro w6 hg6 hgr6; have HN6 := Lib.hid (DfaIn.new HV5.out hg6 hgr6); clear hg6 hgr6)
        | ((with_reducible go_at_call 7); refine (HKN.out _).mono ?_; rintro en w7 ⟨rfl, x7, rfl⟩))
      go_ret
      exact ⟨rfl, ex_ext (HB4.out.trans ((HB5.out.trans ((HN6.out.2.trans ((ext_below w6 x7).mono HN6.out.2.size)).mono HB5.out.size)).mono HB4.out.size))⟩
  · have hm0 : (mayL ll == 0) = false := by simpa using h0
    have hm1 : (mayL ll != 0) = true := by simpa using h0
    have HH0 := Lib.hid h0
    generalize mayL ll = M at *
    clear h0
    go_wp2_with (first
      | ((with_reducible go_at_call 14); refine HMK.out.mono ?_; rintro en w3 ⟨A, rfl, -, h1, hb⟩; obtain rfl := h1 HH0.out; have HB3 := Lib.hid (HB1.out.trans (hb.mono HB1.out.size)); clear hb h1)
      | ((with_reducible go_at_call 7); refine (HKN.out _).mono ?_; rintro en w4 ⟨rfl, x4, rfl⟩))
    go_ret
    exact ⟨rfl, ex_ext (HB3.out.trans (((below_alloc w3 _).trans ((ext_below _ x4).mono (below_alloc w3 _).size)).mono HB3.out.size))⟩
end Go.Cm
