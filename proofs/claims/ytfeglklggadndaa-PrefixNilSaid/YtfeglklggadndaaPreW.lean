/- The walks of the writing of symbols, of the program and of the document. Conditions: the writer is there. -/
import Derived.Test.YtfeglklggadndaaLenP
import Derived.Test.YtfeglklggadndaaBitR
import Derived.Test.YtfeglklggadndaaBitT
namespace Go.Cm
open Go.RowKit Go.Proofs

/-- what is wrong of a symbol that is to be written -/
def errW (l : List Int) (n : Int) : Nat := if errI l ≠ 0 then errI l else if 0 ≤ n ∧ n < l.length ∧ l.getD n.toNat 0 ≠ 0 then 0 else 1
/-- the bits behind the writing of a symbol -/
def numW (l : List Int) (n : Int) (NL : Nat × Nat) : Nat × Nat :=
  if errW l n = 0 then (NL.1 + turnN (codeN (l.map Int.toNat) n.toNat) (l.getD n.toNat 0).toNat * 2 ^ NL.2, NL.2 + (l.getD n.toNat 0).toNat) else NL
theorem errI_zero {l : List Int} (h : errI l = 0) : ∃ L, l = nls L ∧ L.length ≤ 320 ∧ (∀ x ∈ L, x ≤ 15) ∧ kraftN L ≤ 32768 := by
  have h0 : wrongI l = 0 := by
    apply Classical.byContradiction; intro hn
    have := errI_of_wrong hn; omega
  obtain ⟨h1, h2⟩ := wrongI_zero h0
  obtain ⟨L, rfl, h3⟩ := nls_of h2
  rw [nls_length] at h1
  refine ⟨L, rfl, h1, h3, ?_⟩
  rw [errI_nls h1 h3] at h
  split at h
  · cases h
  · omega
theorem numW_bad {l : List Int} {n : Int} {NL : Nat × Nat} (h : errW l n ≠ 0) : numW l n NL = NL := by unfold numW; rw [if_neg h]
theorem errW_codes {l : List Int} {n : Int} (h : errI l ≠ 0) : errW l n = errI l := by unfold errW; rw [if_pos h]
theorem errW_arg {l : List Int} {n : Int} (h : errI l = 0) (h2 : ¬ (0 ≤ n ∧ n < l.length ∧ l.getD n.toNat 0 ≠ 0)) : errW l n = 1 := by unfold errW; rw [if_neg (by omega), if_neg h2]
theorem errW_ok {l : List Int} {n : Int} (h : errI l = 0) (h2 : 0 ≤ n ∧ n < l.length ∧ l.getD n.toNat 0 ≠ 0) : errW l n = 0 := by unfold errW; rw [if_neg (by omega), if_pos h2]
theorem codesN_length (L : List Nat) : (codesN L).length = L.length := by simp [codesN]
theorem codesN_getD (L : List Nat) (i : Nat) (h : i < L.length) : (codesN L).getD i 0 = codeN L i := by simp [codesN, List.getD, h]

/-- what a writing of a symbol answers -/
def RetV (Wr : World → Nat → Nat → Nat → Nat → Value → Prop) (l : List Int) (n : Int) (B g N L : Nat) (vb : Value) (w : World) (e : Ending) (w' : World) : Prop :=
  e = .returned (.int .i64 (errW l n : Nat)) ∧ ∃ vb', Wr w' B g (numW l n (N, L)).1 (numW l n (N, L)).2 vb' ∧ Below B w w' ∧ Fr g vb vb' w w'
/-- .. its row unnamed -/
def RetW (Wr : World → Nat → Nat → Nat → Nat → Prop) (l : List Int) (n : Int) (B g N L : Nat) (w : World) (e : Ending) (w' : World) : Prop :=
  e = .returned (.int .i64 (errW l n : Nat)) ∧ Wr w' B g (numW l n (N, L)).1 (numW l n (N, L)).2 ∧ Below B w w'

theorem WrtP.up {w w' : World} {B g N L : Nat} (h : WrtP w B g N L) (hb : Below w.heap.size w w') : WrtP w' B g N L := by
  obtain ⟨⟨vb, hbx, how, hne⟩, hge, hlt⟩ := h
  exact ⟨⟨vb, hbx.up hb, how.up hb, hne⟩, hge, hlt⟩
theorem WrtR.up {w w' : World} {B g N L : Nat} (h : WrtR w B g N L) (hb : Below w.heap.size w w') : WrtR w' B g N L := by
  obtain ⟨⟨vb, hbx, how, hne⟩, hge, hlt⟩ := h
  exact ⟨⟨vb, hbx.up hb, how.up hb, hne⟩, hge, hlt⟩
theorem WrtV.up {w w' : World} {B g N L : Nat} {vb : Value} (h : WrtV w B g N L vb) (hb : Below w.heap.size w w') : WrtV w' B g N L vb := ⟨h.box.up hb, h.own.up hb, h.ne, h.ge, h.lt⟩
theorem WrtRV.up {w w' : World} {B g N L : Nat} {vb : Value} (h : WrtRV w B g N L vb) (hb : Below w.heap.size w w') : WrtRV w' B g N L vb := ⟨h.box.up hb, h.own.up hb, h.ne, h.ge, h.lt⟩

set_option maxRecDepth 100000 in
set_option maxHeartbeats 1000000 in
theorem writeV {w0 w : World} {g N L : Nat} {vb : Value} (v : Value) (l : List Int) (n : Int) (h0 : IntsAt w0 v l) (hb0 : Below w0.heap.size w0 w) (h : WrtV w w0.heap.size g N L vb) (hL : L ≤ 2147483648 - 32) :
    Calls Try.prog 9 #[.pointer (some ⟨g, 0, none⟩), v, .int .i64 n] w (RetV WrtV l n w0.heap.size g N L vb w) := by
  have HP := Lib.hid (putV h 0 0 (by decide) (by decide) (by omega))
  rw [Nat.zero_mul, Nat.add_zero, Nat.add_zero] at HP
  have HBW := Lib.hid hb0
  have HCO : Hid (∀ w', Below w0.heap.size w w' → Calls Try.prog 24 #[v] w' (RetCodes l w')) := Lib.hid (fun w' hb => codesP v l w' (h0.up (hb0.trans hb)))
  obtain ⟨oa, cap, b, off, rfl, hd, hc⟩ := h0.open
  have hix := index_any (P := Try.prog) 22 3 Try.underlying22 (by kernel_rfl) hd
  have hm := hd.len
  have hbk := hd.hblk
  have hsz0 := hb0.size
  have HC := Lib.hid hc
  clear hc h0 hb0 h hd
  unfold RetCodes at HCO
  by_cases he : errI l = 0
  · rw [he] at HCO
    by_cases hn : 0 ≤ n ∧ n < l.length ∧ l.getD n.toNat 0 ≠ 0
    · have hE := errW_ok he hn
      obtain ⟨h1, h2, h3⟩ := hn
      obtain ⟨i, rfl⟩ : ∃ i : Nat, n = (i : Int) := ⟨n.toNat, by omega⟩
      rw [Int.toNat_natCast] at h3
      obtain ⟨M, rfl, hlen, h15, hk⟩ := errI_zero he
      have hi : i < M.length := by rw [nls_length] at h2; omega
      have hn1 : ¬ (i : Int) < 0 := by omega
      have hcell := HC.out i (by omega)
      rw [nls_getD] at hcell h3
      have hx15 := h15 _ (getD_mem M i 0 hi)
      have hcl := code_lt h15 hk i hi
      unfold RetV numW
      rw [hE, if_pos (by trivial), nls_toNat, Int.toNat_natCast, nls_getD, Int.toNat_natCast]
      rw [nls_toNat, if_pos rfl] at HCO
      have HCL := Lib.hid hcl
      have hcg := codesN_getD M i hi
      have hcle := codesN_length M
      clear hE he h15 hk hcl HC
      rw [nls_length] at *
      generalize M.getD i 0 = x at *
      generalize codeN M i = c at *
      have hx0 : ((x : Int) == 0) = false := by simpa using h3
      have hx00 : ¬ (x : Int) = 0 := h3
      have hn2 : ¬ (i : Int) ≥ (M.length : Int) := by omega
      have hb : b < w0.heap.size := hbk (by omega)
      go_enter Try.func9, Try.ntmps9
      go_wp2_with (first | (go_at_call 23; refine HP.out.mono ?_; rintro e w1 ⟨rfl, vb1, hq1, hq2, hf1⟩; have HQ1 := Lib.hid hq1; have HQ2 := Lib.hid hq2; have HF1 := Lib.hid hf1; clear hq1 hq2 hf1) | (go_at_call 24; refine (HCO.out _ HQ2.out).mono ?_; rintro e w2 ⟨vc, rfl, hq3, hq4⟩; have HQ3 := Lib.hid hq3; have HQ4 := Lib.hid hq4; have hcell2 := (((HBW.out.trans HQ2.out).trans (HQ4.out.mono (HBW.out.trans HQ2.out).size)).cell (p := ⟨b, off + i, none⟩) hb).trans hcell; clear hq3 hq4; have hb2 : b < w2.heap.size := Nat.lt_of_lt_of_le hb ((HBW.out.trans HQ2.out).trans (HQ4.out.mono (HBW.out.trans HQ2.out).size)).size))
      have hicd := HQ3.out.sl
      obtain ⟨oc, cc, bc, fc, rfl, hdc, hcc⟩ := (show IntsAt w2 vc (nls (codesN M)) from hicd).open
      rw [nls_length, hcle] at hdc hcc
      have hcc2 := hcc i hi
      rw [nls_getD, hcg] at hcc2
      have hixc := index_any (P := Try.prog) 22 3 Try.underlying22 (by kernel_rfl) hdc
      have hbc := hdc.hblk (by omega)
      have HCO2 : Hid (Calls Try.prog 25 #[.pointer (some ⟨g, 0, none⟩), .int .i64 c, .int .i64 x] w2.drew fun e w' => e = .returned (.int .i64 0) ∧ ∃ vb2, WrtV w' w0.heap.size g (N + turnN c x * 2 ^ L) (L + x) vb2 ∧ Below w0.heap.size w2.drew w' ∧ Fr g vb1 vb2 w2.drew w') := Lib.hid (by
        exact codeV (HQ1.out.up (b_drew1 HQ4.out)) c x HCL.out (by omega) (by omega))
      have HB2 : Hid (Below w0.heap.size w w2.drew) := Lib.hid (b_drew1 (HQ2.out.trans (HQ4.out.mono (HBW.out.trans HQ2.out).size)))
      clear hcc hicd hdc hcg hcle
      rw [show (nls (codesN M)).length = M.length by rw [nls_length, codesN_length]]
      refine wp_region_tailg [0,1,2,3,4,5,6,7,8] [] [9,10] (by kernel_rfl) (by kernel_rfl) ?_
      simp only [pick, List.map_cons, List.map_nil, List.getD_cons_zero, List.getD_cons_succ]
      repeat (go_big_quiet_step (fail))
      refine wpQuiet_nil ?_
      unfold wpAct
      unfold wpAct
      go_wp2_with (go_at_call 25; refine HCO2.out.mono ?_; rintro e w3 ⟨rfl, vb2, hq5, hq6, hf6⟩; have HQ5 := Lib.hid hq5; have HQ6 := Lib.hid hq6; have HF6 := Lib.hid hf6; clear hq5 hq6 hf6)
      refine ⟨trivial, ?_⟩
      unfold wpAct
      go_wp2
      refine ⟨trivial, ?_⟩
      unfold wpAct
      go_wp2
      go_ret
      exact ⟨rfl, vb2, HQ5.out, HB2.out.trans HQ6.out, (HF1.out.below (b_drew1 HQ4.out)).trans HF6.out⟩
    · have hE := errW_arg he hn
      have hE0 : errW l n ≠ 0 := by omega
      unfold RetV
      rw [numW_bad hE0, hE]
      clear hE hE0 he
      by_cases h1 : n < 0
      · go_enter Try.func9, Try.ntmps9
        go_wp2_with (first | (go_at_call 23; refine HP.out.mono ?_; rintro e w1 ⟨rfl, vb1, hq1, hq2, hf1⟩; have HQ1 := Lib.hid hq1; have HQ2 := Lib.hid hq2; have HF1 := Lib.hid hf1; clear hq1 hq2 hf1) | (go_at_call 24; refine (HCO.out _ HQ2.out).mono ?_; rintro e w2 ⟨vc, rfl, hq3, hq4⟩; have HQ4 := Lib.hid hq4; clear hq3 hq4))
        go_ret
        exact ⟨rfl, vb1, HQ1.out.up HQ4.out, HQ2.out.trans (HQ4.out.mono (HBW.out.trans HQ2.out).size), HF1.out.below HQ4.out⟩
      · by_cases h2 : n ≥ (l.length : Int)
        · go_enter Try.func9, Try.ntmps9
          go_wp2_with (first | (go_at_call 23; refine HP.out.mono ?_; rintro e w1 ⟨rfl, vb1, hq1, hq2, hf1⟩; have HQ1 := Lib.hid hq1; have HQ2 := Lib.hid hq2; have HF1 := Lib.hid hf1; clear hq1 hq2 hf1) | (go_at_call 24; refine (HCO.out _ HQ2.out).mono ?_; rintro e w2 ⟨vc, rfl, hq3, hq4⟩; have HQ4 := Lib.hid hq4; clear hq3 hq4))
          go_ret
          exact ⟨rfl, vb1, HQ1.out.up HQ4.out, HQ2.out.trans (HQ4.out.mono (HBW.out.trans HQ2.out).size), HF1.out.below HQ4.out⟩
        · obtain ⟨i, rfl⟩ : ∃ i : Nat, n = (i : Int) := ⟨n.toNat, by omega⟩
          have hi : i < l.length := by omega
          have hcell := HC.out i hi
          have hb : b < w0.heap.size := hbk (by omega)
          have hx : l.getD i 0 = 0 := by
            apply Classical.byContradiction; intro hx
            exact hn ⟨by omega, by omega, hx⟩
          rw [hx] at hcell
          have hx0 : ((0 : Int) == 0) = true := rfl
          clear hn
          go_enter Try.func9, Try.ntmps9
          go_wp2_with (first | (go_at_call 23; refine HP.out.mono ?_; rintro e w1 ⟨rfl, vb1, hq1, hq2, hf1⟩; have HQ1 := Lib.hid hq1; have HQ2 := Lib.hid hq2; have HF1 := Lib.hid hf1; clear hq1 hq2 hf1) | (go_at_call 24; refine (HCO.out _ HQ2.out).mono ?_; rintro e w2 ⟨vc, rfl, hq3, hq4⟩; have HQ4 := Lib.hid hq4; have hcell2 := (((HBW.out.trans HQ2.out).trans (HQ4.out.mono (HBW.out.trans HQ2.out).size)).cell (p := ⟨b, off + i, none⟩) hb).trans hcell; clear hq3 hq4; have hb2 : b < w2.heap.size := Nat.lt_of_lt_of_le hb ((HBW.out.trans HQ2.out).trans (HQ4.out.mono (HBW.out.trans HQ2.out).size)).size))
          go_ret
          exact ⟨rfl, vb1, HQ1.out.up HQ4.out, HQ2.out.trans (HQ4.out.mono (HBW.out.trans HQ2.out).size), HF1.out.below HQ4.out⟩
  · have hE := errW_codes (n := n) he
    have hE0 : errW l n ≠ 0 := by omega
    have hne : ¬ (errI l : Int) = 0 := by omega
    unfold RetV
    rw [numW_bad hE0, hE]
    clear hE hE0
    generalize errI l = q at *
    go_enter Try.func9, Try.ntmps9
    go_wp2_with (first | (go_at_call 23; refine HP.out.mono ?_; rintro e w1 ⟨rfl, vb1, hq1, hq2, hf1⟩; have HQ1 := Lib.hid hq1; have HQ2 := Lib.hid hq2; have HF1 := Lib.hid hf1; clear hq1 hq2 hf1) | (go_at_call 24; refine (HCO.out _ HQ2.out).mono ?_; rintro e w2 ⟨vc, rfl, hq3, hq4⟩; have HQ4 := Lib.hid hq4; clear hq3 hq4))
    go_ret
    exact ⟨rfl, vb1, HQ1.out.up HQ4.out, HQ2.out.trans (HQ4.out.mono (HBW.out.trans HQ2.out).size), HF1.out.below HQ4.out⟩
theorem writeP {w0 w : World} {g N L : Nat} (v : Value) (l : List Int) (n : Int) (h0 : IntsAt w0 v l) (hb0 : Below w0.heap.size w0 w) (h : WrtP w w0.heap.size g N L) (hL : L ≤ 2147483648 - 32) :
    Calls Try.prog 9 #[.pointer (some ⟨g, 0, none⟩), v, .int .i64 n] w (RetW WrtP l n w0.heap.size g N L w) := by
  obtain ⟨vb, hV⟩ := h.v
  exact (writeV v l n h0 hb0 hV hL).mono fun e w' ⟨h1, vb', h2, h3, _⟩ => ⟨h1, h2.p, h3⟩

set_option maxRecDepth 100000 in
set_option maxHeartbeats 1000000 in
theorem writeRV {w0 w : World} {g N L : Nat} {vb : Value} (v : Value) (l : List Int) (n : Int) (h0 : IntsAt w0 v l) (hb0 : Below w0.heap.size w0 w) (h : WrtRV w w0.heap.size g N L vb) (hL : L ≤ 2147483648 - 32) :
    Calls Try.prog 10 #[.pointer (some ⟨g, 0, none⟩), v, .int .i64 n] w (RetV WrtRV l n w0.heap.size g N L vb w) := by
  have HQ1 := Lib.hid h
  have HF1 := Lib.hid (Fr.refl g vb w)
  obtain ⟨vb1, hvb1⟩ : ∃ vb1, vb1 = vb := ⟨_, rfl⟩
  rw [show Fr g vb vb w w = Fr g vb vb1 w w by rw [hvb1]] at HF1
  rw [← hvb1] at HQ1
  clear hvb1
  have HQ2 : Hid (Below w0.heap.size w w) := Lib.hid (Below.refl _ _)
  have HBW := Lib.hid hb0
  have HCO : Hid (∀ w', Below w0.heap.size w w' → Calls Try.prog 18 #[v] w' (RetCodes l w')) := Lib.hid (fun w' hb => codesR v l w' (h0.up (hb0.trans hb)))
  obtain ⟨oa, cap, b, off, rfl, hd, hc⟩ := h0.open
  have hix := index_any (P := Try.prog) 22 3 Try.underlying22 (by kernel_rfl) hd
  have hm := hd.len
  have hbk := hd.hblk
  have hsz0 := hb0.size
  have HC := Lib.hid hc
  clear hc h0 hb0 h hd
  unfold RetCodes at HCO
  by_cases he : errI l = 0
  · rw [he] at HCO
    by_cases hn : 0 ≤ n ∧ n < l.length ∧ l.getD n.toNat 0 ≠ 0
    · have hE := errW_ok he hn
      obtain ⟨h1, h2, h3⟩ := hn
      obtain ⟨i, rfl⟩ : ∃ i : Nat, n = (i : Int) := ⟨n.toNat, by omega⟩
      rw [Int.toNat_natCast] at h3
      obtain ⟨M, rfl, hlen, h15, hk⟩ := errI_zero he
      have hi : i < M.length := by rw [nls_length] at h2; omega
      have hn1 : ¬ (i : Int) < 0 := by omega
      have hcell := HC.out i (by omega)
      rw [nls_getD] at hcell h3
      have hx15 := h15 _ (getD_mem M i 0 hi)
      have hcl := code_lt h15 hk i hi
      unfold RetV numW
      rw [hE, if_pos (by trivial), nls_toNat, Int.toNat_natCast, nls_getD, Int.toNat_natCast]
      rw [nls_toNat, if_pos rfl] at HCO
      have HCL := Lib.hid hcl
      have hcg := codesN_getD M i hi
      have hcle := codesN_length M
      clear hE he h15 hk hcl HC
      rw [nls_length] at *
      generalize M.getD i 0 = x at *
      generalize codeN M i = c at *
      have hx0 : ((x : Int) == 0) = false := by simpa using h3
      have hx00 : ¬ (x : Int) = 0 := h3
      have hn2 : ¬ (i : Int) ≥ (M.length : Int) := by omega
      have hb : b < w0.heap.size := hbk (by omega)
      go_enter Try.func10, Try.ntmps10
      go_wp2_with (first | (go_at_call 18; refine (HCO.out _ HQ2.out).mono ?_; rintro e w2 ⟨vc, rfl, hq3, hq4⟩; have HQ3 := Lib.hid hq3; have HQ4 := Lib.hid hq4; have hcell2 := (((HBW.out.trans HQ2.out).trans (HQ4.out.mono (HBW.out.trans HQ2.out).size)).cell (p := ⟨b, off + i, none⟩) hb).trans hcell; clear hq3 hq4; have hb2 : b < w2.heap.size := Nat.lt_of_lt_of_le hb ((HBW.out.trans HQ2.out).trans (HQ4.out.mono (HBW.out.trans HQ2.out).size)).size))
      have hicd := HQ3.out.sl
      obtain ⟨oc, cc, bc, fc, rfl, hdc, hcc⟩ := (show IntsAt w2 vc (nls (codesN M)) from hicd).open
      rw [nls_length, hcle] at hdc hcc
      have hcc2 := hcc i hi
      rw [nls_getD, hcg] at hcc2
      have hixc := index_any (P := Try.prog) 22 3 Try.underlying22 (by kernel_rfl) hdc
      have hbc := hdc.hblk (by omega)
      have HCO2 : Hid (Calls Try.prog 26 #[.pointer (some ⟨g, 0, none⟩), .int .i64 c, .int .i64 x] w2.drew fun e w' => e = .returned (.int .i64 0) ∧ ∃ vb2, WrtRV w' w0.heap.size g (N + turnN c x * 2 ^ L) (L + x) vb2 ∧ Below w0.heap.size w2.drew w' ∧ Fr g vb1 vb2 w2.drew w') := Lib.hid (by
        exact codeRV (HQ1.out.up (b_drew1 HQ4.out)) c x HCL.out (by omega) (by omega))
      have HB2 : Hid (Below w0.heap.size w w2.drew) := Lib.hid (b_drew1 (HQ2.out.trans (HQ4.out.mono (HBW.out.trans HQ2.out).size)))
      clear hcc hicd hdc hcg hcle
      rw [show (nls (codesN M)).length = M.length by rw [nls_length, codesN_length]]
      refine wp_region_tailg [0,1,2,3,4,5,6,7,8] [] [9,10] (by kernel_rfl) (by kernel_rfl) ?_
      simp only [pick, List.map_cons, List.map_nil, List.getD_cons_zero, List.getD_cons_succ]
      repeat (go_big_quiet_step (fail))
      refine wpQuiet_nil ?_
      unfold wpAct
      unfold wpAct
      go_wp2_with (go_at_call 26; refine HCO2.out.mono ?_; rintro e w3 ⟨rfl, vb2, hq5, hq6, hf6⟩; have HQ5 := Lib.hid hq5; have HQ6 := Lib.hid hq6; have HF6 := Lib.hid hf6; clear hq5 hq6 hf6)
      refine ⟨trivial, ?_⟩
      unfold wpAct
      go_wp2
      refine ⟨trivial, ?_⟩
      unfold wpAct
      go_wp2
      go_ret
      exact ⟨rfl, vb2, HQ5.out, HB2.out.trans HQ6.out, (HF1.out.below (b_drew1 HQ4.out)).trans HF6.out⟩
    · have hE := errW_arg he hn
      have hE0 : errW l n ≠ 0 := by omega
      unfold RetV
      rw [numW_bad hE0, hE]
      clear hE hE0 he
      by_cases h1 : n < 0
      · go_enter Try.func10, Try.ntmps10
        go_wp2_with (first | (go_at_call 18; refine (HCO.out _ HQ2.out).mono ?_; rintro e w2 ⟨vc, rfl, hq3, hq4⟩; have HQ4 := Lib.hid hq4; clear hq3 hq4))
        go_ret
        exact ⟨rfl, vb1, HQ1.out.up HQ4.out, HQ2.out.trans (HQ4.out.mono (HBW.out.trans HQ2.out).size), HF1.out.below HQ4.out⟩
      · by_cases h2 : n ≥ (l.length : Int)
        · go_enter Try.func10, Try.ntmps10
          go_wp2_with (first | (go_at_call 18; refine (HCO.out _ HQ2.out).mono ?_; rintro e w2 ⟨vc, rfl, hq3, hq4⟩; have HQ4 := Lib.hid hq4; clear hq3 hq4))
          go_ret
          exact ⟨rfl, vb1, HQ1.out.up HQ4.out, HQ2.out.trans (HQ4.out.mono (HBW.out.trans HQ2.out).size), HF1.out.below HQ4.out⟩
        · obtain ⟨i, rfl⟩ : ∃ i : Nat, n = (i : Int) := ⟨n.toNat, by omega⟩
          have hi : i < l.length := by omega
          have hcell := HC.out i hi
          have hb : b < w0.heap.size := hbk (by omega)
          have hx : l.getD i 0 = 0 := by
            apply Classical.byContradiction; intro hx
            exact hn ⟨by omega, by omega, hx⟩
          rw [hx] at hcell
          have hx0 : ((0 : Int) == 0) = true := rfl
          clear hn
          go_enter Try.func10, Try.ntmps10
          go_wp2_with (first | (go_at_call 18; refine (HCO.out _ HQ2.out).mono ?_; rintro e w2 ⟨vc, rfl, hq3, hq4⟩; have HQ4 := Lib.hid hq4; have hcell2 := (((HBW.out.trans HQ2.out).trans (HQ4.out.mono (HBW.out.trans HQ2.out).size)).cell (p := ⟨b, off + i, none⟩) hb).trans hcell; clear hq3 hq4; have hb2 : b < w2.heap.size := Nat.lt_of_lt_of_le hb ((HBW.out.trans HQ2.out).trans (HQ4.out.mono (HBW.out.trans HQ2.out).size)).size))
          go_ret
          exact ⟨rfl, vb1, HQ1.out.up HQ4.out, HQ2.out.trans (HQ4.out.mono (HBW.out.trans HQ2.out).size), HF1.out.below HQ4.out⟩
  · have hE := errW_codes (n := n) he
    have hE0 : errW l n ≠ 0 := by omega
    have hne : ¬ (errI l : Int) = 0 := by omega
    unfold RetV
    rw [numW_bad hE0, hE]
    clear hE hE0
    generalize errI l = q at *
    go_enter Try.func10, Try.ntmps10
    go_wp2_with (first | (go_at_call 18; refine (HCO.out _ HQ2.out).mono ?_; rintro e w2 ⟨vc, rfl, hq3, hq4⟩; have HQ4 := Lib.hid hq4; clear hq3 hq4))
    go_ret
    exact ⟨rfl, vb1, HQ1.out.up HQ4.out, HQ2.out.trans (HQ4.out.mono (HBW.out.trans HQ2.out).size), HF1.out.below HQ4.out⟩
theorem writeR {w0 w : World} {g N L : Nat} (v : Value) (l : List Int) (n : Int) (h0 : IntsAt w0 v l) (hb0 : Below w0.heap.size w0 w) (h : WrtR w w0.heap.size g N L) (hL : L ≤ 2147483648 - 32) :
    Calls Try.prog 10 #[.pointer (some ⟨g, 0, none⟩), v, .int .i64 n] w (RetW WrtR l n w0.heap.size g N L w) := by
  obtain ⟨vb, hV⟩ := h.v
  exact (writeRV v l n h0 hb0 hV hL).mono fun e w' ⟨h1, vb', h2, h3, _⟩ => ⟨h1, h2.p, h3⟩

end Go.Cm
