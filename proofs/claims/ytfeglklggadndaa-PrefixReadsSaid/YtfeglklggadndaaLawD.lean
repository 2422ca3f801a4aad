/- The walk of the law PrefixReads. Conditions: the arguments read as data. -/
import Derived.Test.YtfeglklggadndaaLawK
import Derived.Deep.LoopGhost
namespace Go.Cm
open Go.RowKit Go.Proofs

theorem countR (n : Int) (m : Nat) (h1 : -9223372036854775808 ≤ n) (h2 : n ≤ 9223372036854775807) (hm : 1 ≤ m) (hm2 : m ≤ 4294967296) (w : World) : Calls Try.prog 19 #[.int .i64 n, .int .i64 m] w fun e w' => (∃ k : Nat, e = .returned (.int .i64 k) ∧ k < m) ∧ ∃ x, w' = ext w x := by
  have key : ∀ a : Int, ∃ k : Nat, a % (m : Int) = (k : Int) ∧ k < m := fun a => by
    have h1 := Int.emod_nonneg a (show (m : Int) ≠ 0 by omega)
    have h2 := Int.emod_lt_of_pos a (show (0 : Int) < (m : Int) by omega)
    exact ⟨(a % (m : Int)).toNat, by omega, by omega⟩
  have hm0 : ¬ (m : Int) = 0 := by omega
  have HK := Lib.hid key
  clear key
  by_cases h : n < 0
  · obtain ⟨b, hb⟩ : ∃ b : Nat, -(n + 1) = (b : Int) := ⟨(-(n + 1)).toNat, by omega⟩
    go_enter Try.func19, Try.ntmps19
    go_wp2
    go_ret
    obtain ⟨k, hk, hkm⟩ := HK.out (b : Int)
    exact ⟨⟨k, by rw [← hk]; rfl, hkm⟩, (ex_ext (by repeat (first | exact Below.refl _ _ | assumption | refine b_drewN ?_ _ | refine Below.drew ?_ | refine b_ext' ?_ _ | refine b_alloc' ?_ _)))⟩
  · go_enter Try.func19, Try.ntmps19
    go_wp2
    go_ret
    obtain ⟨k, hk, hkm⟩ := HK.out n
    exact ⟨⟨k, by rw [← hk]; rfl, hkm⟩, (ex_ext (by repeat (first | exact Below.refl _ _ | assumption | refine b_drewN ?_ _ | refine Below.drew ?_ | refine b_ext' ?_ _ | refine b_alloc' ?_ _)))⟩

theorem BoxT.keep {w w' : World} {g p : Nat} {s : ByteArray} {row : Option Nat} (h : BoxT w g s p) (hg : w.grownBy w' row) (hne : row ≠ some g) : BoxT w' g s p := ⟨h.own.keep hg (.inr (fun e => hne e.symm))⟩

set_option maxRecDepth 100000 in
set_option maxHeartbeats 4000000 in
theorem prefixReads (v : Value) (l : List Int) (s : ByteArray) (at' : Int) (w : World) (hv : IntsAt w v l) (hs63 : s.size ≤ 140737488351232) (ha1 : -9223372036854775808 ≤ at') (ha2 : at' ≤ 9223372036854775807) :
    Calls Try.prog 5 #[v, .string s, .int .i64 at'] w fun e w' => e = .returned (.bool true) ∧ ∃ x, w' = ext w x := by
  have HV := Lib.hid hv
  have HNW := Lib.hid (newP v l w hv)
  have HCD : Hid (∀ W, Below w.heap.size w W → Calls Try.prog 18 #[v] W (RetCodes l W)) := Lib.hid (fun W hb => codesR v l W (hv.up hb))
  obtain ⟨oa, cap, b, off, rfl, hd, -⟩ := hv.open
  have hm := hd.len
  clear hv hd
  by_cases hbig : l.length > 1000 ∨ s.size > 1000
  · rcases hbig with hbig | hbig
    · have hbi : (l.length : Int) > 1000 := by omega
      go_enter Try.func5, Try.ntmps5
      go_wp2_with (go_at_call 7; refine (knownP _).mono ?_; rintro e w1 ⟨rfl, x, rfl⟩)
      go_ret
      exact ⟨rfl, (ex_ext (by repeat (first | exact Below.refl _ _ | assumption | refine b_drewN ?_ _ | refine Below.drew ?_ | refine b_ext' ?_ _ | refine b_alloc' ?_ _)))⟩
    · have hbi : (s.size : Int) > 1000 := by omega
      by_cases hb2 : (l.length : Int) > 1000
      · go_enter Try.func5, Try.ntmps5
        go_wp2_with (go_at_call 7; refine (knownP _).mono ?_; rintro e w1 ⟨rfl, x, rfl⟩)
        go_ret
        exact ⟨rfl, (ex_ext (by repeat (first | exact Below.refl _ _ | assumption | refine b_drewN ?_ _ | refine Below.drew ?_ | refine b_ext' ?_ _ | refine b_alloc' ?_ _)))⟩
      · go_enter Try.func5, Try.ntmps5
        go_wp2_with (go_at_call 7; refine (knownP _).mono ?_; rintro e w1 ⟨rfl, x, rfl⟩)
        go_ret
        exact ⟨rfl, (ex_ext (by repeat (first | exact Below.refl _ _ | assumption | refine b_drewN ?_ _ | refine Below.drew ?_ | refine b_ext' ?_ _ | refine b_alloc' ?_ _)))⟩
  · have hb1 : ¬ (l.length : Int) > 1000 := by omega
    have hb2 : ¬ (s.size : Int) > 1000 := by omega
    have hs1 : s.size ≤ 1000 := by omega
    have em : 8 * (s.size : Int) + 1 = ((8 * s.size + 1 : Nat) : Int) := by omega
    have HCT := Lib.hid (countR at' (8 * s.size + 1) ha1 ha2 (by omega) (by omega))
    unfold RetTab at HNW
    unfold RetCodes at HCD
    clear hbig hs63
    by_cases he : errI l = 0
    · obtain ⟨L, rfl, hlen, h15, hk⟩ := errI_zero he
      rw [he, if_pos rfl] at HCD
      have HNW2 : Hid (Calls Try.prog 15 #[.slice oa (nls L).length cap] w fun e w' => Below w.heap.size w w' ∧ ∃ g, e = .returned (.tuple #[.pointer (some ⟨g, 0, none⟩), .int .i64 0]) ∧ TabAt w' w.heap.size g L) := Lib.hid (HNW.out.mono fun e w' ⟨hb, h⟩ => by
        rcases h with ⟨-, g, h1, h2⟩ | ⟨h0, -⟩
        · rw [nls_toNat] at h2; exact ⟨hb, g, h1, h2⟩
        · exact absurd he h0)
      clear HNW he
      have H15 := Lib.hid h15
      have HKR := Lib.hid hk
      clear h15 hk
      obtain ⟨em1, hem1⟩ : ∃ em1 : Nat, em1 = 8 * s.size + 1 := ⟨_, rfl⟩
      rw [← hem1] at em HCT
      have hmm : em1 ≤ 8001 := by omega
      have HEM := Lib.hid hem1
      clear hem1
      rw [nls_length] at HV HCD hm hb1 HNW2 ⊢
      go_enter Try.func5, Try.ntmps5
      go_wp2_with (first | (go_at_call 15; refine HNW2.out.mono ?_; rintro e w1 ⟨hb, gt, rfl, hT⟩; have HB1 := Lib.hid hb; have HT1 := Lib.hid hT; clear hb hT) | (go_at_call 18; refine (HCD.out _ HB1.out).mono ?_; rintro e w2 ⟨vc, rfl, -, hb⟩; have HB2 := Lib.hid (HB1.out.trans (hb.mono HB1.out.size)); have HT2 := Lib.hid (HT1.out.up hb); clear hb) | (go_at_call 19; refine (HCT.out _).mono ?_; rintro e w3 ⟨⟨k, rfl, hk⟩, x3, rfl⟩; have HB3 := Lib.hid (HB2.out.trans ((ext_below w2 x3).mono HB2.out.size)); have HT3 := Lib.hid (HT2.out.up (ext_below w2 x3))) | (go_at_call 14; refine (newS s k (by omega) (by have := HEM.out; omega) _).mono ?_; rintro e w4 ⟨gr, rfl, hS, hge, hb4⟩; have HS4 := Lib.hid hS; have HG4 := Lib.hid hge; have HX4 := Lib.hid hb4; clear hS hge hb4) | (go_at_call 20; refine (newT s k (by omega) (by have := HEM.out; omega) _).mono ?_; rintro e w5 ⟨gq, rfl, hS, hge, hb5⟩; have HQ5 := Lib.hid hS; have HG5 := Lib.hid hge; have HX5 := Lib.hid (HX4.out.trans (hb5.mono HX4.out.size)); have HS5 := Lib.hid (HS4.out.up hb5); have HT5 := Lib.hid (symbolsP (HT3.out.up (HX4.out.trans (hb5.mono HX4.out.size)))); clear hS hge hb5) | (go_at_call 17; refine HT5.out.mono ?_; rintro e w6 ⟨rfl, x6, rfl⟩))
      have hn3 : w.heap.size ≤ (ext w2 x3).heap.size := HB3.out.size
      have hgq : (ext w2 x3).heap.size ≤ gq := by have := HG5.out; have := HX4.out.size; omega
      have hgr : (ext w2 x3).heap.size ≤ gr := HG4.out
      have hgne : gr ≠ gq := by have := HG5.out; have := HS4.out.lt; omega
      have HX6 := Lib.hid (HX5.out.trans ((ext_below w5 x6).mono HX5.out.size))
      have HS6 := Lib.hid (HS5.out.up (ext_below w5 x6))
      have HQ6 := Lib.hid (HQ5.out.up (ext_below w5 x6))
      clear HT5 HX5 HX4 HS5 HS4 HQ5 HG5 HG4 HT2 HT1 HB2 HB1 HNW2 HCD HCT
      generalize ext w5 x6 = w6 at *
      generalize ext w2 x3 = w3 at *
      have hk8 : k ≤ 8 * s.size := by have := HEM.out; omega
      clear HEM hk em hmm
      go_loopg [16] 40 (fun gk i wr => ∃ (j p : Nat), j ≤ 40 ∧ i = .int .i64 j ∧ Hid (p ≤ 8 * s.size) ∧ BoxS wr gr s p ∧ BoxT wr gq s p ∧ Below w3.heap.size w3 wr ∧ gk = 40 - j)
      case atStart => exact ⟨0, k, by omega, rfl, Lib.hid hk8, HS6.out, HQ6.out, HX6.out, rfl⟩
      case round =>
        clear HS6 HQ6 HX6
        obtain ⟨j, p, hj, rfl, HP8, hS, hQ, hX, rfl⟩ := hrel
        have HS := Lib.hid hS
        have HQ := Lib.hid hQ
        have HX := Lib.hid hX
        clear hS hQ hX
        by_cases h40 : j < 40
        · have HRP := Lib.hid (readP (HT3.out.up HX.out) HS.out H15.out (by omega) HP8.out)
          unfold RetRead at HRP
          have h40i : (j : Int) < 40 := by omega
          go_wp2_with (first | (go_at_call 16; (with_reducible refine HRP.out.mono ?_); rintro e w7 ⟨a, er, dd, rfl, hr, hbx, hg⟩; have HR := Lib.hid hr; have HS7 := Lib.hid hbx; have HX7 := Lib.hid (below_row HX.out HX.out.size hg hgr); have HQ7 := Lib.hid (HQ.out.keep hg (by simpa using hgne)); have HRR := Lib.hid (readR (.slice oa L.length cap) L HV.out (HB3.out.trans (HX7.out.mono hn3)) HQ7.out (Nat.le_trans hn3 hgq) hlen H15.out HKR.out (by omega) HP8.out); clear hr hbx hg) | (go_at_call 21; (with_reducible refine HRR.out.mono ?_); rintro e w8 ⟨a', er', dd', rfl, hr, hbx, hg⟩; have HQ8 := Lib.hid hbx; have HX8 := Lib.hid (below_row HX7.out HX7.out.size hg hgq); have HS8 := Lib.hid (HS7.out.keep hg (by simpa using fun e => hgne e.symm)); obtain ⟨rfl, rfl, rfl⟩ := read_one HR.out hr; clear hr hbx hg))
          have hcq := HQ8.out.c1
          have hgq8 := HQ8.out.lt
          have HP9 : Hid (p + dd ≤ 8 * s.size) := Lib.hid (by have := read_le HR.out; have := HP8.out; omega)
          clear HS7 HX7 HQ7 HRR HRP HS HQ HX HR
          obtain ⟨pd, hpd⟩ : ∃ pd, pd = p + dd := ⟨_, rfl⟩
          rw [← hpd] at hcq HS8 HQ8 HP9
          clear hpd
          have HAT : Hid (∀ W, BoxS W gr s pd → Calls Try.prog 22 #[.pointer (some ⟨gr, 0, none⟩)] W fun e w' => e = .returned (.int .i64 (pd : Nat)) ∧ ∃ x, w' = ext W x) := Lib.hid (fun W h => (atS h).mono fun e w' ⟨h1, h2⟩ => ⟨h1, by rw [h2]; exact refl_ext W⟩)
          refine wp_region_ext (by kernel_rfl) (by kernel_rfl) ?_
          repeat (go_big_quiet_step ((go_at_call 22; exact calls_in (HAT.out _ (HS8.out.up (ext_below _ _))))))
          refine wpQuiet_nil ?_
          rintro w' ⟨y, rfl⟩
          have HS9 := Lib.hid (HS8.out.up (ext_below w8 y))
          have HQ9 := Lib.hid (HQ8.out.up (ext_below w8 y))
          have HX9 := Lib.hid (HX8.out.trans ((ext_below w8 y).mono HX8.out.size))
          clear HS8 HQ8 HX8 HAT hcq hgq8
          generalize ext w8 y = w9 at *
          by_cases her : er = 0
          · have hei : ((er : Int) != 0) = false := by rw [her]; rfl
            go_wp2
            go_roundg (40 - (j + 1))
            case measure => omega
            case rel => exact ⟨j + 1, pd, by omega, by go_num, HP9, HS9.out, HQ9.out, HX9.out, rfl⟩
          · have hei : ((er : Int) != 0) = true := by simpa using her
            go_wp2_with (go_at_call 7; refine (knownP _).mono ?_; rintro e w10 ⟨rfl, x10, rfl⟩)
            go_ret
            exact ⟨rfl, ex_ext ((HB3.out.trans (HX9.out.mono hn3)).trans ((ext_below _ _).mono (Nat.le_trans hn3 HX9.out.size)))⟩
        · obtain rfl : j = 40 := by omega
          have h40i : ¬ ((40 : Nat) : Int) < 40 := by omega
          go_wp2_with (go_at_call 7; refine (knownP _).mono ?_; rintro e w9 ⟨rfl, x9, rfl⟩)
          go_ret
          exact ⟨rfl, ex_ext ((HB3.out.trans (HX.out.mono hn3)).trans ((ext_below _ _).mono (Nat.le_trans hn3 HX.out.size)))⟩
    · have hne : ¬ (errI l : Int) = 0 := by omega
      rw [if_neg he] at HCD
      have HNW2 : Hid (Calls Try.prog 15 #[.slice oa l.length cap] w fun e w' => Below w.heap.size w w' ∧ e = .returned (.tuple #[.pointer none, .int .i64 (errI l : Nat)])) := Lib.hid (HNW.out.mono fun e w' ⟨hb, h⟩ => by
        rcases h with ⟨h0, -⟩ | ⟨-, h⟩
        · exact absurd h0 he
        · exact ⟨hb, h⟩)
      clear HNW
      obtain ⟨em1, hem1⟩ : ∃ em1 : Nat, em1 = 8 * s.size + 1 := ⟨_, rfl⟩
      rw [← hem1] at em HCT
      have hmm : em1 ≤ 8001 := by omega
      have HEM := Lib.hid hem1
      clear hem1 he
      generalize errI l = q at *
      go_enter Try.func5, Try.ntmps5
      go_wp2_with (first | (go_at_call 15; refine HNW2.out.mono ?_; rintro e w1 ⟨hb, rfl⟩; have HB1 := Lib.hid hb; clear hb) | (go_at_call 18; refine (HCD.out _ HB1.out).mono ?_; rintro e w2 ⟨vc, rfl, -, hb⟩; have HB2 := Lib.hid (HB1.out.trans (hb.mono HB1.out.size)); clear hb) | (go_at_call 19; refine (HCT.out _).mono ?_; rintro e w3 ⟨⟨k, rfl, hk⟩, x3, rfl⟩; have HB3 := Lib.hid (HB2.out.trans ((ext_below w2 x3).mono HB2.out.size))) | (go_at_call 14; refine (newS s k (by omega) (by have := HEM.out; omega) _).mono ?_; rintro e w4 ⟨gr, rfl, -, -, hb4⟩; have HB4 := Lib.hid (HB3.out.trans (hb4.mono HB3.out.size)); clear hb4) | (go_at_call 20; refine (newT s k (by omega) (by have := HEM.out; omega) _).mono ?_; rintro e w5 ⟨gq, rfl, -, -, hb5⟩; have HB5 := Lib.hid (HB4.out.trans (hb5.mono HB4.out.size)); clear hb5) | (go_at_call 7; refine (knownP _).mono ?_; rintro e w6 ⟨rfl, x6, rfl⟩))
      go_ret
      exact ⟨rfl, ex_ext (HB5.out.trans ((ext_below _ _).mono HB5.out.size))⟩
end Go.Cm
