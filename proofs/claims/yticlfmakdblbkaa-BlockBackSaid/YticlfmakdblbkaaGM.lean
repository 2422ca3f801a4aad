/- Texts of this claim, joined: walks of small functions and plain facts about them. Conditions: as each says. -/
import Derived.Test.YticlfmakdblbkaaGL
import Derived.Deep.LoopGhost
/- The walks of the document's Write of a head: dynamic ones. Conditions: the writer is there, the lengths are right. -/
namespace Go.Cm
open Go.RowKit Go.Proofs

set_option maxRecDepth 100000 in
set_option maxHeartbeats 4000000 in
theorem writeHR2false {w : World} {B g N L : Nat} {vb0 : Value} (h : WrtRV w B g N L vb0) (z : Int) (o1 o2 : Option Addr) (n1 n2 c1 c2 : Nat) (l1 l2 : List Nat) (hu1 : ∀ W, Below B w W → IntsAt W (.slice o1 n1 c1) (nls l1)) (hu2 : ∀ W, Below B w W → IntsAt W (.slice o2 n2 c2) (nls l2))
    (he1 : n1 = l1.length) (he2 : n2 = l2.length) (hn1 : 257 ≤ n1) (hn1' : n1 ≤ 286) (hn2 : 1 ≤ n2) (hn2' : n2 ≤ 30) (h1 : ∀ x ∈ l1, x ≤ 15) (h2 : ∀ x ∈ l2, x ≤ 15) (hf0 : fits2 l1 l2 = 0) (hL : L ≤ 1000) :
    Calls Try.prog 23 #[.pointer (some ⟨g, 0, none⟩), .agg #[.bool false, .int .i64 2, .int .i64 z, .slice o1 n1 c1, .slice o2 n2 c2]] w fun e w' => e = .returned (.int .i64 0) ∧ RSt w B g vb0 (putS (dynS l1 l2) (putS [(0, 1), (2, 2)] (N, L))) w' := by
  have hBw : B ≤ w.heap.size := by have := h.ge; have := h.box.blk.2; omega
  have hgw := h.box.blk.2
  have hvb : ∀ q, vb0.ownBlock = some q → q < w.heap.size := fun q hq => (h.own.lt q hq).2
  obtain ⟨w1, hw1⟩ : ∃ w1, w1 = w.alloc (.cells #[.bool false, .int .i64 2, .int .i64 z, .slice o1 n1 c1, .slice o2 n2 c2] 36) := ⟨_, rfl⟩
  have hA := ownH w false 2 z o1 o2 n1 n2 c1 c2 36
  rw [← hw1] at hA
  have hb1 : Below w.heap.size w w1 := by rw [hw1]; exact below_alloc _ _
  have HB1 := Lib.hid hb1
  have HS1 := Lib.hid (RSt.start (h.up hb1))
  have HA := Lib.hid hA
  have HW1 := Lib.hid hw1
  have HA3 : Hid (∀ st W, RSt w1 B g vb0 st W → Own W w.heap.size 36 (.slice (some ⟨w.heap.size, 0, none⟩) 5 5) [.bool false, .int .i64 2, .int .i64 z, .slice o1 n1 c1, .slice o2 n2 c2]) := Lib.hid (fun st W h => h.own HA.out (fun e => by have e2 : some w.heap.size = some g := e; injection e2 with e2; omega) (fun q hq e => by have e2 : some w.heap.size = some q := hq; injection e2 with e2; have := hvb q e; omega))
  have HBL : Hid (∀ st W, RSt w1 B g vb0 st W → Below B w W) := Lib.hid (fun st W h => (HB1.out.mono hBw).trans h.bel)
  clear h hw1 hb1 hA HA
  have HPK : Hid (∀ (W : World) (st : Nat × Nat), RSt w1 B g vb0 st W → st.2 + 2 ≤ 1000000 → Calls Try.prog 22 #[.pointer (some ⟨g, 0, none⟩), .int .i64 2, .int .i64 2] W fun e w' => e = .returned (.int .i64 0) ∧ RSt w1 B g vb0 (st.1 + 2 * 2 ^ st.2, st.2 + 2) w') := Lib.hid (fun W st h hl => putRW h 2 2 (by decide) (by omega) (by omega))
  have HU1 := Lib.hid hu1
  have HU2 := Lib.hid hu2
  have H15a := Lib.hid (fun j (hj : j < l1.length) => h1 _ (getD_mem l1 j 0 hj))
  have H15b := Lib.hid (fun j (hj : j < l2.length) => h2 _ (getD_mem l2 j 0 hj))
  have HFC : Hid (Calls Try.prog 45 #[.slice o1 n1 c1, .slice o2 n2 c2] w1 fun e w' => e = .returned (.int .i64 0) ∧ Below w1.heap.size w1 w') := Lib.hid ((fits2R _ _ l1 l2 w1 (hu1 _ (HBL.out _ _ HS1.out)) (hu2 _ (HBL.out _ _ HS1.out)) (by omega)).mono fun e w' ⟨he, hb⟩ => ⟨by rw [he, hf0]; rfl, hb⟩)
  have HN1 := Lib.hid he1.symm
  have HN2 := Lib.hid he2.symm
  have HPX := Lib.hid (fun (W : World) (st : Nat × Nat) (v n : Nat) (h : RSt w1 B g vb0 st W) (hv : v < 2 ^ n) (hn : n ≤ 32) (hl : st.2 + n ≤ 2147483648) => putRW h v n hv hn hl)
  have hs1 : (n1 : Int) - 257 = ((n1 - 257 : Nat) : Int) := by omega
  have hs2 : (n2 : Int) - 1 = ((n2 - 1 : Nat) : Int) := by omega
  have hp5 : n1 - 257 < 2 ^ 5 := by omega
  have hp5' : n2 - 1 < 2 ^ 5 := by omega
  have i1 : ¬ (n1 : Int) < 257 := by omega
  have i2 : ¬ (n1 : Int) > 286 := by omega
  have i3 : ¬ (n2 : Int) < 1 := by omega
  have i4 : ¬ (n2 : Int) > 30 := by omega
  obtain ⟨D, hD⟩ : ∃ D, D = putS (dynS l1 l2) (putS [(0, 1), (2, 2)] (N, L)) := ⟨_, rfl⟩
  rw [← hD]
  unfold dynS at hD
  rw [putS_append, putS_append, putS_append, ← he1, ← he2] at hD
  have HD := Lib.hid hD
  clear hD hu1 hu2 h1 h2 he1 he2 hf0
  obtain ⟨m1, hm1⟩ : ∃ m, m = n1 - 257 := ⟨_, rfl⟩
  obtain ⟨m2, hm2⟩ : ∃ m, m = n2 - 1 := ⟨_, rfl⟩
  rw [← hm1] at hs1 hp5
  rw [← hm2] at hs2 hp5'
  have HM1 := Lib.hid hm1.symm
  have HM2 := Lib.hid hm2.symm
  clear hm1 hm2
  go_enter Try.func23, Try.ntmps23
  go_upto_region 12 with (go_at_call 45; rw [← HW1.out]; (with_reducible refine HFC.out.mono ?_); rintro e w2 ⟨rfl, hb2⟩; (have HS2 := Lib.hid (HS1.out.up hb2 (Nat.le_trans hBw HB1.out.size)); have x0w2 := (HA3.out _ _ HS2.out).cell (i := 0) (by simp); have x1w2 := (HA3.out _ _ HS2.out).cell (i := 1) (by simp); have yw2 := (HA3.out _ _ HS2.out).blk.2; clear hb2))
  have HP1 : Hid (Calls Try.prog 22 #[.pointer (some ⟨g, 0, none⟩), .int .i64 0, .int .i64 1] w2 fun e w' => e = .returned (.int .i64 0) ∧ RSt w1 B g vb0 (N + 0 * 2 ^ L, L + 1) w') := Lib.hid (putRW HS2.out 0 1 (by decide) (by omega) (by simp only; omega))
  go_upto_region 22 with (go_at_call 22; first | ((with_reducible refine HP1.out.mono ?_); rintro e w4 ⟨rfl, hq⟩; (have HS_w4 := Lib.hid hq; have x1w4 := (HA3.out _ _ hq).cell (i := 1) (by simp); have yw4 := (HA3.out _ _ hq).blk.2; have HP2 := Lib.hid (HPK.out _ _ hq (by simp only; omega)); clear hq HP1 x1w2 x0w2 yw2)) | ((with_reducible refine HP2.out.mono ?_); rintro e w5 ⟨rfl, hq⟩; (have HS_w5 := Lib.hid hq; have x1w5 := (HA3.out _ _ hq).cell (i := 1) (by simp); have x3w5 := (HA3.out _ _ hq).cell (i := 3) (by simp); have yw5 := (HA3.out _ _ hq).blk.2; have HP3 := Lib.hid (HPX.out _ _ m1 5 hq hp5 (by omega) (by simp only; omega)); rw [show ((5 : Nat) : Int) = 5 from rfl] at HP3; clear hq HP2 x1w4 yw4 HS_w4)) | ((with_reducible refine HP3.out.mono ?_); rintro e w6 ⟨rfl, hq⟩; (have HS_w6 := Lib.hid hq; have x4w6 := (HA3.out _ _ hq).cell (i := 4) (by simp); have yw6 := (HA3.out _ _ hq).blk.2; have HP4 := Lib.hid (HPX.out _ _ m2 5 hq hp5' (by omega) (by simp only; omega)); rw [show ((5 : Nat) : Int) = 5 from rfl] at HP4; clear hq HP3 x1w5 x3w5 yw5 HS_w5)) | ((with_reducible refine HP4.out.mono ?_); rintro e w7 ⟨rfl, hq⟩; (have HS_w7 := Lib.hid hq; have yw7 := (HA3.out _ _ hq).blk.2; have HP5 := Lib.hid (HPX.out _ _ 15 4 hq (by decide) (by omega) (by simp only; omega)); rw [show ((4 : Nat) : Int) = 4 from rfl, show ((15 : Nat) : Int) = 15 from rfl] at HP5; clear hq HP4 x4w6 yw6 HS_w6)))
  obtain ⟨st3, hst3⟩ : ∃ st, st = putS (lenS n1 n2) (putS [(0, 1), (2, 2)] (N, L)) := ⟨_, rfl⟩
  have HS3 := Lib.hid hst3
  rw [← hst3] at HD
  have HL3 : Hid (st3.2 = L + 17) := Lib.hid (by rw [hst3, putS_len, putS_len]; rfl)
  clear hst3
  go_upto_region 23 with (go_at_call 22; (with_reducible refine HP5.out.mono ?_); rintro e w8 ⟨rfl, hq⟩; (have HS8 : Hid (RSt w1 B g vb0 st3 w8) := Lib.hid (by rw [HS3.out]; unfold lenS; rw [HM1.out, HM2.out]; exact hq); clear hq HP5 HS_w7 yw7))
  obtain ⟨vb8, hv8, hb8, hf8⟩ := HS8.out
  have hg8 := hv8.box.blk.2
  have hvb8 : ∀ q, vb8.ownBlock = some q → q < w8.heap.size := fun q hq => (hv8.own.lt q hq).2
  have hhb8 : ∀ q, vb8.ownBlock = some q → q ≠ w.heap.size := fun q hq e => by
    rcases hf8.2.1 q hq with z | z
    · have := hvb q z; omega
    · have := (HA3.out _ _ HS1.out).blk.2; omega
  have hhb := (HA3.out _ _ HS8.out)
  have HFR0 : Hid (Below B w w8 ∧ Fr g vb0 vb8 w w8) := Lib.hid ⟨(HB1.out.mono hBw).trans hb8, ((Fr.refl g vb0 w).below HB1.out).trans hf8⟩
  have hB8 : B ≤ w8.heap.size := Nat.le_trans hBw HFR0.out.1.size
  have HV8 := Lib.hid hv8
  clear hv8 hb8 hf8 HS8
  go_upto_region 24 with (go_at_call 47; (with_reducible refine (ordR _).mono ?_); rintro e w9 ⟨vo, rfl, ho9, hb9⟩; (have HOO := Lib.hid ho9; have HS9 := Lib.hid (RSt.start (HV8.out.up hb9)); have HH9 := Lib.hid (hhb.up hb9); have HFR : Hid (Below B w w9 ∧ Fr g vb0 vb8 w w9) := Lib.hid ⟨HFR0.out.1.trans (hb9.mono hB8), HFR0.out.2.below hb9⟩; clear ho9 hb9))
  have hol : (ints (nls ordN)).length = 19 := rfl
  obtain ⟨oo, co, go, hvo, hdo, -⟩ := HOO.out.cases
  rw [hol] at hvo hdo
  obtain rfl := hdo.hat (by omega)
  subst hvo
  have HGO : Hid (∀ j, j < 19 → (ints (nls ordN)).getD j undef = .int .i64 (ordN.getD j 0 : Nat)) := Lib.hid (fun j hj => by have hl : j < ordN.length := hj; simp [ints, nls, List.getD, hl])
  have HIXO := Lib.hid (fun (W : World) (j : Nat) (hj : j < 19) => index_any (P := Try.prog) 31 3 Try.underlying31 (by kernel_rfl) hdo W .i64 (j : Int) (by omega) (by omega))
  have hgo8 := (HOO.out.lt go rfl).1
  have HO3 : Hid (∀ st W, RSt w9 B g vb8 st W → Own W w8.heap.size 3 (.slice (some ⟨go, 0, none⟩) 19 co) (ints (nls ordN))) := Lib.hid (fun st W h => h.own HOO.out (fun e => by have e2 : some go = some g := e; injection e2 with e2; omega) (fun q hq e => by have e2 : some go = some q := hq; injection e2 with e2; have := hvb8 q e; omega))
  have HH3 : Hid (∀ st W, RSt w9 B g vb8 st W → Own W w.heap.size 36 (.slice (some ⟨w.heap.size, 0, none⟩) 5 5) [.bool false, .int .i64 2, .int .i64 z, .slice o1 n1 c1, .slice o2 n2 c2]) := Lib.hid (fun st W h => h.own HH9.out (fun e => by have e2 : some w.heap.size = some g := e; injection e2 with e2; omega) (fun q hq e => by have e2 : some w.heap.size = some q := hq; injection e2 with e2; exact hhb8 q e e2.symm))
  have HBW : Hid (∀ st W, RSt w9 B g vb8 st W → Below B w W) := Lib.hid (fun st W h => HFR.out.1.trans h.bel)
  clear hol hdo hhb HPX HPK HA3 HBL HOO HH9 HV8 HFR0
  go_wp2
  go_loopg [8] 20 (fun gk i wr => ∃ j, j ≤ 19 ∧ i = .int .i64 (j : Nat) ∧ RSt w9 B g vb8 (putS (ordS.take j) st3) wr ∧ gk = 20 - j)
  case atStart => exact ⟨0, Nat.zero_le _, rfl, HS9.out, rfl⟩
  case round =>
    clear HS9
    obtain ⟨j, hj, rfl, hs, hgk⟩ := hrel
    have HSW := Lib.hid hs
    clear hs
    by_cases hlt : j < 19
    · have hji : (j : Int) < 19 := by omega
      have hoo := HO3.out _ _ HSW.out
      have hcell := hoo.cell (i := j) hlt
      rw [HGO.out j hlt] at hcell
      have hgol := hoo.blk.2
      have hix := fun W => HIXO.out W j hlt
      simp only [Nat.zero_add, Int.toNat_natCast] at hix
      have hy := ordN_lt j
      have HTK : Hid (putS (ordS.take (j + 1)) st3 = ((putS (ordS.take j) st3).1 + (if ordN.getD j 0 < 16 then 4 else 0) * 2 ^ (putS (ordS.take j) st3).2, (putS (ordS.take j) st3).2 + 3)) := Lib.hid (by rw [ordS_take j hlt, putS_snoc])
      have hlen : (putS (ordS.take j) st3).2 ≤ 200000 := by
        have := ordS_len j st3
        have := HL3.out
        omega
      clear hoo
      generalize ordN.getD j 0 = y at *
      by_cases hy16 : y < 16
      · have hyi : (y : Int) < 16 := by omega
        have HPY := Lib.hid (putRW HSW.out 4 3 (by decide) (by omega) (by omega))
        rw [show ((4 : Nat) : Int) = 4 from rfl, show ((3 : Nat) : Int) = 3 from rfl] at HPY
        have HTK2 : Hid (putS (ordS.take (j + 1)) st3 = ((putS (ordS.take j) st3).1 + 4 * 2 ^ (putS (ordS.take j) st3).2, (putS (ordS.take j) st3).2 + 3)) := Lib.hid (by rw [HTK.out, if_pos hy16])
        clear hy16 HTK
        go_wp2_with (go_at_call 22; (with_reducible refine HPY.out.mono ?_); rintro e w10 ⟨rfl, hq⟩; have HQ := Lib.hid hq; clear hq)
        go_roundg (20 - (j + 1))
        case measure => omega
        case rel => exact ⟨j + 1, by omega, by go_num, by rw [HTK2.out]; exact HQ.out, rfl⟩
      · have hyi : ¬ (y : Int) < 16 := by omega
        have HPY := Lib.hid (putRW HSW.out 0 3 (by decide) (by omega) (by omega))
        rw [show ((0 : Nat) : Int) = 0 from rfl, show ((3 : Nat) : Int) = 3 from rfl] at HPY
        have HTK2 : Hid (putS (ordS.take (j + 1)) st3 = ((putS (ordS.take j) st3).1 + 0 * 2 ^ (putS (ordS.take j) st3).2, (putS (ordS.take j) st3).2 + 3)) := Lib.hid (by rw [HTK.out, if_neg hy16])
        clear hy16 HTK
        go_wp2_with (go_at_call 22; (with_reducible refine HPY.out.mono ?_); rintro e w10 ⟨rfl, hq⟩; have HQ := Lib.hid hq; clear hq)
        go_roundg (20 - (j + 1))
        case measure => omega
        case rel => exact ⟨j + 1, by omega, by go_num, by rw [HTK2.out]; exact HQ.out, rfl⟩
    · obtain rfl : j = 19 := by omega
      have HT19 : Hid (putS (ordS.take 19) st3 = putS ordS st3) := Lib.hid (by rw [List.take_of_length_le (by decide)])
      have hl4 : (putS ordS st3).2 ≤ 100071 := by
        have h1 := ordS_len 19 st3
        rw [HT19.out] at h1
        have := HL3.out
        omega
      rw [HT19.out] at HSW
      obtain ⟨st4, hst4⟩ : ∃ st, st = putS ordS st3 := ⟨_, rfl⟩
      rw [← hst4] at HD HSW hl4
      clear hst4 HT19 hlt HO3 HIXO HGO
      go_wp2
      go_loopg [9] (n1 + 1) (fun gq i W => ∃ q, q ≤ n1 ∧ i = .int .i64 (q : Nat) ∧ RSt w9 B g vb8 (putS (codS (l1.take q)) st4) W ∧ gq = n1 + 1 - q)
      case atStart => exact ⟨0, Nat.zero_le _, rfl, by simpa [codS, putS] using HSW.out, rfl⟩
      case round =>
        clear HSW
        obtain ⟨q, hq, rfl, hs2, hgq⟩ := hrel
        have HSQ := Lib.hid hs2
        clear hs2
        have xq := (HH3.out _ _ HSQ.out).cell (i := 3) (by simp)
        have yq := (HH3.out _ _ HSQ.out).blk.2
        by_cases hlq : q < n1
        · have hqi : (q : Int) < (n1 : Int) := by omega
          have hql : q < l1.length := by have := HN1.out; omega
          obtain ⟨oa', cap', b', off', hv', hd', hc'⟩ := (HU1.out _ (HBW.out _ _ HSQ.out)).open
          rw [nls_length, HN1.out] at hv' hd'
          rw [nls_length] at hc'
          injection hv' with q1 q2 q3
          subst q1 q3
          have hix2 := index_any (P := Try.prog) 31 3 Try.underlying31 (by kernel_rfl) hd'
          have hbb := hd'.hblk (by omega)
          have hx := hc' q hql
          rw [nls_getD] at hx
          have hx15 := H15a.out q hql
          have HCK : Hid (putS (codS (l1.take (q + 1))) st4 = ((putS (codS (l1.take q)) st4).1 + turnN (l1.getD q 0) 4 * 2 ^ (putS (codS (l1.take q)) st4).2, (putS (codS (l1.take q)) st4).2 + 4)) := Lib.hid (by rw [codS_take l1 q hql, putS_snoc])
          have hlen : (putS (codS (l1.take q)) st4).2 ≤ 300000 := by rw [codS_len, List.length_take]; omega
          have hx16 : l1.getD q 0 < 2 ^ 4 := by omega
          have HPC := Lib.hid (codeRW HSQ.out (l1.getD q 0) 4 hx16 (by omega) (by omega))
          rw [show ((4 : Nat) : Int) = 4 from rfl] at HPC
          have hm' := hd'.len
          clear hc' hd' hx16
          generalize l1.getD q 0 = y at *
          go_wp2_with (go_at_call 48; (with_reducible refine HPC.out.mono ?_); rintro e w10 ⟨rfl, hqq⟩; have HQ := Lib.hid hqq; clear hqq)
          go_roundg (n1 + 1 - (q + 1))
          case measure => omega
          case rel => exact ⟨q + 1, by omega, by go_num, by rw [HCK.out]; exact HQ.out, rfl⟩
        · obtain rfl : q = n1 := by omega
          have HF : Hid (putS (codS (l1.take q)) st4 = putS (codS l1) st4) := Lib.hid (by rw [List.take_of_length_le (by have := HN1.out; omega)])
          have hl5 : (putS (codS l1) st4).2 ≤ 150000 := by have := HN1.out; rw [codS_len]; omega
          rw [HF.out] at HSQ
          obtain ⟨st5, hst5⟩ : ∃ st, st = putS (codS l1) st4 := ⟨_, rfl⟩
          rw [← hst5] at HD HSQ hl5
          have HSW := HSQ
          clear hlq hst5 HF HSQ
          go_wp2
          go_loopg [10] (n2 + 1) (fun gq i W => ∃ q, q ≤ n2 ∧ i = .int .i64 (q : Nat) ∧ RSt w9 B g vb8 (putS (codS (l2.take q)) st5) W ∧ gq = n2 + 1 - q)
          case atStart => exact ⟨0, Nat.zero_le _, rfl, by simpa [codS, putS] using HSW.out, rfl⟩
          case round =>
            clear HSW
            obtain ⟨q, hq, rfl, hs2, hgq⟩ := hrel
            have HSQ := Lib.hid hs2
            clear hs2
            have xq := (HH3.out _ _ HSQ.out).cell (i := 4) (by simp)
            have yq := (HH3.out _ _ HSQ.out).blk.2
            by_cases hlq : q < n2
            · have hqi : (q : Int) < (n2 : Int) := by omega
              have hql : q < l2.length := by have := HN2.out; omega
              obtain ⟨oa', cap', b', off', hv', hd', hc'⟩ := (HU2.out _ (HBW.out _ _ HSQ.out)).open
              rw [nls_length, HN2.out] at hv' hd'
              rw [nls_length] at hc'
              injection hv' with q1 q2 q3
              subst q1 q3
              have hix2 := index_any (P := Try.prog) 31 3 Try.underlying31 (by kernel_rfl) hd'
              have hbb := hd'.hblk (by omega)
              have hx := hc' q hql
              rw [nls_getD] at hx
              have hx15 := H15b.out q hql
              have HCK : Hid (putS (codS (l2.take (q + 1))) st5 = ((putS (codS (l2.take q)) st5).1 + turnN (l2.getD q 0) 4 * 2 ^ (putS (codS (l2.take q)) st5).2, (putS (codS (l2.take q)) st5).2 + 4)) := Lib.hid (by rw [codS_take l2 q hql, putS_snoc])
              have hlen : (putS (codS (l2.take q)) st5).2 ≤ 300000 := by rw [codS_len, List.length_take]; omega
              have hx16 : l2.getD q 0 < 2 ^ 4 := by omega
              have HPC := Lib.hid (codeRW HSQ.out (l2.getD q 0) 4 hx16 (by omega) (by omega))
              rw [show ((4 : Nat) : Int) = 4 from rfl] at HPC
              have hm' := hd'.len
              clear hc' hd' hx16
              generalize l2.getD q 0 = y at *
              go_wp2_with (go_at_call 48; (with_reducible refine HPC.out.mono ?_); rintro e w10 ⟨rfl, hqq⟩; have HQ := Lib.hid hqq; clear hqq)
              go_roundg (n2 + 1 - (q + 1))
              case measure => omega
              case rel => exact ⟨q + 1, by omega, by go_num, by rw [HCK.out]; exact HQ.out, rfl⟩
            · obtain rfl : q = n2 := by omega
              have HF : Hid (putS (codS (l2.take q)) st5 = putS (codS l2) st5) := Lib.hid (by rw [List.take_of_length_le (by have := HN2.out; omega)])
              rw [HF.out] at HSQ
              clear hlq HF
              go_wp2
              go_ret
              rw [HD.out]
              obtain ⟨vb, h1, h2, h3⟩ := HSQ.out
              exact ⟨rfl, vb, h1, HFR.out.1.trans h2, HFR.out.2.trans h3⟩
set_option maxRecDepth 100000 in
set_option maxHeartbeats 4000000 in
theorem writeHR2true {w : World} {B g N L : Nat} {vb0 : Value} (h : WrtRV w B g N L vb0) (z : Int) (o1 o2 : Option Addr) (n1 n2 c1 c2 : Nat) (l1 l2 : List Nat) (hu1 : ∀ W, Below B w W → IntsAt W (.slice o1 n1 c1) (nls l1)) (hu2 : ∀ W, Below B w W → IntsAt W (.slice o2 n2 c2) (nls l2))
    (he1 : n1 = l1.length) (he2 : n2 = l2.length) (hn1 : 257 ≤ n1) (hn1' : n1 ≤ 286) (hn2 : 1 ≤ n2) (hn2' : n2 ≤ 30) (h1 : ∀ x ∈ l1, x ≤ 15) (h2 : ∀ x ∈ l2, x ≤ 15) (hf0 : fits2 l1 l2 = 0) (hL : L ≤ 1000) :
    Calls Try.prog 23 #[.pointer (some ⟨g, 0, none⟩), .agg #[.bool true, .int .i64 2, .int .i64 z, .slice o1 n1 c1, .slice o2 n2 c2]] w fun e w' => e = .returned (.int .i64 0) ∧ RSt w B g vb0 (putS (dynS l1 l2) (putS [(1, 1), (2, 2)] (N, L))) w' := by
  have hBw : B ≤ w.heap.size := by have := h.ge; have := h.box.blk.2; omega
  have hgw := h.box.blk.2
  have hvb : ∀ q, vb0.ownBlock = some q → q < w.heap.size := fun q hq => (h.own.lt q hq).2
  obtain ⟨w1, hw1⟩ : ∃ w1, w1 = w.alloc (.cells #[.bool true, .int .i64 2, .int .i64 z, .slice o1 n1 c1, .slice o2 n2 c2] 36) := ⟨_, rfl⟩
  have hA := ownH w true 2 z o1 o2 n1 n2 c1 c2 36
  rw [← hw1] at hA
  have hb1 : Below w.heap.size w w1 := by rw [hw1]; exact below_alloc _ _
  have HB1 := Lib.hid hb1
  have HS1 := Lib.hid (RSt.start (h.up hb1))
  have HA := Lib.hid hA
  have HW1 := Lib.hid hw1
  have HA3 : Hid (∀ st W, RSt w1 B g vb0 st W → Own W w.heap.size 36 (.slice (some ⟨w.heap.size, 0, none⟩) 5 5) [.bool true, .int .i64 2, .int .i64 z, .slice o1 n1 c1, .slice o2 n2 c2]) := Lib.hid (fun st W h => h.own HA.out (fun e => by have e2 : some w.heap.size = some g := e; injection e2 with e2; omega) (fun q hq e => by have e2 : some w.heap.size = some q := hq; injection e2 with e2; have := hvb q e; omega))
  have HBL : Hid (∀ st W, RSt w1 B g vb0 st W → Below B w W) := Lib.hid (fun st W h => (HB1.out.mono hBw).trans h.bel)
  clear h hw1 hb1 hA HA
  have HPK : Hid (∀ (W : World) (st : Nat × Nat), RSt w1 B g vb0 st W → st.2 + 2 ≤ 1000000 → Calls Try.prog 22 #[.pointer (some ⟨g, 0, none⟩), .int .i64 2, .int .i64 2] W fun e w' => e = .returned (.int .i64 0) ∧ RSt w1 B g vb0 (st.1 + 2 * 2 ^ st.2, st.2 + 2) w') := Lib.hid (fun W st h hl => putRW h 2 2 (by decide) (by omega) (by omega))
  have HU1 := Lib.hid hu1
  have HU2 := Lib.hid hu2
  have H15a := Lib.hid (fun j (hj : j < l1.length) => h1 _ (getD_mem l1 j 0 hj))
  have H15b := Lib.hid (fun j (hj : j < l2.length) => h2 _ (getD_mem l2 j 0 hj))
  have HFC : Hid (Calls Try.prog 45 #[.slice o1 n1 c1, .slice o2 n2 c2] w1 fun e w' => e = .returned (.int .i64 0) ∧ Below w1.heap.size w1 w') := Lib.hid ((fits2R _ _ l1 l2 w1 (hu1 _ (HBL.out _ _ HS1.out)) (hu2 _ (HBL.out _ _ HS1.out)) (by omega)).mono fun e w' ⟨he, hb⟩ => ⟨by rw [he, hf0]; rfl, hb⟩)
  have HN1 := Lib.hid he1.symm
  have HN2 := Lib.hid he2.symm
  have HPX := Lib.hid (fun (W : World) (st : Nat × Nat) (v n : Nat) (h : RSt w1 B g vb0 st W) (hv : v < 2 ^ n) (hn : n ≤ 32) (hl : st.2 + n ≤ 2147483648) => putRW h v n hv hn hl)
  have hs1 : (n1 : Int) - 257 = ((n1 - 257 : Nat) : Int) := by omega
  have hs2 : (n2 : Int) - 1 = ((n2 - 1 : Nat) : Int) := by omega
  have hp5 : n1 - 257 < 2 ^ 5 := by omega
  have hp5' : n2 - 1 < 2 ^ 5 := by omega
  have i1 : ¬ (n1 : Int) < 257 := by omega
  have i2 : ¬ (n1 : Int) > 286 := by omega
  have i3 : ¬ (n2 : Int) < 1 := by omega
  have i4 : ¬ (n2 : Int) > 30 := by omega
  obtain ⟨D, hD⟩ : ∃ D, D = putS (dynS l1 l2) (putS [(1, 1), (2, 2)] (N, L)) := ⟨_, rfl⟩
  rw [← hD]
  unfold dynS at hD
  rw [putS_append, putS_append, putS_append, ← he1, ← he2] at hD
  have HD := Lib.hid hD
  clear hD hu1 hu2 h1 h2 he1 he2 hf0
  obtain ⟨m1, hm1⟩ : ∃ m, m = n1 - 257 := ⟨_, rfl⟩
  obtain ⟨m2, hm2⟩ : ∃ m, m = n2 - 1 := ⟨_, rfl⟩
  rw [← hm1] at hs1 hp5
  rw [← hm2] at hs2 hp5'
  have HM1 := Lib.hid hm1.symm
  have HM2 := Lib.hid hm2.symm
  clear hm1 hm2
  go_enter Try.func23, Try.ntmps23
  go_upto_region 12 with (go_at_call 45; rw [← HW1.out]; (with_reducible refine HFC.out.mono ?_); rintro e w2 ⟨rfl, hb2⟩; (have HS2 := Lib.hid (HS1.out.up hb2 (Nat.le_trans hBw HB1.out.size)); have x0w2 := (HA3.out _ _ HS2.out).cell (i := 0) (by simp); have x1w2 := (HA3.out _ _ HS2.out).cell (i := 1) (by simp); have yw2 := (HA3.out _ _ HS2.out).blk.2; clear hb2))
  have HP1 : Hid (Calls Try.prog 22 #[.pointer (some ⟨g, 0, none⟩), .int .i64 1, .int .i64 1] w2 fun e w' => e = .returned (.int .i64 0) ∧ RSt w1 B g vb0 (N + 1 * 2 ^ L, L + 1) w') := Lib.hid (putRW HS2.out 1 1 (by decide) (by omega) (by simp only; omega))
  go_upto_region 22 with (go_at_call 22; first | ((with_reducible refine HP1.out.mono ?_); rintro e w4 ⟨rfl, hq⟩; (have HS_w4 := Lib.hid hq; have x1w4 := (HA3.out _ _ hq).cell (i := 1) (by simp); have yw4 := (HA3.out _ _ hq).blk.2; have HP2 := Lib.hid (HPK.out _ _ hq (by simp only; omega)); clear hq HP1 x1w2 x0w2 yw2)) | ((with_reducible refine HP2.out.mono ?_); rintro e w5 ⟨rfl, hq⟩; (have HS_w5 := Lib.hid hq; have x1w5 := (HA3.out _ _ hq).cell (i := 1) (by simp); have x3w5 := (HA3.out _ _ hq).cell (i := 3) (by simp); have yw5 := (HA3.out _ _ hq).blk.2; have HP3 := Lib.hid (HPX.out _ _ m1 5 hq hp5 (by omega) (by simp only; omega)); rw [show ((5 : Nat) : Int) = 5 from rfl] at HP3; clear hq HP2 x1w4 yw4 HS_w4)) | ((with_reducible refine HP3.out.mono ?_); rintro e w6 ⟨rfl, hq⟩; (have HS_w6 := Lib.hid hq; have x4w6 := (HA3.out _ _ hq).cell (i := 4) (by simp); have yw6 := (HA3.out _ _ hq).blk.2; have HP4 := Lib.hid (HPX.out _ _ m2 5 hq hp5' (by omega) (by simp only; omega)); rw [show ((5 : Nat) : Int) = 5 from rfl] at HP4; clear hq HP3 x1w5 x3w5 yw5 HS_w5)) | ((with_reducible refine HP4.out.mono ?_); rintro e w7 ⟨rfl, hq⟩; (have HS_w7 := Lib.hid hq; have yw7 := (HA3.out _ _ hq).blk.2; have HP5 := Lib.hid (HPX.out _ _ 15 4 hq (by decide) (by omega) (by simp only; omega)); rw [show ((4 : Nat) : Int) = 4 from rfl, show ((15 : Nat) : Int) = 15 from rfl] at HP5; clear hq HP4 x4w6 yw6 HS_w6)))
  obtain ⟨st3, hst3⟩ : ∃ st, st = putS (lenS n1 n2) (putS [(1, 1), (2, 2)] (N, L)) := ⟨_, rfl⟩
  have HS3 := Lib.hid hst3
  rw [← hst3] at HD
  have HL3 : Hid (st3.2 = L + 17) := Lib.hid (by rw [hst3, putS_len, putS_len]; rfl)
  clear hst3
  go_upto_region 23 with (go_at_call 22; (with_reducible refine HP5.out.mono ?_); rintro e w8 ⟨rfl, hq⟩; (have HS8 : Hid (RSt w1 B g vb0 st3 w8) := Lib.hid (by rw [HS3.out]; unfold lenS; rw [HM1.out, HM2.out]; exact hq); clear hq HP5 HS_w7 yw7))
  obtain ⟨vb8, hv8, hb8, hf8⟩ := HS8.out
  have hg8 := hv8.box.blk.2
  have hvb8 : ∀ q, vb8.ownBlock = some q → q < w8.heap.size := fun q hq => (hv8.own.lt q hq).2
  have hhb8 : ∀ q, vb8.ownBlock = some q → q ≠ w.heap.size := fun q hq e => by
    rcases hf8.2.1 q hq with z | z
    · have := hvb q z; omega
    · have := (HA3.out _ _ HS1.out).blk.2; omega
  have hhb := (HA3.out _ _ HS8.out)
  have HFR0 : Hid (Below B w w8 ∧ Fr g vb0 vb8 w w8) := Lib.hid ⟨(HB1.out.mono hBw).trans hb8, ((Fr.refl g vb0 w).below HB1.out).trans hf8⟩
  have hB8 : B ≤ w8.heap.size := Nat.le_trans hBw HFR0.out.1.size
  have HV8 := Lib.hid hv8
  clear hv8 hb8 hf8 HS8
  go_upto_region 24 with (go_at_call 47; (with_reducible refine (ordR _).mono ?_); rintro e w9 ⟨vo, rfl, ho9, hb9⟩; (have HOO := Lib.hid ho9; have HS9 := Lib.hid (RSt.start (HV8.out.up hb9)); have HH9 := Lib.hid (hhb.up hb9); have HFR : Hid (Below B w w9 ∧ Fr g vb0 vb8 w w9) := Lib.hid ⟨HFR0.out.1.trans (hb9.mono hB8), HFR0.out.2.below hb9⟩; clear ho9 hb9))
  have hol : (ints (nls ordN)).length = 19 := rfl
  obtain ⟨oo, co, go, hvo, hdo, -⟩ := HOO.out.cases
  rw [hol] at hvo hdo
  obtain rfl := hdo.hat (by omega)
  subst hvo
  have HGO : Hid (∀ j, j < 19 → (ints (nls ordN)).getD j undef = .int .i64 (ordN.getD j 0 : Nat)) := Lib.hid (fun j hj => by have hl : j < ordN.length := hj; simp [ints, nls, List.getD, hl])
  have HIXO := Lib.hid (fun (W : World) (j : Nat) (hj : j < 19) => index_any (P := Try.prog) 31 3 Try.underlying31 (by kernel_rfl) hdo W .i64 (j : Int) (by omega) (by omega))
  have hgo8 := (HOO.out.lt go rfl).1
  have HO3 : Hid (∀ st W, RSt w9 B g vb8 st W → Own W w8.heap.size 3 (.slice (some ⟨go, 0, none⟩) 19 co) (ints (nls ordN))) := Lib.hid (fun st W h => h.own HOO.out (fun e => by have e2 : some go = some g := e; injection e2 with e2; omega) (fun q hq e => by have e2 : some go = some q := hq; injection e2 with e2; have := hvb8 q e; omega))
  have HH3 : Hid (∀ st W, RSt w9 B g vb8 st W → Own W w.heap.size 36 (.slice (some ⟨w.heap.size, 0, none⟩) 5 5) [.bool true, .int .i64 2, .int .i64 z, .slice o1 n1 c1, .slice o2 n2 c2]) := Lib.hid (fun st W h => h.own HH9.out (fun e => by have e2 : some w.heap.size = some g := e; injection e2 with e2; omega) (fun q hq e => by have e2 : some w.heap.size = some q := hq; injection e2 with e2; exact hhb8 q e e2.symm))
  have HBW : Hid (∀ st W, RSt w9 B g vb8 st W → Below B w W) := Lib.hid (fun st W h => HFR.out.1.trans h.bel)
  clear hol hdo hhb HPX HPK HA3 HBL HOO HH9 HV8 HFR0
  go_wp2
  go_loopg [8] 20 (fun gk i wr => ∃ j, j ≤ 19 ∧ i = .int .i64 (j : Nat) ∧ RSt w9 B g vb8 (putS (ordS.take j) st3) wr ∧ gk = 20 - j)
  case atStart => exact ⟨0, Nat.zero_le _, rfl, HS9.out, rfl⟩
  case round =>
    clear HS9
    obtain ⟨j, hj, rfl, hs, hgk⟩ := hrel
    have HSW := Lib.hid hs
    clear hs
    by_cases hlt : j < 19
    · have hji : (j : Int) < 19 := by omega
      have hoo := HO3.out _ _ HSW.out
      have hcell := hoo.cell (i := j) hlt
      rw [HGO.out j hlt] at hcell
      have hgol := hoo.blk.2
      have hix := fun W => HIXO.out W j hlt
      simp only [Nat.zero_add, Int.toNat_natCast] at hix
      have hy := ordN_lt j
      have HTK : Hid (putS (ordS.take (j + 1)) st3 = ((putS (ordS.take j) st3).1 + (if ordN.getD j 0 < 16 then 4 else 0) * 2 ^ (putS (ordS.take j) st3).2, (putS (ordS.take j) st3).2 + 3)) := Lib.hid (by rw [ordS_take j hlt, putS_snoc])
      have hlen : (putS (ordS.take j) st3).2 ≤ 200000 := by
        have := ordS_len j st3
        have := HL3.out
        omega
      clear hoo
      generalize ordN.getD j 0 = y at *
      by_cases hy16 : y < 16
      · have hyi : (y : Int) < 16 := by omega
        have HPY := Lib.hid (putRW HSW.out 4 3 (by decide) (by omega) (by omega))
        rw [show ((4 : Nat) : Int) = 4 from rfl, show ((3 : Nat) : Int) = 3 from rfl] at HPY
        have HTK2 : Hid (putS (ordS.take (j + 1)) st3 = ((putS (ordS.take j) st3).1 + 4 * 2 ^ (putS (ordS.take j) st3).2, (putS (ordS.take j) st3).2 + 3)) := Lib.hid (by rw [HTK.out, if_pos hy16])
        clear hy16 HTK
        go_wp2_with (go_at_call 22; (with_reducible refine HPY.out.mono ?_); rintro e w10 ⟨rfl, hq⟩; have HQ := Lib.hid hq; clear hq)
        go_roundg (20 - (j + 1))
        case measure => omega
        case rel => exact ⟨j + 1, by omega, by go_num, by rw [HTK2.out]; exact HQ.out, rfl⟩
      · have hyi : ¬ (y : Int) < 16 := by omega
        have HPY := Lib.hid (putRW HSW.out 0 3 (by decide) (by omega) (by omega))
        rw [show ((0 : Nat) : Int) = 0 from rfl, show ((3 : Nat) : Int) = 3 from rfl] at HPY
        have HTK2 : Hid (putS (ordS.take (j + 1)) st3 = ((putS (ordS.take j) st3).1 + 0 * 2 ^ (putS (ordS.take j) st3).2, (putS (ordS.take j) st3).2 + 3)) := Lib.hid (by rw [HTK.out, if_neg hy16])
        clear hy16 HTK
        go_wp2_with (go_at_call 22; (with_reducible refine HPY.out.mono ?_); rintro e w10 ⟨rfl, hq⟩; have HQ := Lib.hid hq; clear hq)
        go_roundg (20 - (j + 1))
        case measure => omega
        case rel => exact ⟨j + 1, by omega, by go_num, by rw [HTK2.out]; exact HQ.out, rfl⟩
    · obtain rfl : j = 19 := by omega
      have HT19 : Hid (putS (ordS.take 19) st3 = putS ordS st3) := Lib.hid (by rw [List.take_of_length_le (by decide)])
      have hl4 : (putS ordS st3).2 ≤ 100071 := by
        have h1 := ordS_len 19 st3
        rw [HT19.out] at h1
        have := HL3.out
        omega
      rw [HT19.out] at HSW
      obtain ⟨st4, hst4⟩ : ∃ st, st = putS ordS st3 := ⟨_, rfl⟩
      rw [← hst4] at HD HSW hl4
      clear hst4 HT19 hlt HO3 HIXO HGO
      go_wp2
      go_loopg [9] (n1 + 1) (fun gq i W => ∃ q, q ≤ n1 ∧ i = .int .i64 (q : Nat) ∧ RSt w9 B g vb8 (putS (codS (l1.take q)) st4) W ∧ gq = n1 + 1 - q)
      case atStart => exact ⟨0, Nat.zero_le _, rfl, by simpa [codS, putS] using HSW.out, rfl⟩
      case round =>
        clear HSW
        obtain ⟨q, hq, rfl, hs2, hgq⟩ := hrel
        have HSQ := Lib.hid hs2
        clear hs2
        have xq := (HH3.out _ _ HSQ.out).cell (i := 3) (by simp)
        have yq := (HH3.out _ _ HSQ.out).blk.2
        by_cases hlq : q < n1
        · have hqi : (q : Int) < (n1 : Int) := by omega
          have hql : q < l1.length := by have := HN1.out; omega
          obtain ⟨oa', cap', b', off', hv', hd', hc'⟩ := (HU1.out _ (HBW.out _ _ HSQ.out)).open
          rw [nls_length, HN1.out] at hv' hd'
          rw [nls_length] at hc'
          injection hv' with q1 q2 q3
          subst q1 q3
          have hix2 := index_any (P := Try.prog) 31 3 Try.underlying31 (by kernel_rfl) hd'
          have hbb := hd'.hblk (by omega)
          have hx := hc' q hql
          rw [nls_getD] at hx
          have hx15 := H15a.out q hql
          have HCK : Hid (putS (codS (l1.take (q + 1))) st4 = ((putS (codS (l1.take q)) st4).1 + turnN (l1.getD q 0) 4 * 2 ^ (putS (codS (l1.take q)) st4).2, (putS (codS (l1.take q)) st4).2 + 4)) := Lib.hid (by rw [codS_take l1 q hql, putS_snoc])
          have hlen : (putS (codS (l1.take q)) st4).2 ≤ 300000 := by rw [codS_len, List.length_take]; omega
          have hx16 : l1.getD q 0 < 2 ^ 4 := by omega
          have HPC := Lib.hid (codeRW HSQ.out (l1.getD q 0) 4 hx16 (by omega) (by omega))
          rw [show ((4 : Nat) : Int) = 4 from rfl] at HPC
          have hm' := hd'.len
          clear hc' hd' hx16
          generalize l1.getD q 0 = y at *
          go_wp2_with (go_at_call 48; (with_reducible refine HPC.out.mono ?_); rintro e w10 ⟨rfl, hqq⟩; have HQ := Lib.hid hqq; clear hqq)
          go_roundg (n1 + 1 - (q + 1))
          case measure => omega
          case rel => exact ⟨q + 1, by omega, by go_num, by rw [HCK.out]; exact HQ.out, rfl⟩
        · obtain rfl : q = n1 := by omega
          have HF : Hid (putS (codS (l1.take q)) st4 = putS (codS l1) st4) := Lib.hid (by rw [List.take_of_length_le (by have := HN1.out; omega)])
          have hl5 : (putS (codS l1) st4).2 ≤ 150000 := by have := HN1.out; rw [codS_len]; omega
          rw [HF.out] at HSQ
          obtain ⟨st5, hst5⟩ : ∃ st, st = putS (codS l1) st4 := ⟨_, rfl⟩
          rw [← hst5] at HD HSQ hl5
          have HSW := HSQ
          clear hlq hst5 HF HSQ
          go_wp2
          go_loopg [10] (n2 + 1) (fun gq i W => ∃ q, q ≤ n2 ∧ i = .int .i64 (q : Nat) ∧ RSt w9 B g vb8 (putS (codS (l2.take q)) st5) W ∧ gq = n2 + 1 - q)
          case atStart => exact ⟨0, Nat.zero_le _, rfl, by simpa [codS, putS] using HSW.out, rfl⟩
          case round =>
            clear HSW
            obtain ⟨q, hq, rfl, hs2, hgq⟩ := hrel
            have HSQ := Lib.hid hs2
            clear hs2
            have xq := (HH3.out _ _ HSQ.out).cell (i := 4) (by simp)
            have yq := (HH3.out _ _ HSQ.out).blk.2
            by_cases hlq : q < n2
            · have hqi : (q : Int) < (n2 : Int) := by omega
              have hql : q < l2.length := by have := HN2.out; omega
              obtain ⟨oa', cap', b', off', hv', hd', hc'⟩ := (HU2.out _ (HBW.out _ _ HSQ.out)).open
              rw [nls_length, HN2.out] at hv' hd'
              rw [nls_length] at hc'
              injection hv' with q1 q2 q3
              subst q1 q3
              have hix2 := index_any (P := Try.prog) 31 3 Try.underlying31 (by kernel_rfl) hd'
              have hbb := hd'.hblk (by omega)
              have hx := hc' q hql
              rw [nls_getD] at hx
              have hx15 := H15b.out q hql
              have HCK : Hid (putS (codS (l2.take (q + 1))) st5 = ((putS (codS (l2.take q)) st5).1 + turnN (l2.getD q 0) 4 * 2 ^ (putS (codS (l2.take q)) st5).2, (putS (codS (l2.take q)) st5).2 + 4)) := Lib.hid (by rw [codS_take l2 q hql, putS_snoc])
              have hlen : (putS (codS (l2.take q)) st5).2 ≤ 300000 := by rw [codS_len, List.length_take]; omega
              have hx16 : l2.getD q 0 < 2 ^ 4 := by omega
              have HPC := Lib.hid (codeRW HSQ.out (l2.getD q 0) 4 hx16 (by omega) (by omega))
              rw [show ((4 : Nat) : Int) = 4 from rfl] at HPC
              have hm' := hd'.len
              clear hc' hd' hx16
              generalize l2.getD q 0 = y at *
              go_wp2_with (go_at_call 48; (with_reducible refine HPC.out.mono ?_); rintro e w10 ⟨rfl, hqq⟩; have HQ := Lib.hid hqq; clear hqq)
              go_roundg (n2 + 1 - (q + 1))
              case measure => omega
              case rel => exact ⟨q + 1, by omega, by go_num, by rw [HCK.out]; exact HQ.out, rfl⟩
            · obtain rfl : q = n2 := by omega
              have HF : Hid (putS (codS (l2.take q)) st5 = putS (codS l2) st5) := Lib.hid (by rw [List.take_of_length_le (by have := HN2.out; omega)])
              rw [HF.out] at HSQ
              clear hlq HF
              go_wp2
              go_ret
              rw [HD.out]
              obtain ⟨vb, h1, h2, h3⟩ := HSQ.out
              exact ⟨rfl, vb, h1, HFR.out.1.trans h2, HFR.out.2.trans h3⟩
end Go.Cm
