/- Texts of this claim, joined: walks of small functions and plain facts about them. Conditions: as each says. -/
import Derived.Test.YtmophmeiemfikaaRows
import Derived.WalkKit
import Derived.WalkSpells
import Derived.WalkLawsBesides
import Derived.Deep.QuietTactic
import Derived.BigQuiet
import Derived.Lib.Hide
import Derived.Deep.LoopGhost
import Derived.Laws.BitsLemmas
import Derived.Laws.Small
import Derived.Deep.DeepCutAuto
import Derived.Deep.CutBlock
import Derived.Deep.CutRange
import Derived.Test.YtmophmeiemfikaaMG
/- The walks of the document's Write of a head: stored and fixed ones. Conditions: the writer is there. -/
namespace Go.Cm
open Go.RowKit Go.Proofs

set_option maxRecDepth 100000 in
set_option maxHeartbeats 4000000 in
theorem writeHR0false {w : World} {B g N L : Nat} {vb0 : Value} (h : WrtRV w B g N L vb0) (zn : Nat) (hzn : zn ≤ 65535) (o1 o2 : Option Addr) (n1 n2 c1 c2 : Nat) (hL : L ≤ 100000000) :
    Calls Try.prog 47 #[.pointer (some ⟨g, 0, none⟩), .agg #[.bool false, .int .i64 0, .int .i64 (zn : Nat), .slice o1 n1 c1, .slice o2 n2 c2]] w fun e w' => e = .returned (.int .i64 0) ∧ RSt w B g vb0 (putS [(zn, 16), (65535 - zn, 16)] (alignW (putS [(0, 1), (0, 2)] (N, L)))) w' := by
  have hBw : B ≤ w.heap.size := by have := h.ge; have := h.box.blk.2; omega
  have hgw := h.box.blk.2
  have hvb : ∀ q, vb0.ownBlock = some q → q < w.heap.size := fun q hq => (h.own.lt q hq).2
  obtain ⟨w1, hw1⟩ : ∃ w1, w1 = w.alloc (.cells #[.bool false, .int .i64 0, .int .i64 (zn : Nat), .slice o1 n1 c1, .slice o2 n2 c2] 95) := ⟨_, rfl⟩
  have hA := ownH w false 0 (zn : Nat) o1 o2 n1 n2 c1 c2 95
  rw [← hw1] at hA
  have hb1 : Below w.heap.size w w1 := by rw [hw1]; exact below_alloc _ _
  have HB1 := Lib.hid hb1
  have HS1 := Lib.hid (RSt.start (h.up hb1))
  have HA := Lib.hid hA
  have HW1 := Lib.hid hw1
  have HA3 : Hid (∀ st W, RSt w1 B g vb0 st W → Own W w.heap.size 95 (.slice (some ⟨w.heap.size, 0, none⟩) 5 5) [.bool false, .int .i64 0, .int .i64 (zn : Nat), .slice o1 n1 c1, .slice o2 n2 c2]) := Lib.hid (fun st W h => h.own HA.out (fun e => by have e2 : some w.heap.size = some g := e; injection e2 with e2; omega) (fun q hq e => by have e2 : some w.heap.size = some q := hq; injection e2 with e2; have := hvb q e; omega))
  have HBL : Hid (∀ st W, RSt w1 B g vb0 st W → Below B w W) := Lib.hid (fun st W h => (HB1.out.mono hBw).trans h.bel)
  clear h hw1 hb1 hA HA
  have HPK : Hid (∀ (W : World) (st : Nat × Nat), RSt w1 B g vb0 st W → st.2 + 2 ≤ 300000000 → Calls Try.prog 75 #[.pointer (some ⟨g, 0, none⟩), .int .i64 0, .int .i64 2] W fun e w' => e = .returned (.int .i64 0) ∧ RSt w1 B g vb0 (st.1 + 0 * 2 ^ st.2, st.2 + 2) w') := Lib.hid (fun W st h hl => putRW h 0 2 (by decide) (by omega) (by omega))
  have HP1 : Hid (Calls Try.prog 75 #[.pointer (some ⟨g, 0, none⟩), .int .i64 0, .int .i64 1] w1 fun e w' => e = .returned (.int .i64 0) ∧ RSt w1 B g vb0 (N + 0 * 2 ^ L, L + 1) w') := Lib.hid (putRW HS1.out 0 1 (by decide) (by omega) (by simp only; omega))
  have HAL := Lib.hid (fun (W : World) (st : Nat × Nat) (h : RSt w1 B g vb0 st W) (hl : st.2 ≤ 300000000) => alignRW h hl)
  have HP6 := Lib.hid (fun (W : World) (st : Nat × Nat) (v : Nat) (h : RSt w1 B g vb0 st W) (hv : v < 2 ^ 16) (hl : st.2 + 16 ≤ 2147483648) => putRW h v 16 hv (by omega) hl)
  rw [show ((16 : Nat) : Int) = 16 from rfl] at HP6
  have hal : (alignW (N + 0 * 2 ^ L + 0 * 2 ^ (L + 1), L + 1 + 2)).2 ≤ 150000000 := by show alignN (L + 1 + 2) ≤ 150000000; unfold alignN; omega
  have hznt : 65535 - zn < 2 ^ 16 := by omega
  have hznt0 : zn < 2 ^ 16 := by omega
  have hsub : (65535 : Int) - (zn : Int) = ((65535 - zn : Nat) : Int) := by omega
  obtain ⟨zt, hzt⟩ : ∃ zt, zt = 65535 - zn := ⟨_, rfl⟩
  rw [← hzt] at hznt hsub ⊢
  have hz1 : ¬ (zn : Int) < 0 := by omega
  have hz2 : ¬ (zn : Int) > 65535 := by omega
  clear hzt
  go_enter Try.func47, Try.ntmps47
  go_upto_region 12 with fail
  rw [← HW1.out]
  have x1w1 := (HA3.out _ _ HS1.out).cell (i := 1) (by simp)
  have yw1 := (HA3.out _ _ HS1.out).blk.2
  go_upto_region 14 with (go_at_call 75; first | ((with_reducible refine HP1.out.mono ?_); rintro e w4 ⟨rfl, hq⟩; (have HS_w4 := Lib.hid hq; have x1w4 := (HA3.out _ _ hq).cell (i := 1) (by simp); have yw4 := (HA3.out _ _ hq).blk.2; have HP2 := Lib.hid (HPK.out _ _ hq (by simp only; omega)); clear hq HP1 x1w1 yw1)) | ((with_reducible refine HP2.out.mono ?_); rintro e w5 ⟨rfl, hq⟩; (have HS_w5 := Lib.hid hq; have x1w5 := (HA3.out _ _ hq).cell (i := 1) (by simp); have yw5 := (HA3.out _ _ hq).blk.2; have HA5 := Lib.hid (HAL.out _ _ hq (by simp only; omega)); clear hq HP2 x1w4 yw4 HS_w4)))
  go_upto_region 16 with (go_at_call 76; (with_reducible refine HA5.out.mono ?_); rintro e w6 ⟨rfl, hq⟩; (have HS_w6 := Lib.hid hq; have x2w6 := (HA3.out _ _ hq).cell (i := 2) (by simp); have yw6 := (HA3.out _ _ hq).blk.2; have HPZ := Lib.hid (HP6.out _ _ zn hq hznt0 (by omega)); clear hq HA5 x1w5 yw5 HS_w5))
  go_upto_region 18 with (go_at_call 75; first | ((with_reducible refine HPZ.out.mono ?_); rintro e w7 ⟨rfl, hq⟩; (have HS_w7 := Lib.hid hq; have x2w7 := (HA3.out _ _ hq).cell (i := 2) (by simp); have yw7 := (HA3.out _ _ hq).blk.2; have HPY := Lib.hid (HP6.out _ _ zt hq hznt (by simp only; omega)); clear hq HPZ x2w6 yw6 HS_w6)) | ((with_reducible refine HPY.out.mono ?_); rintro e w8 ⟨rfl, hq⟩; (have HS_w8 := Lib.hid hq; have x1w8 := (HA3.out _ _ hq).cell (i := 1) (by simp); have yw8 := (HA3.out _ _ hq).blk.2; clear hq HPY x2w7 yw7 HS_w7)))
  go_wp2
  go_ret
  exact ⟨rfl, HS_w8.out.from1 HB1.out hBw⟩
set_option maxRecDepth 100000 in
set_option maxHeartbeats 4000000 in
theorem writeHR0true {w : World} {B g N L : Nat} {vb0 : Value} (h : WrtRV w B g N L vb0) (zn : Nat) (hzn : zn ≤ 65535) (o1 o2 : Option Addr) (n1 n2 c1 c2 : Nat) (hL : L ≤ 100000000) :
    Calls Try.prog 47 #[.pointer (some ⟨g, 0, none⟩), .agg #[.bool true, .int .i64 0, .int .i64 (zn : Nat), .slice o1 n1 c1, .slice o2 n2 c2]] w fun e w' => e = .returned (.int .i64 0) ∧ RSt w B g vb0 (putS [(zn, 16), (65535 - zn, 16)] (alignW (putS [(1, 1), (0, 2)] (N, L)))) w' := by
  have hBw : B ≤ w.heap.size := by have := h.ge; have := h.box.blk.2; omega
  have hgw := h.box.blk.2
  have hvb : ∀ q, vb0.ownBlock = some q → q < w.heap.size := fun q hq => (h.own.lt q hq).2
  obtain ⟨w1, hw1⟩ : ∃ w1, w1 = w.alloc (.cells #[.bool true, .int .i64 0, .int .i64 (zn : Nat), .slice o1 n1 c1, .slice o2 n2 c2] 95) := ⟨_, rfl⟩
  have hA := ownH w true 0 (zn : Nat) o1 o2 n1 n2 c1 c2 95
  rw [← hw1] at hA
  have hb1 : Below w.heap.size w w1 := by rw [hw1]; exact below_alloc _ _
  have HB1 := Lib.hid hb1
  have HS1 := Lib.hid (RSt.start (h.up hb1))
  have HA := Lib.hid hA
  have HW1 := Lib.hid hw1
  have HA3 : Hid (∀ st W, RSt w1 B g vb0 st W → Own W w.heap.size 95 (.slice (some ⟨w.heap.size, 0, none⟩) 5 5) [.bool true, .int .i64 0, .int .i64 (zn : Nat), .slice o1 n1 c1, .slice o2 n2 c2]) := Lib.hid (fun st W h => h.own HA.out (fun e => by have e2 : some w.heap.size = some g := e; injection e2 with e2; omega) (fun q hq e => by have e2 : some w.heap.size = some q := hq; injection e2 with e2; have := hvb q e; omega))
  have HBL : Hid (∀ st W, RSt w1 B g vb0 st W → Below B w W) := Lib.hid (fun st W h => (HB1.out.mono hBw).trans h.bel)
  clear h hw1 hb1 hA HA
  have HPK : Hid (∀ (W : World) (st : Nat × Nat), RSt w1 B g vb0 st W → st.2 + 2 ≤ 300000000 → Calls Try.prog 75 #[.pointer (some ⟨g, 0, none⟩), .int .i64 0, .int .i64 2] W fun e w' => e = .returned (.int .i64 0) ∧ RSt w1 B g vb0 (st.1 + 0 * 2 ^ st.2, st.2 + 2) w') := Lib.hid (fun W st h hl => putRW h 0 2 (by decide) (by omega) (by omega))
  have HP1 : Hid (Calls Try.prog 75 #[.pointer (some ⟨g, 0, none⟩), .int .i64 1, .int .i64 1] w1 fun e w' => e = .returned (.int .i64 0) ∧ RSt w1 B g vb0 (N + 1 * 2 ^ L, L + 1) w') := Lib.hid (putRW HS1.out 1 1 (by decide) (by omega) (by simp only; omega))
  have HAL := Lib.hid (fun (W : World) (st : Nat × Nat) (h : RSt w1 B g vb0 st W) (hl : st.2 ≤ 300000000) => alignRW h hl)
  have HP6 := Lib.hid (fun (W : World) (st : Nat × Nat) (v : Nat) (h : RSt w1 B g vb0 st W) (hv : v < 2 ^ 16) (hl : st.2 + 16 ≤ 2147483648) => putRW h v 16 hv (by omega) hl)
  rw [show ((16 : Nat) : Int) = 16 from rfl] at HP6
  have hal : (alignW (N + 1 * 2 ^ L + 0 * 2 ^ (L + 1), L + 1 + 2)).2 ≤ 150000000 := by show alignN (L + 1 + 2) ≤ 150000000; unfold alignN; omega
  have hznt : 65535 - zn < 2 ^ 16 := by omega
  have hznt0 : zn < 2 ^ 16 := by omega
  have hsub : (65535 : Int) - (zn : Int) = ((65535 - zn : Nat) : Int) := by omega
  obtain ⟨zt, hzt⟩ : ∃ zt, zt = 65535 - zn := ⟨_, rfl⟩
  rw [← hzt] at hznt hsub ⊢
  have hz1 : ¬ (zn : Int) < 0 := by omega
  have hz2 : ¬ (zn : Int) > 65535 := by omega
  clear hzt
  go_enter Try.func47, Try.ntmps47
  go_upto_region 12 with fail
  rw [← HW1.out]
  have x1w1 := (HA3.out _ _ HS1.out).cell (i := 1) (by simp)
  have yw1 := (HA3.out _ _ HS1.out).blk.2
  go_upto_region 14 with (go_at_call 75; first | ((with_reducible refine HP1.out.mono ?_); rintro e w4 ⟨rfl, hq⟩; (have HS_w4 := Lib.hid hq; have x1w4 := (HA3.out _ _ hq).cell (i := 1) (by simp); have yw4 := (HA3.out _ _ hq).blk.2; have HP2 := Lib.hid (HPK.out _ _ hq (by simp only; omega)); clear hq HP1 x1w1 yw1)) | ((with_reducible refine HP2.out.mono ?_); rintro e w5 ⟨rfl, hq⟩; (have HS_w5 := Lib.hid hq; have x1w5 := (HA3.out _ _ hq).cell (i := 1) (by simp); have yw5 := (HA3.out _ _ hq).blk.2; have HA5 := Lib.hid (HAL.out _ _ hq (by simp only; omega)); clear hq HP2 x1w4 yw4 HS_w4)))
  go_upto_region 16 with (go_at_call 76; (with_reducible refine HA5.out.mono ?_); rintro e w6 ⟨rfl, hq⟩; (have HS_w6 := Lib.hid hq; have x2w6 := (HA3.out _ _ hq).cell (i := 2) (by simp); have yw6 := (HA3.out _ _ hq).blk.2; have HPZ := Lib.hid (HP6.out _ _ zn hq hznt0 (by omega)); clear hq HA5 x1w5 yw5 HS_w5))
  go_upto_region 18 with (go_at_call 75; first | ((with_reducible refine HPZ.out.mono ?_); rintro e w7 ⟨rfl, hq⟩; (have HS_w7 := Lib.hid hq; have x2w7 := (HA3.out _ _ hq).cell (i := 2) (by simp); have yw7 := (HA3.out _ _ hq).blk.2; have HPY := Lib.hid (HP6.out _ _ zt hq hznt (by simp only; omega)); clear hq HPZ x2w6 yw6 HS_w6)) | ((with_reducible refine HPY.out.mono ?_); rintro e w8 ⟨rfl, hq⟩; (have HS_w8 := Lib.hid hq; have x1w8 := (HA3.out _ _ hq).cell (i := 1) (by simp); have yw8 := (HA3.out _ _ hq).blk.2; clear hq HPY x2w7 yw7 HS_w7)))
  go_wp2
  go_ret
  exact ⟨rfl, HS_w8.out.from1 HB1.out hBw⟩
set_option maxRecDepth 100000 in
set_option maxHeartbeats 4000000 in
theorem writeHR1false {w : World} {B g N L : Nat} {vb0 : Value} (h : WrtRV w B g N L vb0) (z : Int) (o1 o2 : Option Addr) (n1 n2 c1 c2 : Nat) (hL : L ≤ 100000000) :
    Calls Try.prog 47 #[.pointer (some ⟨g, 0, none⟩), .agg #[.bool false, .int .i64 1, .int .i64 z, .slice o1 n1 c1, .slice o2 n2 c2]] w fun e w' => e = .returned (.int .i64 0) ∧ RSt w B g vb0 (putS [(0, 1), (1, 2)] (N, L)) w' := by
  have hBw : B ≤ w.heap.size := by have := h.ge; have := h.box.blk.2; omega
  have hgw := h.box.blk.2
  have hvb : ∀ q, vb0.ownBlock = some q → q < w.heap.size := fun q hq => (h.own.lt q hq).2
  obtain ⟨w1, hw1⟩ : ∃ w1, w1 = w.alloc (.cells #[.bool false, .int .i64 1, .int .i64 z, .slice o1 n1 c1, .slice o2 n2 c2] 95) := ⟨_, rfl⟩
  have hA := ownH w false 1 z o1 o2 n1 n2 c1 c2 95
  rw [← hw1] at hA
  have hb1 : Below w.heap.size w w1 := by rw [hw1]; exact below_alloc _ _
  have HB1 := Lib.hid hb1
  have HS1 := Lib.hid (RSt.start (h.up hb1))
  have HA := Lib.hid hA
  have HW1 := Lib.hid hw1
  have HA3 : Hid (∀ st W, RSt w1 B g vb0 st W → Own W w.heap.size 95 (.slice (some ⟨w.heap.size, 0, none⟩) 5 5) [.bool false, .int .i64 1, .int .i64 z, .slice o1 n1 c1, .slice o2 n2 c2]) := Lib.hid (fun st W h => h.own HA.out (fun e => by have e2 : some w.heap.size = some g := e; injection e2 with e2; omega) (fun q hq e => by have e2 : some w.heap.size = some q := hq; injection e2 with e2; have := hvb q e; omega))
  have HBL : Hid (∀ st W, RSt w1 B g vb0 st W → Below B w W) := Lib.hid (fun st W h => (HB1.out.mono hBw).trans h.bel)
  clear h hw1 hb1 hA HA
  have HPK : Hid (∀ (W : World) (st : Nat × Nat), RSt w1 B g vb0 st W → st.2 + 2 ≤ 300000000 → Calls Try.prog 75 #[.pointer (some ⟨g, 0, none⟩), .int .i64 1, .int .i64 2] W fun e w' => e = .returned (.int .i64 0) ∧ RSt w1 B g vb0 (st.1 + 1 * 2 ^ st.2, st.2 + 2) w') := Lib.hid (fun W st h hl => putRW h 1 2 (by decide) (by omega) (by omega))
  have HP1 : Hid (Calls Try.prog 75 #[.pointer (some ⟨g, 0, none⟩), .int .i64 0, .int .i64 1] w1 fun e w' => e = .returned (.int .i64 0) ∧ RSt w1 B g vb0 (N + 0 * 2 ^ L, L + 1) w') := Lib.hid (putRW HS1.out 0 1 (by decide) (by omega) (by simp only; omega))
  go_enter Try.func47, Try.ntmps47
  go_upto_region 12 with fail
  rw [← HW1.out]
  have x1w1 := (HA3.out _ _ HS1.out).cell (i := 1) (by simp)
  have yw1 := (HA3.out _ _ HS1.out).blk.2
  go_wp2_with (go_at_call 75; first | ((with_reducible refine HP1.out.mono ?_); rintro e w4 ⟨rfl, hq⟩; (have HS_w4 := Lib.hid hq; have x1w4 := (HA3.out _ _ hq).cell (i := 1) (by simp); have yw4 := (HA3.out _ _ hq).blk.2; have HP2 := Lib.hid (HPK.out _ _ hq (by simp only; omega)); clear hq HP1 x1w1 yw1)) | ((with_reducible refine HP2.out.mono ?_); rintro e w5 ⟨rfl, hq⟩; (have HS_w5 := Lib.hid hq; have x1w5 := (HA3.out _ _ hq).cell (i := 1) (by simp); have yw5 := (HA3.out _ _ hq).blk.2; clear hq HP2 x1w4 yw4 HS_w4)))
  go_ret
  exact ⟨rfl, HS_w5.out.from1 HB1.out hBw⟩
set_option maxRecDepth 100000 in
set_option maxHeartbeats 4000000 in
theorem writeHR1true {w : World} {B g N L : Nat} {vb0 : Value} (h : WrtRV w B g N L vb0) (z : Int) (o1 o2 : Option Addr) (n1 n2 c1 c2 : Nat) (hL : L ≤ 100000000) :
    Calls Try.prog 47 #[.pointer (some ⟨g, 0, none⟩), .agg #[.bool true, .int .i64 1, .int .i64 z, .slice o1 n1 c1, .slice o2 n2 c2]] w fun e w' => e = .returned (.int .i64 0) ∧ RSt w B g vb0 (putS [(1, 1), (1, 2)] (N, L)) w' := by
  have hBw : B ≤ w.heap.size := by have := h.ge; have := h.box.blk.2; omega
  have hgw := h.box.blk.2
  have hvb : ∀ q, vb0.ownBlock = some q → q < w.heap.size := fun q hq => (h.own.lt q hq).2
  obtain ⟨w1, hw1⟩ : ∃ w1, w1 = w.alloc (.cells #[.bool true, .int .i64 1, .int .i64 z, .slice o1 n1 c1, .slice o2 n2 c2] 95) := ⟨_, rfl⟩
  have hA := ownH w true 1 z o1 o2 n1 n2 c1 c2 95
  rw [← hw1] at hA
  have hb1 : Below w.heap.size w w1 := by rw [hw1]; exact below_alloc _ _
  have HB1 := Lib.hid hb1
  have HS1 := Lib.hid (RSt.start (h.up hb1))
  have HA := Lib.hid hA
  have HW1 := Lib.hid hw1
  have HA3 : Hid (∀ st W, RSt w1 B g vb0 st W → Own W w.heap.size 95 (.slice (some ⟨w.heap.size, 0, none⟩) 5 5) [.bool true, .int .i64 1, .int .i64 z, .slice o1 n1 c1, .slice o2 n2 c2]) := Lib.hid (fun st W h => h.own HA.out (fun e => by have e2 : some w.heap.size = some g := e; injection e2 with e2; omega) (fun q hq e => by have e2 : some w.heap.size = some q := hq; injection e2 with e2; have := hvb q e; omega))
  have HBL : Hid (∀ st W, RSt w1 B g vb0 st W → Below B w W) := Lib.hid (fun st W h => (HB1.out.mono hBw).trans h.bel)
  clear h hw1 hb1 hA HA
  have HPK : Hid (∀ (W : World) (st : Nat × Nat), RSt w1 B g vb0 st W → st.2 + 2 ≤ 300000000 → Calls Try.prog 75 #[.pointer (some ⟨g, 0, none⟩), .int .i64 1, .int .i64 2] W fun e w' => e = .returned (.int .i64 0) ∧ RSt w1 B g vb0 (st.1 + 1 * 2 ^ st.2, st.2 + 2) w') := Lib.hid (fun W st h hl => putRW h 1 2 (by decide) (by omega) (by omega))
  have HP1 : Hid (Calls Try.prog 75 #[.pointer (some ⟨g, 0, none⟩), .int .i64 1, .int .i64 1] w1 fun e w' => e = .returned (.int .i64 0) ∧ RSt w1 B g vb0 (N + 1 * 2 ^ L, L + 1) w') := Lib.hid (putRW HS1.out 1 1 (by decide) (by omega) (by simp only; omega))
  go_enter Try.func47, Try.ntmps47
  go_upto_region 12 with fail
  rw [← HW1.out]
  have x1w1 := (HA3.out _ _ HS1.out).cell (i := 1) (by simp)
  have yw1 := (HA3.out _ _ HS1.out).blk.2
  go_wp2_with (go_at_call 75; first | ((with_reducible refine HP1.out.mono ?_); rintro e w4 ⟨rfl, hq⟩; (have HS_w4 := Lib.hid hq; have x1w4 := (HA3.out _ _ hq).cell (i := 1) (by simp); have yw4 := (HA3.out _ _ hq).blk.2; have HP2 := Lib.hid (HPK.out _ _ hq (by simp only; omega)); clear hq HP1 x1w1 yw1)) | ((with_reducible refine HP2.out.mono ?_); rintro e w5 ⟨rfl, hq⟩; (have HS_w5 := Lib.hid hq; have x1w5 := (HA3.out _ _ hq).cell (i := 1) (by simp); have yw5 := (HA3.out _ _ hq).blk.2; clear hq HP2 x1w4 yw4 HS_w4)))
  go_ret
  exact ⟨rfl, HS_w5.out.from1 HB1.out hBw⟩
end Go.Cm

/- The walks of the document's Write of a head: dynamic ones. Conditions: the writer is there, the lengths are right. -/
namespace Go.Cm
open Go.RowKit Go.Proofs

set_option maxRecDepth 100000 in
set_option maxHeartbeats 4000000 in
theorem writeHR2false {w : World} {B g N L : Nat} {vb0 : Value} (h : WrtRV w B g N L vb0) (z : Int) (o1 o2 : Option Addr) (n1 n2 c1 c2 : Nat) (l1 l2 : List Nat) (hu1 : ∀ W, Below B w W → IntsAt W (.slice o1 n1 c1) (nls l1)) (hu2 : ∀ W, Below B w W → IntsAt W (.slice o2 n2 c2) (nls l2))
    (he1 : n1 = l1.length) (he2 : n2 = l2.length) (hn1 : 257 ≤ n1) (hn1' : n1 ≤ 286) (hn2 : 1 ≤ n2) (hn2' : n2 ≤ 30) (h1 : ∀ x ∈ l1, x ≤ 15) (h2 : ∀ x ∈ l2, x ≤ 15) (hf0 : fits2 l1 l2 = 0) (hL : L ≤ 100000000) :
    Calls Try.prog 47 #[.pointer (some ⟨g, 0, none⟩), .agg #[.bool false, .int .i64 2, .int .i64 z, .slice o1 n1 c1, .slice o2 n2 c2]] w fun e w' => e = .returned (.int .i64 0) ∧ RSt w B g vb0 (putS (dynS l1 l2) (putS [(0, 1), (2, 2)] (N, L))) w' := by
  have hBw : B ≤ w.heap.size := by have := h.ge; have := h.box.blk.2; omega
  have hgw := h.box.blk.2
  have hvb : ∀ q, vb0.ownBlock = some q → q < w.heap.size := fun q hq => (h.own.lt q hq).2
  obtain ⟨w1, hw1⟩ : ∃ w1, w1 = w.alloc (.cells #[.bool false, .int .i64 2, .int .i64 z, .slice o1 n1 c1, .slice o2 n2 c2] 95) := ⟨_, rfl⟩
  have hA := ownH w false 2 z o1 o2 n1 n2 c1 c2 95
  rw [← hw1] at hA
  have hb1 : Below w.heap.size w w1 := by rw [hw1]; exact below_alloc _ _
  have HB1 := Lib.hid hb1
  have HS1 := Lib.hid (RSt.start (h.up hb1))
  have HA := Lib.hid hA
  have HW1 := Lib.hid hw1
  have HA3 : Hid (∀ st W, RSt w1 B g vb0 st W → Own W w.heap.size 95 (.slice (some ⟨w.heap.size, 0, none⟩) 5 5) [.bool false, .int .i64 2, .int .i64 z, .slice o1 n1 c1, .slice o2 n2 c2]) := Lib.hid (fun st W h => h.own HA.out (fun e => by have e2 : some w.heap.size = some g := e; injection e2 with e2; omega) (fun q hq e => by have e2 : some w.heap.size = some q := hq; injection e2 with e2; have := hvb q e; omega))
  have HBL : Hid (∀ st W, RSt w1 B g vb0 st W → Below B w W) := Lib.hid (fun st W h => (HB1.out.mono hBw).trans h.bel)
  clear h hw1 hb1 hA HA
  have HPK : Hid (∀ (W : World) (st : Nat × Nat), RSt w1 B g vb0 st W → st.2 + 2 ≤ 300000000 → Calls Try.prog 75 #[.pointer (some ⟨g, 0, none⟩), .int .i64 2, .int .i64 2] W fun e w' => e = .returned (.int .i64 0) ∧ RSt w1 B g vb0 (st.1 + 2 * 2 ^ st.2, st.2 + 2) w') := Lib.hid (fun W st h hl => putRW h 2 2 (by decide) (by omega) (by omega))
  have HU1 := Lib.hid hu1
  have HU2 := Lib.hid hu2
  have H15a := Lib.hid (fun j (hj : j < l1.length) => h1 _ (getD_mem l1 j 0 hj))
  have H15b := Lib.hid (fun j (hj : j < l2.length) => h2 _ (getD_mem l2 j 0 hj))
  have HFC : Hid (Calls Try.prog 74 #[.slice o1 n1 c1, .slice o2 n2 c2] w1 fun e w' => e = .returned (.int .i64 0) ∧ Below w1.heap.size w1 w') := Lib.hid ((fits2R _ _ l1 l2 w1 (hu1 _ (HBL.out _ _ HS1.out)) (hu2 _ (HBL.out _ _ HS1.out)) (by omega)).mono fun e w' ⟨he, hb⟩ => ⟨by rw [he, hf0]; rfl, hb⟩)
  have HN1 := Lib.hid he1.symm
  have HN2 := Lib.hid he2.symm
  have HPX := Lib.hid (fun (W : World) (st : Nat × Nat) (v n : Nat) (h : RSt w1 B g vb0 st W) (hv : v < 2 ^ n) (hn : n ≤ 32) (hl : st.2 + n ≤ 2147483648) => putRW h v n hv hn hl)
  have hs1 : (n1 : Int) - 257 = ((n1 - 257 : Nat) : Int) := by omega
  have hs2 : (n2 : Int) - 1 = ((n2 - 1 : Nat) : Int) := by omega
  have hp5 : n1 - 257 < 2 ^ 5 := by omega
  have hp5' : n2 - 1 < 2 ^ 5 := by omega
  have i1 : ¬ (n1 : Int) < 257 := by omega
  have i2 : ¬ (n1 : Int) > 286 := by omega
  have i3 : ¬ (n2 : Int) < 1 := by omega
  have i4 : ¬ (n2 : Int) > 30 := by omega
  obtain ⟨D, hD⟩ : ∃ D, D = putS (dynS l1 l2) (putS [(0, 1), (2, 2)] (N, L)) := ⟨_, rfl⟩
  rw [← hD]
  unfold dynS at hD
  rw [putS_append, putS_append, putS_append, ← he1, ← he2] at hD
  have HD := Lib.hid hD
  clear hD hu1 hu2 h1 h2 he1 he2 hf0
  obtain ⟨m1, hm1⟩ : ∃ m, m = n1 - 257 := ⟨_, rfl⟩
  obtain ⟨m2, hm2⟩ : ∃ m, m = n2 - 1 := ⟨_, rfl⟩
  rw [← hm1] at hs1 hp5
  rw [← hm2] at hs2 hp5'
  have HM1 := Lib.hid hm1.symm
  have HM2 := Lib.hid hm2.symm
  clear hm1 hm2
  go_enter Try.func47, Try.ntmps47
  go_upto_region 12 with (go_at_call 74; rw [← HW1.out]; (with_reducible refine HFC.out.mono ?_); rintro e w2 ⟨rfl, hb2⟩; (have HS2 := Lib.hid (HS1.out.up hb2 (Nat.le_trans hBw HB1.out.size)); have x0w2 := (HA3.out _ _ HS2.out).cell (i := 0) (by simp); have x1w2 := (HA3.out _ _ HS2.out).cell (i := 1) (by simp); have yw2 := (HA3.out _ _ HS2.out).blk.2; clear hb2))
  have HP1 : Hid (Calls Try.prog 75 #[.pointer (some ⟨g, 0, none⟩), .int .i64 0, .int .i64 1] w2 fun e w' => e = .returned (.int .i64 0) ∧ RSt w1 B g vb0 (N + 0 * 2 ^ L, L + 1) w') := Lib.hid (putRW HS2.out 0 1 (by decide) (by omega) (by simp only; omega))
  go_upto_region 22 with (go_at_call 75; first | ((with_reducible refine HP1.out.mono ?_); rintro e w4 ⟨rfl, hq⟩; (have HS_w4 := Lib.hid hq; have x1w4 := (HA3.out _ _ hq).cell (i := 1) (by simp); have yw4 := (HA3.out _ _ hq).blk.2; have HP2 := Lib.hid (HPK.out _ _ hq (by simp only; omega)); clear hq HP1 x1w2 x0w2 yw2)) | ((with_reducible refine HP2.out.mono ?_); rintro e w5 ⟨rfl, hq⟩; (have HS_w5 := Lib.hid hq; have x1w5 := (HA3.out _ _ hq).cell (i := 1) (by simp); have x3w5 := (HA3.out _ _ hq).cell (i := 3) (by simp); have yw5 := (HA3.out _ _ hq).blk.2; have HP3 := Lib.hid (HPX.out _ _ m1 5 hq hp5 (by omega) (by simp only; omega)); rw [show ((5 : Nat) : Int) = 5 from rfl] at HP3; clear hq HP2 x1w4 yw4 HS_w4)) | ((with_reducible refine HP3.out.mono ?_); rintro e w6 ⟨rfl, hq⟩; (have HS_w6 := Lib.hid hq; have x4w6 := (HA3.out _ _ hq).cell (i := 4) (by simp); have yw6 := (HA3.out _ _ hq).blk.2; have HP4 := Lib.hid (HPX.out _ _ m2 5 hq hp5' (by omega) (by simp only; omega)); rw [show ((5 : Nat) : Int) = 5 from rfl] at HP4; clear hq HP3 x1w5 x3w5 yw5 HS_w5)) | ((with_reducible refine HP4.out.mono ?_); rintro e w7 ⟨rfl, hq⟩; (have HS_w7 := Lib.hid hq; have yw7 := (HA3.out _ _ hq).blk.2; have HP5 := Lib.hid (HPX.out _ _ 15 4 hq (by decide) (by omega) (by simp only; omega)); rw [show ((4 : Nat) : Int) = 4 from rfl, show ((15 : Nat) : Int) = 15 from rfl] at HP5; clear hq HP4 x4w6 yw6 HS_w6)))
  obtain ⟨st3, hst3⟩ : ∃ st, st = putS (lenS n1 n2) (putS [(0, 1), (2, 2)] (N, L)) := ⟨_, rfl⟩
  have HS3 := Lib.hid hst3
  rw [← hst3] at HD
  have HL3 : Hid (st3.2 = L + 17) := Lib.hid (by rw [hst3, putS_len, putS_len]; rfl)
  clear hst3
  go_upto_region 23 with (go_at_call 75; (with_reducible refine HP5.out.mono ?_); rintro e w8 ⟨rfl, hq⟩; (have HS8 : Hid (RSt w1 B g vb0 st3 w8) := Lib.hid (by rw [HS3.out]; unfold lenS; rw [HM1.out, HM2.out]; exact hq); clear hq HP5 HS_w7 yw7))
  obtain ⟨vb8, hv8, hb8, hf8⟩ := HS8.out
  have hg8 := hv8.box.blk.2
  have hvb8 : ∀ q, vb8.ownBlock = some q → q < w8.heap.size := fun q hq => (hv8.own.lt q hq).2
  have hhb8 : ∀ q, vb8.ownBlock = some q → q ≠ w.heap.size := fun q hq e => by
    rcases hf8.2.1 q hq with z | z
    · have := hvb q z; omega
    · have := (HA3.out _ _ HS1.out).blk.2; omega
  have hhb := (HA3.out _ _ HS8.out)
  have HFR0 : Hid (Below B w w8 ∧ Fr g vb0 vb8 w w8) := Lib.hid ⟨(HB1.out.mono hBw).trans hb8, ((Fr.refl g vb0 w).below HB1.out).trans hf8⟩
  have hB8 : B ≤ w8.heap.size := Nat.le_trans hBw HFR0.out.1.size
  have HV8 := Lib.hid hv8
  clear hv8 hb8 hf8 HS8
  go_upto_region 24 with (go_at_call 77; (with_reducible refine (ordR _).mono ?_); rintro e w9 ⟨vo, rfl, ho9, hb9⟩; (have HOO := Lib.hid ho9; have HS9 := Lib.hid (RSt.start (HV8.out.up hb9)); have HH9 := Lib.hid (hhb.up hb9); have HFR : Hid (Below B w w9 ∧ Fr g vb0 vb8 w w9) := Lib.hid ⟨HFR0.out.1.trans (hb9.mono hB8), HFR0.out.2.below hb9⟩; clear ho9 hb9))
  have hol : (ints (nls ordN)).length = 19 := rfl
  obtain ⟨oo, co, go, hvo, hdo, -⟩ := HOO.out.cases
  rw [hol] at hvo hdo
  obtain rfl := hdo.hat (by omega)
  subst hvo
  have HGO : Hid (∀ j, j < 19 → (ints (nls ordN)).getD j undef = .int .i64 (ordN.getD j 0 : Nat)) := Lib.hid (fun j hj => by have hl : j < ordN.length := hj; simp [ints, nls, List.getD, hl])
  have HIXO := Lib.hid (fun (W : World) (j : Nat) (hj : j < 19) => index_any (P := Try.prog) 39 3 Try.underlying39 (by kernel_rfl) hdo W .i64 (j : Int) (by omega) (by omega))
  have hgo8 := (HOO.out.lt go rfl).1
  have HO3 : Hid (∀ st W, RSt w9 B g vb8 st W → Own W w8.heap.size 3 (.slice (some ⟨go, 0, none⟩) 19 co) (ints (nls ordN))) := Lib.hid (fun st W h => h.own HOO.out (fun e => by have e2 : some go = some g := e; injection e2 with e2; omega) (fun q hq e => by have e2 : some go = some q := hq; injection e2 with e2; have := hvb8 q e; omega))
  have HH3 : Hid (∀ st W, RSt w9 B g vb8 st W → Own W w.heap.size 95 (.slice (some ⟨w.heap.size, 0, none⟩) 5 5) [.bool false, .int .i64 2, .int .i64 z, .slice o1 n1 c1, .slice o2 n2 c2]) := Lib.hid (fun st W h => h.own HH9.out (fun e => by have e2 : some w.heap.size = some g := e; injection e2 with e2; omega) (fun q hq e => by have e2 : some w.heap.size = some q := hq; injection e2 with e2; exact hhb8 q e e2.symm))
  have HBW : Hid (∀ st W, RSt w9 B g vb8 st W → Below B w W) := Lib.hid (fun st W h => HFR.out.1.trans h.bel)
  clear hol hdo hhb HPX HPK HA3 HBL HOO HH9 HV8 HFR0
  go_wp2
  go_loopg [8] 20 (fun gk i wr => ∃ j, j ≤ 19 ∧ i = .int .i64 (j : Nat) ∧ RSt w9 B g vb8 (putS (ordS.take j) st3) wr ∧ gk = 20 - j)
  case atStart => exact ⟨0, Nat.zero_le _, rfl, HS9.out, rfl⟩
  case round =>
    clear HS9
    obtain ⟨j, hj, rfl, hs, hgk⟩ := hrel
    have HSW := Lib.hid hs
    clear hs
    by_cases hlt : j < 19
    · have hji : (j : Int) < 19 := by omega
      have hoo := HO3.out _ _ HSW.out
      have hcell := hoo.cell (i := j) hlt
      rw [HGO.out j hlt] at hcell
      have hgol := hoo.blk.2
      have hix := fun W => HIXO.out W j hlt
      simp only [Nat.zero_add, Int.toNat_natCast] at hix
      have hy := ordN_lt j
      have HTK : Hid (putS (ordS.take (j + 1)) st3 = ((putS (ordS.take j) st3).1 + (if ordN.getD j 0 < 16 then 4 else 0) * 2 ^ (putS (ordS.take j) st3).2, (putS (ordS.take j) st3).2 + 3)) := Lib.hid (by rw [ordS_take j hlt, putS_snoc])
      have hlen : (putS (ordS.take j) st3).2 ≤ 300000000 := by
        have := ordS_len j st3
        have := HL3.out
        omega
      clear hoo
      generalize ordN.getD j 0 = y at *
      by_cases hy16 : y < 16
      · have hyi : (y : Int) < 16 := by omega
        have HPY := Lib.hid (putRW HSW.out 4 3 (by decide) (by omega) (by omega))
        rw [show ((4 : Nat) : Int) = 4 from rfl, show ((3 : Nat) : Int) = 3 from rfl] at HPY
        have HTK2 : Hid (putS (ordS.take (j + 1)) st3 = ((putS (ordS.take j) st3).1 + 4 * 2 ^ (putS (ordS.take j) st3).2, (putS (ordS.take j) st3).2 + 3)) := Lib.hid (by rw [HTK.out, if_pos hy16])
        clear hy16 HTK
        go_wp2_with (go_at_call 75; (with_reducible refine HPY.out.mono ?_); rintro e w10 ⟨rfl, hq⟩; have HQ := Lib.hid hq; clear hq)
        go_roundg (20 - (j + 1))
        case measure => omega
        case rel => exact ⟨j + 1, by omega, by go_num, by rw [HTK2.out]; exact HQ.out, rfl⟩
      · have hyi : ¬ (y : Int) < 16 := by omega
        have HPY := Lib.hid (putRW HSW.out 0 3 (by decide) (by omega) (by omega))
        rw [show ((0 : Nat) : Int) = 0 from rfl, show ((3 : Nat) : Int) = 3 from rfl] at HPY
        have HTK2 : Hid (putS (ordS.take (j + 1)) st3 = ((putS (ordS.take j) st3).1 + 0 * 2 ^ (putS (ordS.take j) st3).2, (putS (ordS.take j) st3).2 + 3)) := Lib.hid (by rw [HTK.out, if_neg hy16])
        clear hy16 HTK
        go_wp2_with (go_at_call 75; (with_reducible refine HPY.out.mono ?_); rintro e w10 ⟨rfl, hq⟩; have HQ := Lib.hid hq; clear hq)
        go_roundg (20 - (j + 1))
        case measure => omega
        case rel => exact ⟨j + 1, by omega, by go_num, by rw [HTK2.out]; exact HQ.out, rfl⟩
    · obtain rfl : j = 19 := by omega
      have HT19 : Hid (putS (ordS.take 19) st3 = putS ordS st3) := Lib.hid (by rw [List.take_of_length_le (by decide)])
      have hl4 : (putS ordS st3).2 ≤ 200000071 := by
        have h1 := ordS_len 19 st3
        rw [HT19.out] at h1
        have := HL3.out
        omega
      rw [HT19.out] at HSW
      obtain ⟨st4, hst4⟩ : ∃ st, st = putS ordS st3 := ⟨_, rfl⟩
      rw [← hst4] at HD HSW hl4
      clear hst4 HT19 hlt HO3 HIXO HGO
      go_wp2
      go_loopg [9] (n1 + 1) (fun gq i W => ∃ q, q ≤ n1 ∧ i = .int .i64 (q : Nat) ∧ RSt w9 B g vb8 (putS (codS (l1.take q)) st4) W ∧ gq = n1 + 1 - q)
      case atStart => exact ⟨0, Nat.zero_le _, rfl, by simpa [codS, putS] using HSW.out, rfl⟩
      case round =>
        clear HSW
        obtain ⟨q, hq, rfl, hs2, hgq⟩ := hrel
        have HSQ := Lib.hid hs2
        clear hs2
        have xq := (HH3.out _ _ HSQ.out).cell (i := 3) (by simp)
        have yq := (HH3.out _ _ HSQ.out).blk.2
        by_cases hlq : q < n1
        · have hqi : (q : Int) < (n1 : Int) := by omega
          have hql : q < l1.length := by have := HN1.out; omega
          obtain ⟨oa', cap', b', off', hv', hd', hc'⟩ := (HU1.out _ (HBW.out _ _ HSQ.out)).open
          rw [nls_length, HN1.out] at hv' hd'
          rw [nls_length] at hc'
          injection hv' with q1 q2 q3
          subst q1 q3
          have hix2 := index_any (P := Try.prog) 39 3 Try.underlying39 (by kernel_rfl) hd'
          have hbb := hd'.hblk (by omega)
          have hx := hc' q hql
          rw [nls_getD] at hx
          have hx15 := H15a.out q hql
          have HCK : Hid (putS (codS (l1.take (q + 1))) st4 = ((putS (codS (l1.take q)) st4).1 + turnN (l1.getD q 0) 4 * 2 ^ (putS (codS (l1.take q)) st4).2, (putS (codS (l1.take q)) st4).2 + 4)) := Lib.hid (by rw [codS_take l1 q hql, putS_snoc])
          have hlen : (putS (codS (l1.take q)) st4).2 ≤ 500000000 := by rw [codS_len, List.length_take]; omega
          have hx16 : l1.getD q 0 < 2 ^ 4 := by omega
          have HPC := Lib.hid (codeRW HSQ.out (l1.getD q 0) 4 hx16 (by omega) (by omega))
          rw [show ((4 : Nat) : Int) = 4 from rfl] at HPC
          have hm' := hd'.len
          clear hc' hd' hx16
          generalize l1.getD q 0 = y at *
          go_wp2_with (go_at_call 78; (with_reducible refine HPC.out.mono ?_); rintro e w10 ⟨rfl, hqq⟩; have HQ := Lib.hid hqq; clear hqq)
          go_roundg (n1 + 1 - (q + 1))
          case measure => omega
          case rel => exact ⟨q + 1, by omega, by go_num, by rw [HCK.out]; exact HQ.out, rfl⟩
        · obtain rfl : q = n1 := by omega
          have HF : Hid (putS (codS (l1.take q)) st4 = putS (codS l1) st4) := Lib.hid (by rw [List.take_of_length_le (by have := HN1.out; omega)])
          have hl5 : (putS (codS l1) st4).2 ≤ 300000000 := by have := HN1.out; rw [codS_len]; omega
          rw [HF.out] at HSQ
          obtain ⟨st5, hst5⟩ : ∃ st, st = putS (codS l1) st4 := ⟨_, rfl⟩
          rw [← hst5] at HD HSQ hl5
          have HSW := HSQ
          clear hlq hst5 HF HSQ
          go_wp2
          go_loopg [10] (n2 + 1) (fun gq i W => ∃ q, q ≤ n2 ∧ i = .int .i64 (q : Nat) ∧ RSt w9 B g vb8 (putS (codS (l2.take q)) st5) W ∧ gq = n2 + 1 - q)
          case atStart => exact ⟨0, Nat.zero_le _, rfl, by simpa [codS, putS] using HSW.out, rfl⟩
          case round =>
            clear HSW
            obtain ⟨q, hq, rfl, hs2, hgq⟩ := hrel
            have HSQ := Lib.hid hs2
            clear hs2
            have xq := (HH3.out _ _ HSQ.out).cell (i := 4) (by simp)
            have yq := (HH3.out _ _ HSQ.out).blk.2
            by_cases hlq : q < n2
            · have hqi : (q : Int) < (n2 : Int) := by omega
              have hql : q < l2.length := by have := HN2.out; omega
              obtain ⟨oa', cap', b', off', hv', hd', hc'⟩ := (HU2.out _ (HBW.out _ _ HSQ.out)).open
              rw [nls_length, HN2.out] at hv' hd'
              rw [nls_length] at hc'
              injection hv' with q1 q2 q3
              subst q1 q3
              have hix2 := index_any (P := Try.prog) 39 3 Try.underlying39 (by kernel_rfl) hd'
              have hbb := hd'.hblk (by omega)
              have hx := hc' q hql
              rw [nls_getD] at hx
              have hx15 := H15b.out q hql
              have HCK : Hid (putS (codS (l2.take (q + 1))) st5 = ((putS (codS (l2.take q)) st5).1 + turnN (l2.getD q 0) 4 * 2 ^ (putS (codS (l2.take q)) st5).2, (putS (codS (l2.take q)) st5).2 + 4)) := Lib.hid (by rw [codS_take l2 q hql, putS_snoc])
              have hlen : (putS (codS (l2.take q)) st5).2 ≤ 500000000 := by rw [codS_len, List.length_take]; omega
              have hx16 : l2.getD q 0 < 2 ^ 4 := by omega
              have HPC := Lib.hid (codeRW HSQ.out (l2.getD q 0) 4 hx16 (by omega) (by omega))
              rw [show ((4 : Nat) : Int) = 4 from rfl] at HPC
              have hm' := hd'.len
              clear hc' hd' hx16
              generalize l2.getD q 0 = y at *
              go_wp2_with (go_at_call 78; (with_reducible refine HPC.out.mono ?_); rintro e w10 ⟨rfl, hqq⟩; have HQ := Lib.hid hqq; clear hqq)
              go_roundg (n2 + 1 - (q + 1))
              case measure => omega
              case rel => exact ⟨q + 1, by omega, by go_num, by rw [HCK.out]; exact HQ.out, rfl⟩
            · obtain rfl : q = n2 := by omega
              have HF : Hid (putS (codS (l2.take q)) st5 = putS (codS l2) st5) := Lib.hid (by rw [List.take_of_length_le (by have := HN2.out; omega)])
              rw [HF.out] at HSQ
              clear hlq HF
              go_wp2
              go_ret
              rw [HD.out]
              obtain ⟨vb, h1, h2, h3⟩ := HSQ.out
              exact ⟨rfl, vb, h1, HFR.out.1.trans h2, HFR.out.2.trans h3⟩
set_option maxRecDepth 100000 in
set_option maxHeartbeats 4000000 in
theorem writeHR2true {w : World} {B g N L : Nat} {vb0 : Value} (h : WrtRV w B g N L vb0) (z : Int) (o1 o2 : Option Addr) (n1 n2 c1 c2 : Nat) (l1 l2 : List Nat) (hu1 : ∀ W, Below B w W → IntsAt W (.slice o1 n1 c1) (nls l1)) (hu2 : ∀ W, Below B w W → IntsAt W (.slice o2 n2 c2) (nls l2))
    (he1 : n1 = l1.length) (he2 : n2 = l2.length) (hn1 : 257 ≤ n1) (hn1' : n1 ≤ 286) (hn2 : 1 ≤ n2) (hn2' : n2 ≤ 30) (h1 : ∀ x ∈ l1, x ≤ 15) (h2 : ∀ x ∈ l2, x ≤ 15) (hf0 : fits2 l1 l2 = 0) (hL : L ≤ 100000000) :
    Calls Try.prog 47 #[.pointer (some ⟨g, 0, none⟩), .agg #[.bool true, .int .i64 2, .int .i64 z, .slice o1 n1 c1, .slice o2 n2 c2]] w fun e w' => e = .returned (.int .i64 0) ∧ RSt w B g vb0 (putS (dynS l1 l2) (putS [(1, 1), (2, 2)] (N, L))) w' := by
  have hBw : B ≤ w.heap.size := by have := h.ge; have := h.box.blk.2; omega
  have hgw := h.box.blk.2
  have hvb : ∀ q, vb0.ownBlock = some q → q < w.heap.size := fun q hq => (h.own.lt q hq).2
  obtain ⟨w1, hw1⟩ : ∃ w1, w1 = w.alloc (.cells #[.bool true, .int .i64 2, .int .i64 z, .slice o1 n1 c1, .slice o2 n2 c2] 95) := ⟨_, rfl⟩
  have hA := ownH w true 2 z o1 o2 n1 n2 c1 c2 95
  rw [← hw1] at hA
  have hb1 : Below w.heap.size w w1 := by rw [hw1]; exact below_alloc _ _
  have HB1 := Lib.hid hb1
  have HS1 := Lib.hid (RSt.start (h.up hb1))
  have HA := Lib.hid hA
  have HW1 := Lib.hid hw1
  have HA3 : Hid (∀ st W, RSt w1 B g vb0 st W → Own W w.heap.size 95 (.slice (some ⟨w.heap.size, 0, none⟩) 5 5) [.bool true, .int .i64 2, .int .i64 z, .slice o1 n1 c1, .slice o2 n2 c2]) := Lib.hid (fun st W h => h.own HA.out (fun e => by have e2 : some w.heap.size = some g := e; injection e2 with e2; omega) (fun q hq e => by have e2 : some w.heap.size = some q := hq; injection e2 with e2; have := hvb q e; omega))
  have HBL : Hid (∀ st W, RSt w1 B g vb0 st W → Below B w W) := Lib.hid (fun st W h => (HB1.out.mono hBw).trans h.bel)
  clear h hw1 hb1 hA HA
  have HPK : Hid (∀ (W : World) (st : Nat × Nat), RSt w1 B g vb0 st W → st.2 + 2 ≤ 300000000 → Calls Try.prog 75 #[.pointer (some ⟨g, 0, none⟩), .int .i64 2, .int .i64 2] W fun e w' => e = .returned (.int .i64 0) ∧ RSt w1 B g vb0 (st.1 + 2 * 2 ^ st.2, st.2 + 2) w') := Lib.hid (fun W st h hl => putRW h 2 2 (by decide) (by omega) (by omega))
  have HU1 := Lib.hid hu1
  have HU2 := Lib.hid hu2
  have H15a := Lib.hid (fun j (hj : j < l1.length) => h1 _ (getD_mem l1 j 0 hj))
  have H15b := Lib.hid (fun j (hj : j < l2.length) => h2 _ (getD_mem l2 j 0 hj))
  have HFC : Hid (Calls Try.prog 74 #[.slice o1 n1 c1, .slice o2 n2 c2] w1 fun e w' => e = .returned (.int .i64 0) ∧ Below w1.heap.size w1 w') := Lib.hid ((fits2R _ _ l1 l2 w1 (hu1 _ (HBL.out _ _ HS1.out)) (hu2 _ (HBL.out _ _ HS1.out)) (by omega)).mono fun e w' ⟨he, hb⟩ => ⟨by rw [he, hf0]; rfl, hb⟩)
  have HN1 := Lib.hid he1.symm
  have HN2 := Lib.hid he2.symm
  have HPX := Lib.hid (fun (W : World) (st : Nat × Nat) (v n : Nat) (h : RSt w1 B g vb0 st W) (hv : v < 2 ^ n) (hn : n ≤ 32) (hl : st.2 + n ≤ 2147483648) => putRW h v n hv hn hl)
  have hs1 : (n1 : Int) - 257 = ((n1 - 257 : Nat) : Int) := by omega
  have hs2 : (n2 : Int) - 1 = ((n2 - 1 : Nat) : Int) := by omega
  have hp5 : n1 - 257 < 2 ^ 5 := by omega
  have hp5' : n2 - 1 < 2 ^ 5 := by omega
  have i1 : ¬ (n1 : Int) < 257 := by omega
  have i2 : ¬ (n1 : Int) > 286 := by omega
  have i3 : ¬ (n2 : Int) < 1 := by omega
  have i4 : ¬ (n2 : Int) > 30 := by omega
  obtain ⟨D, hD⟩ : ∃ D, D = putS (dynS l1 l2) (putS [(1, 1), (2, 2)] (N, L)) := ⟨_, rfl⟩
  rw [← hD]
  unfold dynS at hD
  rw [putS_append, putS_append, putS_append, ← he1, ← he2] at hD
  have HD := Lib.hid hD
  clear hD hu1 hu2 h1 h2 he1 he2 hf0
  obtain ⟨m1, hm1⟩ : ∃ m, m = n1 - 257 := ⟨_, rfl⟩
  obtain ⟨m2, hm2⟩ : ∃ m, m = n2 - 1 := ⟨_, rfl⟩
  rw [← hm1] at hs1 hp5
  rw [← hm2] at hs2 hp5'
  have HM1 := Lib.hid hm1.symm
  have HM2 := Lib.hid hm2.symm
  clear hm1 hm2
  go_enter Try.func47, Try.ntmps47
  go_upto_region 12 with (go_at_call 74; rw [← HW1.out]; (with_reducible refine HFC.out.mono ?_); rintro e w2 ⟨rfl, hb2⟩; (have HS2 := Lib.hid (HS1.out.up hb2 (Nat.le_trans hBw HB1.out.size)); have x0w2 := (HA3.out _ _ HS2.out).cell (i := 0) (by simp); have x1w2 := (HA3.out _ _ HS2.out).cell (i := 1) (by simp); have yw2 := (HA3.out _ _ HS2.out).blk.2; clear hb2))
  have HP1 : Hid (Calls Try.prog 75 #[.pointer (some ⟨g, 0, none⟩), .int .i64 1, .int .i64 1] w2 fun e w' => e = .returned (.int .i64 0) ∧ RSt w1 B g vb0 (N + 1 * 2 ^ L, L + 1) w') := Lib.hid (putRW HS2.out 1 1 (by decide) (by omega) (by simp only; omega))
  go_upto_region 22 with (go_at_call 75; first | ((with_reducible refine HP1.out.mono ?_); rintro e w4 ⟨rfl, hq⟩; (have HS_w4 := Lib.hid hq; have x1w4 := (HA3.out _ _ hq).cell (i := 1) (by simp); have yw4 := (HA3.out _ _ hq).blk.2; have HP2 := Lib.hid (HPK.out _ _ hq (by simp only; omega)); clear hq HP1 x1w2 x0w2 yw2)) | ((with_reducible refine HP2.out.mono ?_); rintro e w5 ⟨rfl, hq⟩; (have HS_w5 := Lib.hid hq; have x1w5 := (HA3.out _ _ hq).cell (i := 1) (by simp); have x3w5 := (HA3.out _ _ hq).cell (i := 3) (by simp); have yw5 := (HA3.out _ _ hq).blk.2; have HP3 := Lib.hid (HPX.out _ _ m1 5 hq hp5 (by omega) (by simp only; omega)); rw [show ((5 : Nat) : Int) = 5 from rfl] at HP3; clear hq HP2 x1w4 yw4 HS_w4)) | ((with_reducible refine HP3.out.mono ?_); rintro e w6 ⟨rfl, hq⟩; (have HS_w6 := Lib.hid hq; have x4w6 := (HA3.out _ _ hq).cell (i := 4) (by simp); have yw6 := (HA3.out _ _ hq).blk.2; have HP4 := Lib.hid (HPX.out _ _ m2 5 hq hp5' (by omega) (by simp only; omega)); rw [show ((5 : Nat) : Int) = 5 from rfl] at HP4; clear hq HP3 x1w5 x3w5 yw5 HS_w5)) | ((with_reducible refine HP4.out.mono ?_); rintro e w7 ⟨rfl, hq⟩; (have HS_w7 := Lib.hid hq; have yw7 := (HA3.out _ _ hq).blk.2; have HP5 := Lib.hid (HPX.out _ _ 15 4 hq (by decide) (by omega) (by simp only; omega)); rw [show ((4 : Nat) : Int) = 4 from rfl, show ((15 : Nat) : Int) = 15 from rfl] at HP5; clear hq HP4 x4w6 yw6 HS_w6)))
  obtain ⟨st3, hst3⟩ : ∃ st, st = putS (lenS n1 n2) (putS [(1, 1), (2, 2)] (N, L)) := ⟨_, rfl⟩
  have HS3 := Lib.hid hst3
  rw [← hst3] at HD
  have HL3 : Hid (st3.2 = L + 17) := Lib.hid (by rw [hst3, putS_len, putS_len]; rfl)
  clear hst3
  go_upto_region 23 with (go_at_call 75; (with_reducible refine HP5.out.mono ?_); rintro e w8 ⟨rfl, hq⟩; (have HS8 : Hid (RSt w1 B g vb0 st3 w8) := Lib.hid (by rw [HS3.out]; unfold lenS; rw [HM1.out, HM2.out]; exact hq); clear hq HP5 HS_w7 yw7))
  obtain ⟨vb8, hv8, hb8, hf8⟩ := HS8.out
  have hg8 := hv8.box.blk.2
  have hvb8 : ∀ q, vb8.ownBlock = some q → q < w8.heap.size := fun q hq => (hv8.own.lt q hq).2
  have hhb8 : ∀ q, vb8.ownBlock = some q → q ≠ w.heap.size := fun q hq e => by
    rcases hf8.2.1 q hq with z | z
    · have := hvb q z; omega
    · have := (HA3.out _ _ HS1.out).blk.2; omega
  have hhb := (HA3.out _ _ HS8.out)
  have HFR0 : Hid (Below B w w8 ∧ Fr g vb0 vb8 w w8) := Lib.hid ⟨(HB1.out.mono hBw).trans hb8, ((Fr.refl g vb0 w).below HB1.out).trans hf8⟩
  have hB8 : B ≤ w8.heap.size := Nat.le_trans hBw HFR0.out.1.size
  have HV8 := Lib.hid hv8
  clear hv8 hb8 hf8 HS8
  go_upto_region 24 with (go_at_call 77; (with_reducible refine (ordR _).mono ?_); rintro e w9 ⟨vo, rfl, ho9, hb9⟩; (have HOO := Lib.hid ho9; have HS9 := Lib.hid (RSt.start (HV8.out.up hb9)); have HH9 := Lib.hid (hhb.up hb9); have HFR : Hid (Below B w w9 ∧ Fr g vb0 vb8 w w9) := Lib.hid ⟨HFR0.out.1.trans (hb9.mono hB8), HFR0.out.2.below hb9⟩; clear ho9 hb9))
  have hol : (ints (nls ordN)).length = 19 := rfl
  obtain ⟨oo, co, go, hvo, hdo, -⟩ := HOO.out.cases
  rw [hol] at hvo hdo
  obtain rfl := hdo.hat (by omega)
  subst hvo
  have HGO : Hid (∀ j, j < 19 → (ints (nls ordN)).getD j undef = .int .i64 (ordN.getD j 0 : Nat)) := Lib.hid (fun j hj => by have hl : j < ordN.length := hj; simp [ints, nls, List.getD, hl])
  have HIXO := Lib.hid (fun (W : World) (j : Nat) (hj : j < 19) => index_any (P := Try.prog) 39 3 Try.underlying39 (by kernel_rfl) hdo W .i64 (j : Int) (by omega) (by omega))
  have hgo8 := (HOO.out.lt go rfl).1
  have HO3 : Hid (∀ st W, RSt w9 B g vb8 st W → Own W w8.heap.size 3 (.slice (some ⟨go, 0, none⟩) 19 co) (ints (nls ordN))) := Lib.hid (fun st W h => h.own HOO.out (fun e => by have e2 : some go = some g := e; injection e2 with e2; omega) (fun q hq e => by have e2 : some go = some q := hq; injection e2 with e2; have := hvb8 q e; omega))
  have HH3 : Hid (∀ st W, RSt w9 B g vb8 st W → Own W w.heap.size 95 (.slice (some ⟨w.heap.size, 0, none⟩) 5 5) [.bool true, .int .i64 2, .int .i64 z, .slice o1 n1 c1, .slice o2 n2 c2]) := Lib.hid (fun st W h => h.own HH9.out (fun e => by have e2 : some w.heap.size = some g := e; injection e2 with e2; omega) (fun q hq e => by have e2 : some w.heap.size = some q := hq; injection e2 with e2; exact hhb8 q e e2.symm))
  have HBW : Hid (∀ st W, RSt w9 B g vb8 st W → Below B w W) := Lib.hid (fun st W h => HFR.out.1.trans h.bel)
  clear hol hdo hhb HPX HPK HA3 HBL HOO HH9 HV8 HFR0
  go_wp2
  go_loopg [8] 20 (fun gk i wr => ∃ j, j ≤ 19 ∧ i = .int .i64 (j : Nat) ∧ RSt w9 B g vb8 (putS (ordS.take j) st3) wr ∧ gk = 20 - j)
  case atStart => exact ⟨0, Nat.zero_le _, rfl, HS9.out, rfl⟩
  case round =>
    clear HS9
    obtain ⟨j, hj, rfl, hs, hgk⟩ := hrel
    have HSW := Lib.hid hs
    clear hs
    by_cases hlt : j < 19
    · have hji : (j : Int) < 19 := by omega
      have hoo := HO3.out _ _ HSW.out
      have hcell := hoo.cell (i := j) hlt
      rw [HGO.out j hlt] at hcell
      have hgol := hoo.blk.2
      have hix := fun W => HIXO.out W j hlt
      simp only [Nat.zero_add, Int.toNat_natCast] at hix
      have hy := ordN_lt j
      have HTK : Hid (putS (ordS.take (j + 1)) st3 = ((putS (ordS.take j) st3).1 + (if ordN.getD j 0 < 16 then 4 else 0) * 2 ^ (putS (ordS.take j) st3).2, (putS (ordS.take j) st3).2 + 3)) := Lib.hid (by rw [ordS_take j hlt, putS_snoc])
      have hlen : (putS (ordS.take j) st3).2 ≤ 300000000 := by
        have := ordS_len j st3
        have := HL3.out
        omega
      clear hoo
      generalize ordN.getD j 0 = y at *
      by_cases hy16 : y < 16
      · have hyi : (y : Int) < 16 := by omega
        have HPY := Lib.hid (putRW HSW.out 4 3 (by decide) (by omega) (by omega))
        rw [show ((4 : Nat) : Int) = 4 from rfl, show ((3 : Nat) : Int) = 3 from rfl] at HPY
        have HTK2 : Hid (putS (ordS.take (j + 1)) st3 = ((putS (ordS.take j) st3).1 + 4 * 2 ^ (putS (ordS.take j) st3).2, (putS (ordS.take j) st3).2 + 3)) := Lib.hid (by rw [HTK.out, if_pos hy16])
        clear hy16 HTK
        go_wp2_with (go_at_call 75; (with_reducible refine HPY.out.mono ?_); rintro e w10 ⟨rfl, hq⟩; have HQ := Lib.hid hq; clear hq)
        go_roundg (20 - (j + 1))
        case measure => omega
        case rel => exact ⟨j + 1, by omega, by go_num, by rw [HTK2.out]; exact HQ.out, rfl⟩
      · have hyi : ¬ (y : Int) < 16 := by omega
        have HPY := Lib.hid (putRW HSW.out 0 3 (by decide) (by omega) (by omega))
        rw [show ((0 : Nat) : Int) = 0 from rfl, show ((3 : Nat) : Int) = 3 from rfl] at HPY
        have HTK2 : Hid (putS (ordS.take (j + 1)) st3 = ((putS (ordS.take j) st3).1 + 0 * 2 ^ (putS (ordS.take j) st3).2, (putS (ordS.take j) st3).2 + 3)) := Lib.hid (by rw [HTK.out, if_neg hy16])
        clear hy16 HTK
        go_wp2_with (go_at_call 75; (with_reducible refine HPY.out.mono ?_); rintro e w10 ⟨rfl, hq⟩; have HQ := Lib.hid hq; clear hq)
        go_roundg (20 - (j + 1))
        case measure => omega
        case rel => exact ⟨j + 1, by omega, by go_num, by rw [HTK2.out]; exact HQ.out, rfl⟩
    · obtain rfl : j = 19 := by omega
      have HT19 : Hid (putS (ordS.take 19) st3 = putS ordS st3) := Lib.hid (by rw [List.take_of_length_le (by decide)])
      have hl4 : (putS ordS st3).2 ≤ 200000071 := by
        have h1 := ordS_len 19 st3
        rw [HT19.out] at h1
        have := HL3.out
        omega
      rw [HT19.out] at HSW
      obtain ⟨st4, hst4⟩ : ∃ st, st = putS ordS st3 := ⟨_, rfl⟩
      rw [← hst4] at HD HSW hl4
      clear hst4 HT19 hlt HO3 HIXO HGO
      go_wp2
      go_loopg [9] (n1 + 1) (fun gq i W => ∃ q, q ≤ n1 ∧ i = .int .i64 (q : Nat) ∧ RSt w9 B g vb8 (putS (codS (l1.take q)) st4) W ∧ gq = n1 + 1 - q)
      case atStart => exact ⟨0, Nat.zero_le _, rfl, by simpa [codS, putS] using HSW.out, rfl⟩
      case round =>
        clear HSW
        obtain ⟨q, hq, rfl, hs2, hgq⟩ := hrel
        have HSQ := Lib.hid hs2
        clear hs2
        have xq := (HH3.out _ _ HSQ.out).cell (i := 3) (by simp)
        have yq := (HH3.out _ _ HSQ.out).blk.2
        by_cases hlq : q < n1
        · have hqi : (q : Int) < (n1 : Int) := by omega
          have hql : q < l1.length := by have := HN1.out; omega
          obtain ⟨oa', cap', b', off', hv', hd', hc'⟩ := (HU1.out _ (HBW.out _ _ HSQ.out)).open
          rw [nls_length, HN1.out] at hv' hd'
          rw [nls_length] at hc'
          injection hv' with q1 q2 q3
          subst q1 q3
          have hix2 := index_any (P := Try.prog) 39 3 Try.underlying39 (by kernel_rfl) hd'
          have hbb := hd'.hblk (by omega)
          have hx := hc' q hql
          rw [nls_getD] at hx
          have hx15 := H15a.out q hql
          have HCK : Hid (putS (codS (l1.take (q + 1))) st4 = ((putS (codS (l1.take q)) st4).1 + turnN (l1.getD q 0) 4 * 2 ^ (putS (codS (l1.take q)) st4).2, (putS (codS (l1.take q)) st4).2 + 4)) := Lib.hid (by rw [codS_take l1 q hql, putS_snoc])
          have hlen : (putS (codS (l1.take q)) st4).2 ≤ 500000000 := by rw [codS_len, List.length_take]; omega
          have hx16 : l1.getD q 0 < 2 ^ 4 := by omega
          have HPC := Lib.hid (codeRW HSQ.out (l1.getD q 0) 4 hx16 (by omega) (by omega))
          rw [show ((4 : Nat) : Int) = 4 from rfl] at HPC
          have hm' := hd'.len
          clear hc' hd' hx16
          generalize l1.getD q 0 = y at *
          go_wp2_with (go_at_call 78; (with_reducible refine HPC.out.mono ?_); rintro e w10 ⟨rfl, hqq⟩; have HQ := Lib.hid hqq; clear hqq)
          go_roundg (n1 + 1 - (q + 1))
          case measure => omega
          case rel => exact ⟨q + 1, by omega, by go_num, by rw [HCK.out]; exact HQ.out, rfl⟩
        · obtain rfl : q = n1 := by omega
          have HF : Hid (putS (codS (l1.take q)) st4 = putS (codS l1) st4) := Lib.hid (by rw [List.take_of_length_le (by have := HN1.out; omega)])
          have hl5 : (putS (codS l1) st4).2 ≤ 300000000 := by have := HN1.out; rw [codS_len]; omega
          rw [HF.out] at HSQ
          obtain ⟨st5, hst5⟩ : ∃ st, st = putS (codS l1) st4 := ⟨_, rfl⟩
          rw [← hst5] at HD HSQ hl5
          have HSW := HSQ
          clear hlq hst5 HF HSQ
          go_wp2
          go_loopg [10] (n2 + 1) (fun gq i W => ∃ q, q ≤ n2 ∧ i = .int .i64 (q : Nat) ∧ RSt w9 B g vb8 (putS (codS (l2.take q)) st5) W ∧ gq = n2 + 1 - q)
          case atStart => exact ⟨0, Nat.zero_le _, rfl, by simpa [codS, putS] using HSW.out, rfl⟩
          case round =>
            clear HSW
            obtain ⟨q, hq, rfl, hs2, hgq⟩ := hrel
            have HSQ := Lib.hid hs2
            clear hs2
            have xq := (HH3.out _ _ HSQ.out).cell (i := 4) (by simp)
            have yq := (HH3.out _ _ HSQ.out).blk.2
            by_cases hlq : q < n2
            · have hqi : (q : Int) < (n2 : Int) := by omega
              have hql : q < l2.length := by have := HN2.out; omega
              obtain ⟨oa', cap', b', off', hv', hd', hc'⟩ := (HU2.out _ (HBW.out _ _ HSQ.out)).open
              rw [nls_length, HN2.out] at hv' hd'
              rw [nls_length] at hc'
              injection hv' with q1 q2 q3
              subst q1 q3
              have hix2 := index_any (P := Try.prog) 39 3 Try.underlying39 (by kernel_rfl) hd'
              have hbb := hd'.hblk (by omega)
              have hx := hc' q hql
              rw [nls_getD] at hx
              have hx15 := H15b.out q hql
              have HCK : Hid (putS (codS (l2.take (q + 1))) st5 = ((putS (codS (l2.take q)) st5).1 + turnN (l2.getD q 0) 4 * 2 ^ (putS (codS (l2.take q)) st5).2, (putS (codS (l2.take q)) st5).2 + 4)) := Lib.hid (by rw [codS_take l2 q hql, putS_snoc])
              have hlen : (putS (codS (l2.take q)) st5).2 ≤ 500000000 := by rw [codS_len, List.length_take]; omega
              have hx16 : l2.getD q 0 < 2 ^ 4 := by omega
              have HPC := Lib.hid (codeRW HSQ.out (l2.getD q 0) 4 hx16 (by omega) (by omega))
              rw [show ((4 : Nat) : Int) = 4 from rfl] at HPC
              have hm' := hd'.len
              clear hc' hd' hx16
              generalize l2.getD q 0 = y at *
              go_wp2_with (go_at_call 78; (with_reducible refine HPC.out.mono ?_); rintro e w10 ⟨rfl, hqq⟩; have HQ := Lib.hid hqq; clear hqq)
              go_roundg (n2 + 1 - (q + 1))
              case measure => omega
              case rel => exact ⟨q + 1, by omega, by go_num, by rw [HCK.out]; exact HQ.out, rfl⟩
            · obtain rfl : q = n2 := by omega
              have HF : Hid (putS (codS (l2.take q)) st5 = putS (codS l2) st5) := Lib.hid (by rw [List.take_of_length_le (by have := HN2.out; omega)])
              rw [HF.out] at HSQ
              clear hlq HF
              go_wp2
              go_ret
              rw [HD.out]
              obtain ⟨vb, h1, h2, h3⟩ := HSQ.out
              exact ⟨rfl, vb, h1, HFR.out.1.trans h2, HFR.out.2.trans h3⟩
end Go.Cm

/- The walk of the document's Write of a head. Conditions: the writer is there, the lists read as lists. -/
namespace Go.Cm
open Go.RowKit Go.Proofs

/-- heads that are refused for their kind, size or numbers of lengths -/
def bad1 (k z : Int) (n1 n2 : Nat) : Prop := k < 0 ∨ 2 < k ∨ (k = 0 ∧ (z < 0 ∨ 65535 < z)) ∨ (k = 2 ∧ (n1 < 257 ∨ 286 < n1 ∨ n2 < 1 ∨ 30 < n2))
set_option maxRecDepth 100000 in
set_option maxHeartbeats 4000000 in
theorem writeHRe {w : World} {B g N L : Nat} {vb0 : Value} (h : WrtRV w B g N L vb0) (f : Bool) (k z : Int) (o1 o2 : Option Addr) (n1 n2 c1 c2 : Nat) (hm1 : n1 ≤ 9223372036854775807) (hm2 : n2 ≤ 9223372036854775807) (hbad : bad1 k z n1 n2) :
    Calls Try.prog 47 #[.pointer (some ⟨g, 0, none⟩), .agg #[.bool f, .int .i64 k, .int .i64 z, .slice o1 n1 c1, .slice o2 n2 c2]] w fun e w' => e = .returned (.int .i64 1) ∧ RSt w B g vb0 (N, L) w' := by
  have hBw : B ≤ w.heap.size := by have := h.ge; have := h.box.blk.2; omega
  obtain ⟨w1, hw1⟩ : ∃ w1, w1 = w.alloc (.cells #[.bool f, .int .i64 k, .int .i64 z, .slice o1 n1 c1, .slice o2 n2 c2] 95) := ⟨_, rfl⟩
  have hb1 : Below w.heap.size w w1 := by rw [hw1]; exact below_alloc _ _
  have HB1 := Lib.hid hb1
  have HS1 := Lib.hid (RSt.start (h.up hb1))
  have HW1 := Lib.hid hw1
  clear h hw1 hb1
  have hbad' := hbad
  unfold bad1 at hbad'
  by_cases hk0 : k < 0
  · clear hbad hbad'
    go_enter Try.func47, Try.ntmps47
    go_wp2
    go_ret
    rw [← HW1.out]
    exact ⟨rfl, HS1.out.from1 HB1.out hBw⟩
  · by_cases hk2 : k > 2
    · clear hbad hbad'
      go_enter Try.func47, Try.ntmps47
      go_wp2
      go_ret
      rw [← HW1.out]
      exact ⟨rfl, HS1.out.from1 HB1.out hBw⟩
    · by_cases hz0 : k = 0
      · subst hz0
        by_cases hz1 : z < 0
        · clear hbad hbad'
          go_enter Try.func47, Try.ntmps47
          go_wp2
          go_ret
          rw [← HW1.out]
          exact ⟨rfl, HS1.out.from1 HB1.out hBw⟩
        · have hz2 : z > 65535 := by omega
          clear hbad hbad'
          go_enter Try.func47, Try.ntmps47
          go_wp2
          go_ret
          rw [← HW1.out]
          exact ⟨rfl, HS1.out.from1 HB1.out hBw⟩
      · obtain rfl : k = 2 := by omega
        by_cases ha : n1 < 257
        · have hai : (n1 : Int) < 257 := by omega
          clear hbad hbad'
          go_enter Try.func47, Try.ntmps47
          go_wp2
          go_ret
          rw [← HW1.out]
          exact ⟨rfl, HS1.out.from1 HB1.out hBw⟩
        · have hai : ¬ (n1 : Int) < 257 := by omega
          by_cases hb : 286 < n1
          · have hbi : (n1 : Int) > 286 := by omega
            clear hbad hbad'
            go_enter Try.func47, Try.ntmps47
            go_wp2
            go_ret
            rw [← HW1.out]
            exact ⟨rfl, HS1.out.from1 HB1.out hBw⟩
          · have hbi : ¬ (n1 : Int) > 286 := by omega
            by_cases hc : n2 < 1
            · have hci : (n2 : Int) < 1 := by omega
              clear hbad hbad'
              go_enter Try.func47, Try.ntmps47
              go_wp2
              go_ret
              rw [← HW1.out]
              exact ⟨rfl, HS1.out.from1 HB1.out hBw⟩
            · have hci : ¬ (n2 : Int) < 1 := by omega
              have hdi : (n2 : Int) > 30 := by omega
              clear hbad hbad'
              go_enter Try.func47, Try.ntmps47
              go_wp2
              go_ret
              rw [← HW1.out]
              exact ⟨rfl, HS1.out.from1 HB1.out hBw⟩
set_option maxRecDepth 100000 in
theorem writeHRf {w : World} {B g N L : Nat} {vb0 : Value} (h : WrtRV w B g N L vb0) (f : Bool) (z : Int) (o1 o2 : Option Addr) (n1 n2 c1 c2 : Nat) (l1 l2 : List Int) (hu1 : ∀ W, Below B w W → IntsAt W (.slice o1 n1 c1) l1) (hu2 : ∀ W, Below B w W → IntsAt W (.slice o2 n2 c2) l2)
    (he1 : n1 = l1.length) (hn1 : 257 ≤ n1) (hn1' : n1 ≤ 286) (hn2 : 1 ≤ n2) (hn2' : n2 ≤ 30) (hr : fits2I l1 l2 ≠ 0) :
    Calls Try.prog 47 #[.pointer (some ⟨g, 0, none⟩), .agg #[.bool f, .int .i64 2, .int .i64 z, .slice o1 n1 c1, .slice o2 n2 c2]] w fun e w' => e = .returned (.int .i64 (fits2I l1 l2 : Nat)) ∧ RSt w B g vb0 (N, L) w' := by
  have hBw : B ≤ w.heap.size := by have := h.ge; have := h.box.blk.2; omega
  obtain ⟨w1, hw1⟩ : ∃ w1, w1 = w.alloc (.cells #[.bool f, .int .i64 2, .int .i64 z, .slice o1 n1 c1, .slice o2 n2 c2] 95) := ⟨_, rfl⟩
  have hb1 : Below w.heap.size w w1 := by rw [hw1]; exact below_alloc _ _
  have HB1 := Lib.hid hb1
  have HS1 := Lib.hid (RSt.start (h.up hb1))
  have HW1 := Lib.hid hw1
  have HFC := Lib.hid (fits2RI _ _ l1 l2 w1 (hu1 w1 (hb1.mono hBw)) (hu2 w1 (hb1.mono hBw)) (by omega))
  have i1 : ¬ (n1 : Int) < 257 := by omega
  have i2 : ¬ (n1 : Int) > 286 := by omega
  have i3 : ¬ (n2 : Int) < 1 := by omega
  have i4 : ¬ (n2 : Int) > 30 := by omega
  have hr' : ((fits2I l1 l2 : Int) != 0) = true := by simpa using hr
  clear h hw1 hb1 hu1 hu2 he1 hr
  generalize fits2I l1 l2 = r at *
  go_enter Try.func47, Try.ntmps47
  go_wp2_with (go_at_call 74; rw [← HW1.out]; (with_reducible refine HFC.out.mono ?_); rintro e w2 ⟨rfl, hb2⟩; (have HS2 := Lib.hid (HS1.out.up hb2 (Nat.le_trans hBw HB1.out.size)); clear hb2))
  go_ret
  exact ⟨rfl, HS2.out.from1 HB1.out hBw⟩
theorem writeHR {w : World} {B g N L : Nat} {vb0 : Value} (h : WrtRV w B g N L vb0) (f : Bool) (k z : Int) (u1 u2 : Value) (l1 l2 : List Int) (hu1 : ∀ W, Below B w W → IntsAt W u1 l1) (hu2 : ∀ W, Below B w W → IntsAt W u2 l2) (hL : L ≤ 100000000) :
    Calls Try.prog 47 #[.pointer (some ⟨g, 0, none⟩), .agg #[.bool f, .int .i64 k, .int .i64 z, u1, u2]] w fun e w' => e = .returned (.int .i64 (mayI k z l1 l2 : Nat)) ∧ RSt w B g vb0 (if mayI k z l1 l2 = 0 then wrI f k z l1 l2 (N, L) else (N, L)) w' := by
  obtain ⟨o1, c1, b1, f1, hv1, hd1, -⟩ := (hu1 w (Below.refl _ _)).open
  obtain ⟨o2, c2, b2, f2, hv2, hd2, -⟩ := (hu2 w (Below.refl _ _)).open
  have hm1 := hd1.len
  have hm2 := hd2.len
  subst hv1 hv2
  by_cases hbad : bad1 k z l1.length l2.length
  · have hm : mayI k z l1 l2 = 1 := by
      unfold bad1 at hbad
      unfold mayI
      by_cases k0 : k = 0
      · rw [if_pos k0, if_pos (by omega)]
      · rw [if_neg k0, if_neg (by omega)]
        by_cases k2 : k = 2
        · rw [if_pos k2, if_pos (by omega)]
        · rw [if_neg k2]
    rw [hm]
    exact writeHRe h f k z o1 o2 _ _ c1 c2 hm1 hm2 hbad
  · have hb := hbad
    unfold bad1 at hb
    by_cases k0 : k = 0
    · subst k0
      have hm : mayI 0 z l1 l2 = 0 := by unfold mayI; rw [if_pos rfl, if_neg (by omega)]
      obtain ⟨zn, rfl⟩ : ∃ zn : Nat, z = (zn : Int) := ⟨z.toNat, by omega⟩
      rw [hm, if_pos rfl]
      unfold wrI
      rw [if_pos rfl, Int.toNat_natCast]
      cases f with
      | false => exact writeHR0false h zn (by omega) o1 o2 _ _ c1 c2 hL
      | true => exact writeHR0true h zn (by omega) o1 o2 _ _ c1 c2 hL
    · by_cases k1 : k = 1
      · subst k1
        have hm : mayI 1 z l1 l2 = 0 := by unfold mayI; rw [if_neg (by decide), if_pos rfl]
        rw [hm, if_pos rfl]
        unfold wrI
        rw [if_neg (by decide), if_pos rfl]
        cases f with
        | false => exact writeHR1false h z o1 o2 _ _ c1 c2 hL
        | true => exact writeHR1true h z o1 o2 _ _ c1 c2 hL
      · obtain rfl : k = 2 := by omega
        have hm : mayI 2 z l1 l2 = fits2I l1 l2 := by unfold mayI; rw [if_neg (by decide), if_neg (by decide), if_pos rfl, if_neg (by omega)]
        by_cases hr : fits2I l1 l2 = 0
        · obtain ⟨m1, m2, m3, m4, m5, m6, m7, m8, m9⟩ := mayI_dyn (hm.trans hr)
          rw [hm, hr, if_pos rfl]
          unfold wrI
          rw [if_neg (by decide), if_neg (by decide)]
          have hf0 : fits2 (l1.map Int.toNat) (l2.map Int.toNat) = 0 := by rw [← fits2_nls, ← m5, ← m6]; exact hr
          cases f with
          | false => exact writeHR2false h z o1 o2 _ _ c1 c2 (l1.map Int.toNat) (l2.map Int.toNat) (fun W hb => by rw [← m5]; exact hu1 W hb) (fun W hb => by rw [← m6]; exact hu2 W hb) (by simp) (by simp) m1 m2 m3 m4 m7 m8 hf0 hL
          | true => exact writeHR2true h z o1 o2 _ _ c1 c2 (l1.map Int.toNat) (l2.map Int.toNat) (fun W hb => by rw [← m5]; exact hu1 W hb) (fun W hb => by rw [← m6]; exact hu2 W hb) (by simp) (by simp) m1 m2 m3 m4 m7 m8 hf0 hL
        · rw [hm, if_neg hr]
          exact writeHRf h f z o1 o2 _ _ c1 c2 l1 l2 hu1 hu2 rfl (by omega) (by omega) (by omega) (by omega) hr
end Go.Cm

/- The walk of the document's Encode. Conditions: the parts read as a list, and are not too long. -/
namespace Go.Cm
open Go.RowKit Go.Proofs

theorem RSt.from2 {w0 W W' : World} {B g : Nat} {vb0 vb : Value} {st' : Nat × Nat} (h1 : Below B w0 W) (h2 : Fr g vb0 vb w0 W) (h : RSt W B g vb st' W') : RSt w0 B g vb0 st' W' := by
  obtain ⟨vb', a, b, c⟩ := h
  exact ⟨vb', a, h1.trans b, h2.trans c⟩
theorem RSt.lt {w0 W : World} {B g : Nat} {vb0 : Value} {st : Nat × Nat} (h : RSt w0 B g vb0 st W) : g < W.heap.size ∧ B ≤ g := by
  obtain ⟨vb, h1, h2, h3⟩ := h; exact ⟨h1.box.blk.2, h1.ge⟩
theorem Fr.lowR {w0 w W : World} {B g N L : Nat} {vb vb' : Value} (hf : Fr g vb vb' w W) (hw : WrtRV w B g N L vb) (hB0 : w0.heap.size ≤ B) (hb0 : Below w0.heap.size w0 w) : (∀ k, k < w0.heap.size → W.heap[k]? = w0.heap[k]?) ∧ w0.heap.size ≤ W.heap.size := by
  refine ⟨fun k hk => ?_, Nat.le_trans hb0.size hf.2.2⟩
  rw [hf.1 k (Nat.lt_of_lt_of_le hk hb0.size) (by have := hw.ge; omega) (fun e => by have := (hw.own.lt k e).1; omega), hb0.block k hk]
theorem StayF.low {w0 w : World} {B g N L : Nat} {vb v : Value} {l : List Int} (h : IntsAt w0 v l) (hw : WrtRV w B g N L vb) (hB0 : w0.heap.size ≤ B) (hb0 : Below w0.heap.size w0 w) : StayF g vb w v l := fun W vb' hf => by
  obtain ⟨h1, h2⟩ := hf.lowR hw hB0 hb0
  exact sl_heap h h1 h2
theorem StayF.own {w : World} {B' g : Nat} {vb v : Value} {l : List Int} (h : Own w B' 3 v (ints l)) (hk : ∀ k, v.ownBlock = some k → k ≠ g ∧ vb.ownBlock ≠ some k) : StayF g vb w v l := fun W _vb' hf =>
  (h.of_blk (w' := W) fun k e => hf.1 k (h.lt k e).2 (hk k e).1 (hk k e).2).sl
set_option maxRecDepth 100000 in
set_option maxHeartbeats 8000000 in
theorem encodeRk {w : World} {v : Value} {l : List PtN} (h : PartsAt w v l) (hok : ∀ p ∈ l, PtOk p) (hops : ∀ p ∈ l, ∀ o ∈ p.ops, OpOk o) (hsm : ∀ p ∈ l, PtSm p) (hsz : ∀ k, k ≤ l.length → (encK l k).2.2 ≤ 90000000) :
    Calls Try.prog 18 #[v] w (RetTextN (encR l) w) := by
  have HT := Lib.hid (textRk h hok)
  have hget : ∀ i, i < l.length → l.getD i zPt ∈ l := fun i hi => by
    have : l.getD i zPt = l[i] := by simp [List.getD, hi]
    rw [this]; exact List.getElem_mem hi
  have HOPS : Hid (∀ i, i < l.length → ∀ o ∈ (l.getD i zPt).ops, OpOk o) := Lib.hid (fun i hi => hops _ (hget i hi))
  have HSM : Hid (∀ i, i < l.length → PtSm (l.getD i zPt)) := Lib.hid (fun i hi => hsm _ (hget i hi))
  have HSZ := Lib.hid hsz
  obtain ⟨oa, cap, bl, off, rfl, hd, hco⟩ := h.open
  have HCO := Lib.hid hco
  have HD := Lib.hid hd
  obtain ⟨y, hy⟩ : ∃ y, y = encR l := ⟨_, rfl⟩
  rw [← hy]
  have HY := Lib.hid hy
  unfold encR at HY
  have hm := hd.len
  clear hy h hok hd hco hget hops hsm hsz
  generalize textOf 10 17 l = z at *
  obtain ⟨er, tb⟩ := z
  simp only at HY
  unfold RetTextN at HT
  simp only at HT
  by_cases her : er = 0
  · subst her
    have HYA : Hid (y = if (encK l l.length).1 ≠ 0 then ((encK l l.length).1, []) else (0, textN (encK l l.length).2.1 (encK l l.length).2.2)) := Lib.hid (by rw [HY.out, if_neg (fun h => h rfl)])
    clear HY
    go_enter Try.func18, Try.ntmps18
    go_upto_region 4 with (go_at_call 16; (with_reducible refine HT.out.mono ?_); rintro e w1 ⟨rfl, x1, rfl⟩; have HB1 := Lib.hid (ext_below w x1); generalize ext w x1 = w1 at *; clear HT)
    have hB1 : w.heap.size ≤ w1.heap.size := HB1.out.size
    have HV2 : Hid (WrtRV (w1.alloc (.cells #[Value.slice none 0 0] 93)) w1.heap.size w1.heap.size 0 0 (.slice none 0 0)) := Lib.hid ⟨own_lit w1 w1.heap.size #[Value.slice none 0 0] 93 (by simp) (Nat.le_refl _), by simpa [bitsN] using Own.nil _ _ _, by simp [Value.ownBlock], Nat.le_refl _, by decide⟩
    have HB2 := Lib.hid (below_alloc w1 (.cells #[Value.slice none 0 0] 93))
    go_wp2
    generalize w1.alloc (.cells #[Value.slice none 0 0] 93) = w2 at *
    obtain ⟨B, hB⟩ : ∃ B, B = w1.heap.size := ⟨_, rfl⟩
    rw [← hB] at HV2 HB2 hB1 ⊢
    have HBB := Lib.hid hB
    have HB12 : Hid (∀ W, Below B w2 W → Below w.heap.size w W) := Lib.hid (fun W hb => HB1.out.trans ((HB2.out.trans hb).mono hB1))
    obtain ⟨g, hg⟩ : ∃ g, g = B := ⟨_, rfl⟩
    rw [show WrtRV w2 B B 0 0 (.slice none 0 0) = WrtRV w2 B g 0 0 (.slice none 0 0) by rw [hg]] at HV2
    rw [← hg]
    have hgB : B ≤ g := by omega
    obtain ⟨vb2, hvb2⟩ : ∃ vb2, vb2 = Value.slice none 0 0 := ⟨_, rfl⟩
    rw [← hvb2] at HV2
    clear hB hg hvb2
    go_loopg [7] (l.length + 1) (fun gk iv wr => ∃ k : Nat, iv = .int .i64 k ∧ k ≤ l.length ∧ (encK l k).1 = 0 ∧ RSt w2 B g vb2 (encK l k).2 wr ∧ gk = l.length + 1 - k)
    case atStart => exact ⟨0, rfl, Nat.zero_le _, rfl, RSt.start HV2.out, rfl⟩
    case round =>
      clear HV2
      obtain ⟨k, rfl, hk, hk0, hst, rfl⟩ := hrel
      have HS := Lib.hid hst
      have HK0 := Lib.hid hk0
      have hlen := HSZ.out k hk
      have hglt := hst.lt
      generalize wr = wo at *
      clear hst hk0
      by_cases hlt : k < l.length
      · have hix := index_anyK (P := Try.prog) 5 22 80 Try.underlying22 (by kernel_rfl) HD.out
        have hix2 := fun W kd => hix W kd (k : Int) (by omega) (by omega)
        simp only [Int.toNat_natCast] at hix2
        obtain ⟨oo, oc, o1, c1, o2, c2, hcc, hs, hi1, hi2⟩ := HCO.out k hlt
        have hsm := HSM.out k hlt
        have hops := HOPS.out k hlt
        have HNX := Lib.hid (encK_next (l := l) (k := k) HK0.out)
        have hbb := HD.out.hblk (by omega)
        obtain ⟨p, hp⟩ : ∃ p, p = l.getD k zPt := ⟨_, rfl⟩
        rw [← hp] at hcc hs hi1 hi2 hsm hops HNX
        clear hp
        have hBW := HB12.out _ HS.out.bel
        have hwr : w.heap.size ≤ wo.heap.size := hBW.size
        obtain ⟨wk, hwk⟩ : ∃ wk, wk = wo.alloc (.cells #[.int .i64 p.kind, .string p.text, .slice oo p.ops.length oc, .slice o1 p.lits.length c1, .slice o2 p.dists.length c2] 80) := ⟨_, rfl⟩
        have hAL := below_alloc wo (.cells #[.int .i64 p.kind, .string p.text, .slice oo p.ops.length oc, .slice o1 p.lits.length c1, .slice o2 p.dists.length c2] 80)
        have hPT := own_lit wo wo.heap.size #[.int .i64 p.kind, .string p.text, .slice oo p.ops.length oc, .slice o1 p.lits.length c1, .slice o2 p.dists.length c2] 80 (by simp) (Nat.le_refl _)
        rw [← hwk] at hAL hPT
        have hBr : B ≤ wo.heap.size := by omega
        obtain ⟨vbk, hvr, hbr, hfr⟩ := HS.out
        have hnq : vbk.ownBlock ≠ some wo.heap.size := fun e => by have := (hvr.own.lt _ e).2; omega
        have hvk := hvr.up hAL
        have HVK := Lib.hid hvk
        have HBR := Lib.hid (hbr.trans (hAL.mono hBr))
        have HFR := Lib.hid (hfr.below hAL)
        have hgq : g ≠ wo.heap.size := by omega
        have HC5 : Hid (∀ c, c < 5 → wo.cell? ⟨bl, off + k * 5 + c, none⟩ = some ((#[.int .i64 p.kind, .string p.text, .slice oo p.ops.length oc, .slice o1 p.lits.length c1, .slice o2 p.dists.length c2] : Array Value).getD c undef)) := Lib.hid (fun c hc => (hBW.cell (p := ⟨bl, off + k * 5 + c, none⟩) hbb).trans (hcc c hc))
        have hBK : Below w.heap.size w wk := hBW.trans (hAL.mono hwr)
        have HPT := Lib.hid hPT
        have HWK := Lib.hid hwk
        have hBwk : B ≤ wk.heap.size := Nat.le_trans hBr hAL.size
        have HWS : Hid (∀ st' W, RSt wk B g vbk st' W → RSt w2 B g vb2 st' W) := Lib.hid (fun st' W hw => hw.from2 HBR.out HFR.out)
        have HPS : Hid (∀ st' W, RSt wk B g vbk st' W → Own W wo.heap.size 80 (.slice (some ⟨wo.heap.size, 0, none⟩) 5 5) [.int .i64 p.kind, .string p.text, .slice oo p.ops.length oc, .slice o1 p.lits.length c1, .slice o2 p.dists.length c2]) := Lib.hid (fun st' W hw => hw.own HPT.out (by intro e; have e2 : some wo.heap.size = some g := e; injection e2 with e2; omega) (by intro q e; have e2 : some wo.heap.size = some q := e; injection e2 with e2; subst e2; exact hnq))
        have HHD := Lib.hid (writeHR hvk (decide (k + 1 = l.length)) p.kind p.text.size (.slice o1 p.lits.length c1) (.slice o2 p.dists.length c2) p.lits p.dists (fun W hb => hi1.up (hBK.trans (hb.mono (by rw [HBB.out]; exact HB1.out.size)))) (fun W hb => hi2.up (hBK.trans (hb.mono (by rw [HBB.out]; exact HB1.out.size)))) (by omega))
        have hfl : ((k : Int) == (l.length : Int) - 1) = decide (k + 1 = l.length) := by
          by_cases e : k + 1 = l.length
          · rw [decide_eq_true e]; simp; omega
          · rw [decide_eq_false e]; simp; omega
        have hmi : ∀ st', (encP l.length k p (encK l k).2) = st' → st'.1 ≠ 0 → y = (st'.1, []) := fun st' h1 h2 => by
          have e : encK l (k + 1) = st' := by rw [HNX.out, h1]
          have e2 := encK_stop (l := l) (k := k + 1) (by rw [e]; exact h2) (l.length - (k + 1))
          rw [show k + 1 + (l.length - (k + 1)) = l.length by omega, e] at e2
          rw [HYA.out, e2, if_pos h2]
        have HERR := Lib.hid hmi
        have HNX2 : Hid (∀ st', (encP l.length k p (encK l k).2) = st' → encK l (k + 1) = st') := Lib.hid (fun st' h => by rw [HNX.out, h])
        have p0 : wk.cell? ⟨wo.heap.size, 0, none⟩ = some (.int .i64 p.kind) := hPT.cell (by simp)
        have p1 : wk.cell? ⟨wo.heap.size, 1, none⟩ = some (.string p.text) := hPT.cell (by simp)
        have p3 : wk.cell? ⟨wo.heap.size, 3, none⟩ = some (.slice o1 p.lits.length c1) := hPT.cell (by simp)
        have p4 : wk.cell? ⟨wo.heap.size, 4, none⟩ = some (.slice o2 p.dists.length c2) := hPT.cell (by simp)
        have hp := hPT.blk.2
        have htx : p.text.size ≤ 1000000 := hsm.text
        have hopl : p.ops.length ≤ 1000000 := hsm.ops
        have HLOW : Hid (∀ W, Below w.heap.size w W → SlK 3 W (.slice oo p.ops.length oc) (p.ops.map opV) ∧ IntsAt W (.slice o1 p.lits.length c1) p.lits ∧ IntsAt W (.slice o2 p.dists.length c2) p.dists) := Lib.hid (fun W hb => ⟨hs.up hb, hi1.up hb, hi2.up hb⟩)
        have HBKH := Lib.hid hBK
        have HOK := Lib.hid hops
        obtain ⟨m, hmm⟩ : ∃ m, m = mayI p.kind p.text.size p.lits p.dists := ⟨_, rfl⟩
        rw [← hmm] at HHD
        have HMM := Lib.hid hmm
        clear hmm hmi hcc hs hi1 hi2 hsm hops HNX hix hAL hPT hwk hvr hbr hfr hvk HSM HOPS HCO HVK hBK
        obtain ⟨st, hst⟩ : ∃ st, st = (encK l k).2 := ⟨_, rfl⟩
        rw [← hst] at HHD HERR HNX2 hlen
        clear hst
        by_cases hm0 : m = 0
        · subst hm0
          rw [if_pos rfl] at HHD
          have hw1 := wrI_add (f := decide (k + 1 = l.length)) (st := st) HMM.out.symm
          have HEP : Hid (encP l.length k p st = if p.kind = 0 then (0, bytS (bys p.text) (alignW (wrI (decide (k + 1 = l.length)) p.kind p.text.size p.lits p.dists st))) else cAll (litsN p) (distsN p) p.ops (wrI (decide (k + 1 = l.length)) p.kind p.text.size p.lits p.dists st)) := Lib.hid (by
            unfold encP; rw [← HMM.out, if_neg (fun h => h rfl)])
          rw [show (st.1, st.2) = st from rfl] at HHD
          obtain ⟨s1, hs1⟩ : ∃ s1, s1 = wrI (decide (k + 1 = l.length)) p.kind p.text.size p.lits p.dists st := ⟨_, rfl⟩
          rw [← hs1] at HHD HEP hw1
          clear hs1 HMM
          generalize decide (k + 1 = l.length) = fl at *
          by_cases hk0 : p.kind = 0
          · have hk0i : (p.kind == 0) = true := by simpa using hk0
            rw [if_pos hk0] at HEP
            have HBY := Lib.hid (fun (W : World) (hw : RSt wk B g vbk s1 W) => bytesRW hw p.text htx (by omega))
            have HK1 := Lib.hid (HNX2.out _ HEP.out)
            clear hk0 HERR HNX2 HEP HOK HLOW
            generalize p.lits.length = n1 at *
            generalize p.dists.length = n2 at *
            generalize p.ops.length = n3 at *
            go_upto_region 9 with (refine wpList_load_cells rfl 80 _ rfl bl (off + k * 5) 5 rfl #[.int .i64 p.kind, .string p.text, .slice oo n3 oc, .slice o1 n1 c1, .slice o2 n2 c2] _ HC5.out rfl Try.underlying80 rfl (by kernel_rfl) ?_)
            rw [← HWK.out]
            go_wp2_with (first
              | (go_at_call 47; (with_reducible refine HHD.out.mono ?_); rintro e w5 ⟨rfl, hw5⟩; have HW5 := Lib.hid hw5; have q0 : w5.cell? ⟨wo.heap.size, 0, none⟩ = some (.int .i64 p.kind) := (HPS.out _ _ hw5).cell (by simp); have q1 : w5.cell? ⟨wo.heap.size, 1, none⟩ = some (.string p.text) := (HPS.out _ _ hw5).cell (by simp); have hq5 := (HPS.out _ _ hw5).blk.2; clear hw5)
              | (go_at_call 48; (with_reducible refine (HBY.out _ HW5.out).mono ?_); rintro e w6 ⟨rfl, hw6⟩; have HW6 := Lib.hid hw6; clear hw6))
            go_roundg (l.length + 1 - (k + 1))
            case measure => omega
            case rel => exact ⟨k + 1, by go_num, by omega, by rw [HK1.out], by rw [HK1.out]; exact HWS.out _ _ HW6.out, rfl⟩
          · have hk0i : (p.kind == 0) = false := by simpa using hk0
            rw [if_neg hk0] at HEP
            clear hk0
            have HEPA : Hid (∀ z, cAll (litsN p) (distsN p) p.ops s1 = z → encP l.length k p st = z) := Lib.hid (fun z h => by rw [HEP.out, h])
            clear HEP
            have HGQ := Lib.hid hgq
            by_cases hk1 : p.kind = 1
            · have hk1i : (p.kind == 1) = true := by simpa using hk1
              have HLI : Hid (litsN p = nls fixL ∧ distsN p = nls fixD) := Lib.hid (by unfold litsN distsN; rw [if_pos hk1, if_pos hk1]; exact ⟨rfl, rfl⟩)
              rw [HLI.out.1, HLI.out.2] at HEPA
              clear hk1 HLI
              generalize hn1 : p.lits.length = n1 at *
              generalize hn2 : p.dists.length = n2 at *
              clear hn1 hn2
              obtain ⟨n3, hn3⟩ : ∃ n3, n3 = p.ops.length := ⟨_, rfl⟩
              rw [← hn3] at HC5 HWK HPS HPT HLOW hopl
              have HN3 := Lib.hid hn3
              clear hn3
              go_upto_region 9 with (refine wpList_load_cells rfl 80 _ rfl bl (off + k * 5) 5 rfl #[.int .i64 p.kind, .string p.text, .slice oo n3 oc, .slice o1 n1 c1, .slice o2 n2 c2] _ HC5.out rfl Try.underlying80 rfl (by kernel_rfl) ?_)
              rw [← HWK.out]
              go_upto_region 19 with (first
                | (go_at_call 47; (with_reducible refine HHD.out.mono ?_); rintro e w5 ⟨rfl, hw5⟩; have HW5 := Lib.hid hw5; have q0 : w5.cell? ⟨wo.heap.size, 0, none⟩ = some (.int .i64 p.kind) := (HPS.out _ _ hw5).cell (by simp); have q3 : w5.cell? ⟨wo.heap.size, 3, none⟩ = some (.slice o1 n1 c1) := (HPS.out _ _ hw5).cell (by simp); have q4 : w5.cell? ⟨wo.heap.size, 4, none⟩ = some (.slice o2 n2 c2) := (HPS.out _ _ hw5).cell (by simp); have hq5 := (HPS.out _ _ hw5).blk.2; clear hw5)
                | (go_at_call 49; (with_reducible refine (fixLR _).mono ?_); rintro e w6 ⟨v6, rfl, ho6, hb6⟩; have HO6 := Lib.hid ho6; have HB6 := Lib.hid hb6; obtain ⟨oa6, ca6, ga6, hv6, -⟩ := ho6.cases; subst hv6; generalize (ints (nls fixL)).length = n6 at *; clear ho6 hb6)
                | (go_at_call 50; (with_reducible refine (fixDR _).mono ?_); rintro e w7 ⟨v7, rfl, ho7, hb7⟩; have HO7 := Lib.hid ho7; have HB7 := Lib.hid hb7; obtain ⟨oa7, ca7, ga7, hv7, -⟩ := ho7.cases; subst hv7; generalize (ints (nls fixD)).length = n7 at *; clear ho7 hb7))
              obtain ⟨vb5, hv5, hb5, hf5⟩ := HW5.out
              have h56 := HB6.out.size
              have h67 := HB7.out.size
              have hlB := hb5.size
              have hg5 := hv5.box.blk.2
              have hrow5 : ∀ q, vb5.ownBlock = some q → q < w5.heap.size := fun q e => (hv5.own.lt q e).2
              have hB5 : B ≤ w5.heap.size := by omega
              have HV7 := Lib.hid ((hv5.up HB6.out).up HB7.out)
              have HF7 := Lib.hid ((hf5.below HB6.out).below HB7.out)
              have HBB7 : Hid (Below B wk w7) := Lib.hid ((hb5.trans (HB6.out.mono hB5)).trans (HB7.out.mono (by omega)))
              have HT1 : Hid (StayF g vb5 w7 (.slice oa6 n6 ca6) (nls fixL)) := Lib.hid (StayF.own (HO6.out.up HB7.out) (fun q e => by have h1 := HO6.out.lt q e; exact ⟨by omega, fun e2 => by have := hrow5 q e2; omega⟩))
              have HT2 : Hid (StayF g vb5 w7 (.slice oa7 n7 ca7) (nls fixD)) := Lib.hid (StayF.own HO7.out (fun q e => by have h1 := HO7.out.lt q e; exact ⟨by omega, fun e2 => by have := hrow5 q e2; omega⟩))
              clear hv5 hb5 hf5 hrow5 HO6 HO7 HB6 HB7 HW5 q0 q3 q4 hq5 h56 h67 hg5
              generalize nls fixL = l1 at *
              generalize nls fixD = l2 at *
              obtain ⟨ops, hops⟩ : ∃ ops, ops = p.ops := ⟨_, rfl⟩
              rw [← hops] at HN3 HEPA HLOW HOK
              clear hops
              have hn3 := HN3.out
              have HTK : Hid (∀ j, (hj : j < ops.length) → cOps l1 l2 (ops.take (j + 1)) (0, s1) = cOp l1 l2 ops[j] (cOps l1 l2 (ops.take j) (0, s1))) := Lib.hid (fun j hj => by rw [List.take_succ_eq_append_getElem hj, cOps_snoc])
              have HLN : Hid (∀ j, j ≤ ops.length → (cOps l1 l2 (ops.take j) (0, s1)).2.2 ≤ 800000000) := Lib.hid (fun j hj => by
                have := (cOps_len l1 l2 (ops.take j) (0, s1)).2
                rw [List.length_take] at this
                have h2 : min j ops.length ≤ ops.length := Nat.min_le_right _ _
                have h3 : 48 * min j ops.length ≤ 48 * ops.length := Nat.mul_le_mul_left _ h2
                simp only at this
                omega)
              have HOKS : Hid (∀ j, (hj : j < ops.length) → OpOk ops[j]) := Lib.hid (fun j hj => HOK.out _ (List.getElem_mem hj))
              have HSTK : Hid (∀ j, (cOps l1 l2 (ops.take j) (0, s1)).1 ≠ 0 → cAll l1 l2 ops s1 = cOps l1 l2 (ops.take j) (0, s1)) := Lib.hid (fun j hj => by
                have e : cOps l1 l2 ops (0, s1) = cOps l1 l2 (ops.take j) (0, s1) := by
                  have e1 : cOps l1 l2 ops (0, s1) = cOps l1 l2 (ops.drop j) (cOps l1 l2 (ops.take j) (0, s1)) := by
                    unfold cOps; rw [← List.foldl_append, List.take_append_drop]
                  rw [e1, cOps_stuck hj]
                unfold cAll
                rw [e, cPut_stuck hj])
              have HC0 : Hid (cOps l1 l2 (ops.take 0) (0, s1) = (0, s1.1, s1.2)) := Lib.hid rfl
              have HYE : Hid (∀ z, cAll l1 l2 ops s1 = z → z.1 ≠ 0 → y = (z.1, [])) := Lib.hid (fun z h1 h2 => HERR.out z (HEPA.out z h1) h2)
              have HYN : Hid (∀ N L, cAll l1 l2 ops s1 = (0, N, L) → encK l (k + 1) = (0, N, L)) := Lib.hid (fun N L h => HNX2.out _ (HEPA.out _ h))
              clear HOK HERR HNX2 HEPA hn3
              go_wp2
              go_loopg [12] (n3 + 1) (fun gk jv wr => ∃ (j N' L' : Nat) (vb' : Value), jv = .int .i64 j ∧ j ≤ n3 ∧ Hid (cOps l1 l2 (ops.take j) (0, s1) = (0, N', L')) ∧ WrtRV wr B g N' L' vb' ∧ Fr g vb5 vb' w7 wr ∧ Below B wk wr ∧ gk = n3 + 1 - j)
              case atStart => exact ⟨0, s1.1, s1.2, vb5, rfl, Nat.zero_le _, HC0, HV7.out, Fr.refl _ _ _, HBB7.out, rfl⟩
              case round =>
                clear HV7 HBB7 HC0
                obtain ⟨j, N', L', vb', rfl, hj, HJ, hv, hf, hbl, rfl⟩ := hrel
                have HV := Lib.hid hv
                have HF := Lib.hid hf
                have HBL := Lib.hid hbl
                have hln := HLN.out j (by rw [← HN3.out]; exact hj)
                rw [HJ.out] at hln
                simp only at hln
                have hszr := hbl.size
                have hrs : RSt wk B g vbk (N', L') wr := ⟨vb', hv, hbl, HF7.out.trans hf⟩
                have q2 : wr.cell? ⟨wo.heap.size, 2, none⟩ = some (.slice oo n3 oc) := (HPS.out _ _ hrs).cell (by simp)
                have hq := (HPS.out _ _ hrs).blk.2
                have hWw := HBKH.out.trans (hbl.mono hB1)
                have HWW := Lib.hid hWw
                have HWR := Lib.hid (HB12.out wr ((HWS.out _ _ hrs).bel))
                have HRS := Lib.hid hrs
                have hBwr : B ≤ wr.heap.size := by omega
                clear hv hf hbl hrs hWw
                by_cases hlt2 : j < n3
                · have hltj : decide (j < n3) = true := by rw [decide_eq_true_iff]; omega
                  have hjo : j < ops.length := by rw [← HN3.out]; exact hlt2
                  obtain ⟨oo', oc', ob', off', hv', hdo, hco⟩ := ops_open (HLOW.out wr HWW.out).1
                  obtain ⟨rfl, rfl⟩ : oo = oo' ∧ oc = oc' := by
                    injection hv' with e1 e2 e3; exact ⟨e1, e3⟩
                  rw [← HN3.out] at hdo
                  have hix := index_anyK (P := Try.prog) 3 32 75 Try.underlying32 (by kernel_rfl) hdo
                  have hix3 := fun W kd => hix W kd (j : Int) (by omega) (by omega)
                  simp only [Int.toNat_natCast] at hix3
                  have hcc := hco j hjo
                  have hbo := hdo.hblk (by omega)
                  have HTK2 := Lib.hid (HTK.out j hjo)
                  have HQ := Lib.hid (symRk HV.out (.slice oa6 n6 ca6) (.slice oa7 n7 ca7) l1 l2 (HT1.out.next HF.out) (HT2.out.next HF.out) ops[j] (HOKS.out j hjo) (by omega))
                  have HSK2 := Lib.hid (HSTK.out (j + 1))
                  rw [HTK2.out, HJ.out] at HSK2
                  rw [HJ.out] at HTK2
                  unfold RetSy at HQ
                  generalize ops[j] = o at *
                  obtain ⟨ol, on, od⟩ := o
                  simp only at HQ
                  have HC3 : Hid (∀ c, c < 3 → wr.cell? ⟨ob', off' + j * 3 + c, none⟩ = some ((#[.int .u8 (ol : Nat), .int .i64 on, .int .i64 od] : Array Value).getD c undef)) := Lib.hid (fun c hc => by
                    rw [hcc c hc]
                    match c, hc with
                    | 0, _ => rfl
                    | 1, _ => rfl
                    | 2, _ => rfl)
                  generalize cOp l1 l2 ⟨ol, on, od⟩ (0, N', L') = ys at *
                  obtain ⟨ey, sy⟩ := ys
                  simp only at HQ HSK2
                  clear hco hix hdo hv' hcc HTK HLN HOKS HSTK HT1 HT2
                  by_cases hey : ey = 0
                  · subst hey
                    go_wp2_with (first
                      | (refine wpList_load_cells rfl 75 _ rfl ob' (off' + j * 3) 3 rfl #[.int .u8 (ol : Nat), .int .i64 on, .int .i64 od] _ HC3.out rfl Try.underlying75 rfl (by kernel_rfl) ?_)
                      | (go_at_call 51; (with_reducible refine HQ.out.mono ?_); rintro e w8 ⟨rfl, N8, L8, vb8, hq1, hq2, hq3, hq4⟩; have HR1 := Lib.hid hq1; have HR2 := Lib.hid hq2; have HR3 := Lib.hid hq3; have HR4 := Lib.hid hq4; clear hq1 hq2 hq3 hq4))
                    go_roundg (n3 + 1 - (j + 1))
                    case measure => omega
                    case rel => exact ⟨j + 1, N8, L8, vb8, by go_num, by omega, Lib.hid (by rw [HTK2.out, HR2.out (by trivial)]), HR1.out, HF.out.trans HR4.out, HBL.out.trans HR3.out, rfl⟩
                  · have heyi : ((ey : Int) != 0) = true := by simpa using hey
                    have HE := Lib.hid (HYE.out _ (HSK2.out hey) hey)
                    clear hey HSK2 HTK2
                    go_wp2_with (first
                      | (refine wpList_load_cells rfl 75 _ rfl ob' (off' + j * 3) 3 rfl #[.int .u8 (ol : Nat), .int .i64 on, .int .i64 od] _ HC3.out rfl Try.underlying75 rfl (by kernel_rfl) ?_)
                      | (go_at_call 51; (with_reducible refine HQ.out.mono ?_); rintro e w8 ⟨rfl, N8, L8, vb8, hq1, hq2, hq3, hq4⟩; have HR3 := Lib.hid hq3; clear hq1 hq2 hq3 hq4))
                    go_ret2
                    exact ⟨by rw [HE.out]; rfl, ex_ext (HWW.out.trans (HR3.out.mono (by omega)))⟩
                · obtain rfl : j = n3 := by omega
                  have hltj : decide (j < j) = false := by simp
                  have HX := Lib.hid (writeRVF (.slice oa6 n6 ca6) l1 256 (HT1.out.next HF.out wr vb' (Fr.refl _ _ _)) (HT1.out.next HF.out) HV.out (by omega))
                  unfold RetV at HX
                  have HCA : Hid (cAll l1 l2 ops s1 = cPut l1 256 0 0 (0, N', L')) := Lib.hid (by
                    have h2 := HJ.out
                    rw [HN3.out, List.take_length] at h2
                    unfold cAll
                    rw [h2])
                  have HCP : Hid ((errW l1 256 = 0 → cAll l1 l2 ops s1 = (0, numW l1 256 (N', L'))) ∧ (errW l1 256 ≠ 0 → cAll l1 l2 ops s1 = (errW l1 256, N', L'))) := Lib.hid (by
                    rw [HCA.out]
                    unfold cPut
                    rw [if_neg (fun h => h rfl)]
                    constructor
                    · intro h
                      rw [if_neg (by omega)]
                      simp only [Nat.zero_mul, Nat.add_zero]
                    · intro h
                      rw [if_pos h])
                  clear hlt2 HTK HLN HOKS HSTK HT1 HT2 HCA HV
                  generalize numW l1 256 (N', L') = nl at *
                  obtain ⟨N9, L9⟩ := nl
                  generalize errW l1 256 = q at *
                  by_cases hq0 : q = 0
                  · subst hq0
                    have HK1 := Lib.hid (HYN.out _ _ (HCP.out.1 rfl))
                    go_wp2_with (go_at_call 52; (with_reducible refine HX.out.mono ?_); rintro e w8 ⟨rfl, vb8, hq1, hq2, hq3⟩; have HR1 := Lib.hid hq1; have HR2 := Lib.hid hq2; have HR3 := Lib.hid hq3; clear hq1 hq2 hq3)
                    go_roundg (l.length + 1 - (k + 1))
                    case measure => omega
                    case rel => exact ⟨k + 1, by go_num, by omega, by rw [HK1.out], by rw [HK1.out]; exact HWS.out _ _ ⟨vb8, HR1.out, HBL.out.trans HR2.out, (HF7.out.trans HF.out).trans HR3.out⟩, rfl⟩
                  · have hqi : ((q : Int) != 0) = true := by simpa using hq0
                    have HE := Lib.hid (HYE.out _ (HCP.out.2 hq0) hq0)
                    clear hq0 HCP
                    go_wp2_with (go_at_call 52; (with_reducible refine HX.out.mono ?_); rintro e w8 ⟨rfl, vb8, hq1, hq2, hq3⟩; have HR2 := Lib.hid hq2; clear hq1 hq2 hq3)
                    go_ret2
                    exact ⟨by rw [HE.out]; rfl, ex_ext (HWW.out.trans (HR2.out.mono (by omega)))⟩
            · have hk1i : (p.kind == 1) = false := by simpa using hk1
              have HLI : Hid (litsN p = p.lits ∧ distsN p = p.dists) := Lib.hid (by unfold litsN distsN; rw [if_neg hk1, if_neg hk1]; exact ⟨rfl, rfl⟩)
              rw [HLI.out.1, HLI.out.2] at HEPA
              clear hk1 HLI
              generalize hn1 : p.lits.length = n1 at *
              generalize hn2 : p.dists.length = n2 at *
              clear hn1 hn2
              obtain ⟨n3, hn3⟩ : ∃ n3, n3 = p.ops.length := ⟨_, rfl⟩
              rw [← hn3] at HC5 HWK HPS HPT HLOW hopl
              have HN3 := Lib.hid hn3
              clear hn3
              go_upto_region 9 with (refine wpList_load_cells rfl 80 _ rfl bl (off + k * 5) 5 rfl #[.int .i64 p.kind, .string p.text, .slice oo n3 oc, .slice o1 n1 c1, .slice o2 n2 c2] _ HC5.out rfl Try.underlying80 rfl (by kernel_rfl) ?_)
              rw [← HWK.out]
              go_upto_region 19 with (go_at_call 47; (with_reducible refine HHD.out.mono ?_); rintro e w7 ⟨rfl, hw5⟩; have HW5 := Lib.hid hw5; have q0 : w7.cell? ⟨wo.heap.size, 0, none⟩ = some (.int .i64 p.kind) := (HPS.out _ _ hw5).cell (by simp); have q3 : w7.cell? ⟨wo.heap.size, 3, none⟩ = some (.slice o1 n1 c1) := (HPS.out _ _ hw5).cell (by simp); have q4 : w7.cell? ⟨wo.heap.size, 4, none⟩ = some (.slice o2 n2 c2) := (HPS.out _ _ hw5).cell (by simp); have hq5 := (HPS.out _ _ hw5).blk.2; clear hw5)
              obtain ⟨vb5, hv5, hb5, hf5⟩ := HW5.out
              have hlB := hb5.size
              have HV7 := Lib.hid hv5
              have HF7 := Lib.hid hf5
              have HBB7 := Lib.hid hb5
              have hb0w := HBKH.out.trans (hb5.mono hB1)
              have HT1 := Lib.hid (StayF.low (HLOW.out _ (Below.refl _ _)).2.1 hv5 hB1 hb0w)
              have HT2 := Lib.hid (StayF.low (HLOW.out _ (Below.refl _ _)).2.2 hv5 hB1 hb0w)
              clear hv5 hb5 hf5 HW5 q0 q3 q4 hq5 hb0w
              obtain ⟨l1, hl1⟩ : ∃ l1, l1 = p.lits := ⟨_, rfl⟩
              obtain ⟨l2, hl2⟩ : ∃ l2, l2 = p.dists := ⟨_, rfl⟩
              rw [← hl1] at HT1
              rw [← hl2] at HT2
              rw [← hl1, ← hl2] at HEPA
              clear hl1 hl2
              obtain ⟨ops, hops⟩ : ∃ ops, ops = p.ops := ⟨_, rfl⟩
              rw [← hops] at HN3 HEPA HLOW HOK
              clear hops
              have hn3 := HN3.out
              have HTK : Hid (∀ j, (hj : j < ops.length) → cOps l1 l2 (ops.take (j + 1)) (0, s1) = cOp l1 l2 ops[j] (cOps l1 l2 (ops.take j) (0, s1))) := Lib.hid (fun j hj => by rw [List.take_succ_eq_append_getElem hj, cOps_snoc])
              have HLN : Hid (∀ j, j ≤ ops.length → (cOps l1 l2 (ops.take j) (0, s1)).2.2 ≤ 800000000) := Lib.hid (fun j hj => by
                have := (cOps_len l1 l2 (ops.take j) (0, s1)).2
                rw [List.length_take] at this
                have h2 : min j ops.length ≤ ops.length := Nat.min_le_right _ _
                have h3 : 48 * min j ops.length ≤ 48 * ops.length := Nat.mul_le_mul_left _ h2
                simp only at this
                omega)
              have HOKS : Hid (∀ j, (hj : j < ops.length) → OpOk ops[j]) := Lib.hid (fun j hj => HOK.out _ (List.getElem_mem hj))
              have HSTK : Hid (∀ j, (cOps l1 l2 (ops.take j) (0, s1)).1 ≠ 0 → cAll l1 l2 ops s1 = cOps l1 l2 (ops.take j) (0, s1)) := Lib.hid (fun j hj => by
                have e : cOps l1 l2 ops (0, s1) = cOps l1 l2 (ops.take j) (0, s1) := by
                  have e1 : cOps l1 l2 ops (0, s1) = cOps l1 l2 (ops.drop j) (cOps l1 l2 (ops.take j) (0, s1)) := by
                    unfold cOps; rw [← List.foldl_append, List.take_append_drop]
                  rw [e1, cOps_stuck hj]
                unfold cAll
                rw [e, cPut_stuck hj])
              have HC0 : Hid (cOps l1 l2 (ops.take 0) (0, s1) = (0, s1.1, s1.2)) := Lib.hid rfl
              have HYE : Hid (∀ z, cAll l1 l2 ops s1 = z → z.1 ≠ 0 → y = (z.1, [])) := Lib.hid (fun z h1 h2 => HERR.out z (HEPA.out z h1) h2)
              have HYN : Hid (∀ N L, cAll l1 l2 ops s1 = (0, N, L) → encK l (k + 1) = (0, N, L)) := Lib.hid (fun N L h => HNX2.out _ (HEPA.out _ h))
              clear HOK HERR HNX2 HEPA hn3
              go_wp2
              go_loopg [12] (n3 + 1) (fun gk jv wr => ∃ (j N' L' : Nat) (vb' : Value), jv = .int .i64 j ∧ j ≤ n3 ∧ Hid (cOps l1 l2 (ops.take j) (0, s1) = (0, N', L')) ∧ WrtRV wr B g N' L' vb' ∧ Fr g vb5 vb' w7 wr ∧ Below B wk wr ∧ gk = n3 + 1 - j)
              case atStart => exact ⟨0, s1.1, s1.2, vb5, rfl, Nat.zero_le _, HC0, HV7.out, Fr.refl _ _ _, HBB7.out, rfl⟩
              case round =>
                clear HV7 HBB7 HC0
                obtain ⟨j, N', L', vb', rfl, hj, HJ, hv, hf, hbl, rfl⟩ := hrel
                have HV := Lib.hid hv
                have HF := Lib.hid hf
                have HBL := Lib.hid hbl
                have hln := HLN.out j (by rw [← HN3.out]; exact hj)
                rw [HJ.out] at hln
                simp only at hln
                have hszr := hbl.size
                have hrs : RSt wk B g vbk (N', L') wr := ⟨vb', hv, hbl, HF7.out.trans hf⟩
                have q2 : wr.cell? ⟨wo.heap.size, 2, none⟩ = some (.slice oo n3 oc) := (HPS.out _ _ hrs).cell (by simp)
                have hq := (HPS.out _ _ hrs).blk.2
                have hWw := HBKH.out.trans (hbl.mono hB1)
                have HWW := Lib.hid hWw
                have HWR := Lib.hid (HB12.out wr ((HWS.out _ _ hrs).bel))
                have HRS := Lib.hid hrs
                have hBwr : B ≤ wr.heap.size := by omega
                clear hv hf hbl hrs hWw
                by_cases hlt2 : j < n3
                · have hltj : decide (j < n3) = true := by rw [decide_eq_true_iff]; omega
                  have hjo : j < ops.length := by rw [← HN3.out]; exact hlt2
                  obtain ⟨oo', oc', ob', off', hv', hdo, hco⟩ := ops_open (HLOW.out wr HWW.out).1
                  obtain ⟨rfl, rfl⟩ : oo = oo' ∧ oc = oc' := by
                    injection hv' with e1 e2 e3; exact ⟨e1, e3⟩
                  rw [← HN3.out] at hdo
                  have hix := index_anyK (P := Try.prog) 3 32 75 Try.underlying32 (by kernel_rfl) hdo
                  have hix3 := fun W kd => hix W kd (j : Int) (by omega) (by omega)
                  simp only [Int.toNat_natCast] at hix3
                  have hcc := hco j hjo
                  have hbo := hdo.hblk (by omega)
                  have HTK2 := Lib.hid (HTK.out j hjo)
                  have HQ := Lib.hid (symRk HV.out (.slice o1 n1 c1) (.slice o2 n2 c2) l1 l2 (HT1.out.next HF.out) (HT2.out.next HF.out) ops[j] (HOKS.out j hjo) (by omega))
                  have HSK2 := Lib.hid (HSTK.out (j + 1))
                  rw [HTK2.out, HJ.out] at HSK2
                  rw [HJ.out] at HTK2
                  unfold RetSy at HQ
                  generalize ops[j] = o at *
                  obtain ⟨ol, on, od⟩ := o
                  simp only at HQ
                  have HC3 : Hid (∀ c, c < 3 → wr.cell? ⟨ob', off' + j * 3 + c, none⟩ = some ((#[.int .u8 (ol : Nat), .int .i64 on, .int .i64 od] : Array Value).getD c undef)) := Lib.hid (fun c hc => by
                    rw [hcc c hc]
                    match c, hc with
                    | 0, _ => rfl
                    | 1, _ => rfl
                    | 2, _ => rfl)
                  generalize cOp l1 l2 ⟨ol, on, od⟩ (0, N', L') = ys at *
                  obtain ⟨ey, sy⟩ := ys
                  simp only at HQ HSK2
                  clear hco hix hdo hv' hcc HTK HLN HOKS HSTK HT1 HT2
                  by_cases hey : ey = 0
                  · subst hey
                    go_wp2_with (first
                      | (refine wpList_load_cells rfl 75 _ rfl ob' (off' + j * 3) 3 rfl #[.int .u8 (ol : Nat), .int .i64 on, .int .i64 od] _ HC3.out rfl Try.underlying75 rfl (by kernel_rfl) ?_)
                      | (go_at_call 51; (with_reducible refine HQ.out.mono ?_); rintro e w8 ⟨rfl, N8, L8, vb8, hq1, hq2, hq3, hq4⟩; have HR1 := Lib.hid hq1; have HR2 := Lib.hid hq2; have HR3 := Lib.hid hq3; have HR4 := Lib.hid hq4; clear hq1 hq2 hq3 hq4))
                    go_roundg (n3 + 1 - (j + 1))
                    case measure => omega
                    case rel => exact ⟨j + 1, N8, L8, vb8, by go_num, by omega, Lib.hid (by rw [HTK2.out, HR2.out (by trivial)]), HR1.out, HF.out.trans HR4.out, HBL.out.trans HR3.out, rfl⟩
                  · have heyi : ((ey : Int) != 0) = true := by simpa using hey
                    have HE := Lib.hid (HYE.out _ (HSK2.out hey) hey)
                    clear hey HSK2 HTK2
                    go_wp2_with (first
                      | (refine wpList_load_cells rfl 75 _ rfl ob' (off' + j * 3) 3 rfl #[.int .u8 (ol : Nat), .int .i64 on, .int .i64 od] _ HC3.out rfl Try.underlying75 rfl (by kernel_rfl) ?_)
                      | (go_at_call 51; (with_reducible refine HQ.out.mono ?_); rintro e w8 ⟨rfl, N8, L8, vb8, hq1, hq2, hq3, hq4⟩; have HR3 := Lib.hid hq3; clear hq1 hq2 hq3 hq4))
                    go_ret2
                    exact ⟨by rw [HE.out]; rfl, ex_ext (HWW.out.trans (HR3.out.mono (by omega)))⟩
                · obtain rfl : j = n3 := by omega
                  have hltj : decide (j < j) = false := by simp
                  have HX := Lib.hid (writeRVF (.slice o1 n1 c1) l1 256 (HT1.out.next HF.out wr vb' (Fr.refl _ _ _)) (HT1.out.next HF.out) HV.out (by omega))
                  unfold RetV at HX
                  have HCA : Hid (cAll l1 l2 ops s1 = cPut l1 256 0 0 (0, N', L')) := Lib.hid (by
                    have h2 := HJ.out
                    rw [HN3.out, List.take_length] at h2
                    unfold cAll
                    rw [h2])
                  have HCP : Hid ((errW l1 256 = 0 → cAll l1 l2 ops s1 = (0, numW l1 256 (N', L'))) ∧ (errW l1 256 ≠ 0 → cAll l1 l2 ops s1 = (errW l1 256, N', L'))) := Lib.hid (by
                    rw [HCA.out]
                    unfold cPut
                    rw [if_neg (fun h => h rfl)]
                    constructor
                    · intro h
                      rw [if_neg (by omega)]
                      simp only [Nat.zero_mul, Nat.add_zero]
                    · intro h
                      rw [if_pos h])
                  clear hlt2 HTK HLN HOKS HSTK HT1 HT2 HCA HV
                  generalize numW l1 256 (N', L') = nl at *
                  obtain ⟨N9, L9⟩ := nl
                  generalize errW l1 256 = q at *
                  by_cases hq0 : q = 0
                  · subst hq0
                    have HK1 := Lib.hid (HYN.out _ _ (HCP.out.1 rfl))
                    go_wp2_with (go_at_call 52; (with_reducible refine HX.out.mono ?_); rintro e w8 ⟨rfl, vb8, hq1, hq2, hq3⟩; have HR1 := Lib.hid hq1; have HR2 := Lib.hid hq2; have HR3 := Lib.hid hq3; clear hq1 hq2 hq3)
                    go_roundg (l.length + 1 - (k + 1))
                    case measure => omega
                    case rel => exact ⟨k + 1, by go_num, by omega, by rw [HK1.out], by rw [HK1.out]; exact HWS.out _ _ ⟨vb8, HR1.out, HBL.out.trans HR2.out, (HF7.out.trans HF.out).trans HR3.out⟩, rfl⟩
                  · have hqi : ((q : Int) != 0) = true := by simpa using hq0
                    have HE := Lib.hid (HYE.out _ (HCP.out.2 hq0) hq0)
                    clear hq0 HCP
                    go_wp2_with (go_at_call 52; (with_reducible refine HX.out.mono ?_); rintro e w8 ⟨rfl, vb8, hq1, hq2, hq3⟩; have HR2 := Lib.hid hq2; clear hq1 hq2 hq3)
                    go_ret2
                    exact ⟨by rw [HE.out]; rfl, ex_ext (HWW.out.trans (HR2.out.mono (by omega)))⟩
        · have hm0i : ((m : Int) != 0) = true := by simpa using hm0
          have HE : Hid (y = (m, [])) := Lib.hid (HERR.out (m, st) (by unfold encP; rw [← HMM.out, if_pos hm0]) hm0)
          clear hm0 HERR HNX2 HMM HOK HLOW
          generalize decide (k + 1 = l.length) = fl at *
          generalize p.lits.length = n1 at *
          generalize p.dists.length = n2 at *
          generalize p.ops.length = n3 at *
          go_upto_region 9 with (refine wpList_load_cells rfl 80 _ rfl bl (off + k * 5) 5 rfl #[.int .i64 p.kind, .string p.text, .slice oo n3 oc, .slice o1 n1 c1, .slice o2 n2 c2] _ HC5.out rfl Try.underlying80 rfl (by kernel_rfl) ?_)
          rw [← HWK.out]
          go_wp2_with (go_at_call 47; (with_reducible refine HHD.out.mono ?_); rintro e w5 ⟨rfl, hw5⟩; have HW5 := Lib.hid hw5; clear hw5)
          go_ret2
          exact ⟨by rw [HE.out]; rfl, ex_ext (HB12.out _ (HWS.out _ _ HW5.out).bel)⟩
      · obtain rfl : k = l.length := by omega
        obtain ⟨vbk, hvr, hbr, hfr⟩ := HS.out
        have HTX := Lib.hid (textR hvr.p (by omega))
        have HE : Hid (y = (0, textN (encK l l.length).2.1 (encK l l.length).2.2)) := Lib.hid (by rw [HYA.out, if_neg (by have := HK0.out; omega)])
        have HBW := Lib.hid (HB12.out _ hbr)
        clear hlt hvr hbr hfr HYA
        generalize textN (encK l l.length).2.1 (encK l l.length).2.2 = tn at *
        go_wp2_with (go_at_call 53; (with_reducible refine HTX.out.mono ?_); rintro e w5 ⟨rfl, hb5⟩; have HB5 := Lib.hid hb5; clear hb5)
        go_ret2
        exact ⟨by rw [HE.out]; rfl, ex_ext (HBW.out.trans (HB5.out.mono HBW.out.size))⟩
  · have hei : ((er : Int) != 0) = true := by simpa using her
    have HE : Hid (y = (er, [])) := Lib.hid (by rw [HY.out, if_pos her])
    clear her HY
    go_enter Try.func18, Try.ntmps18
    go_wp2_with (go_at_call 16; (with_reducible refine HT.out.mono ?_); rintro e w1 ⟨rfl, x1, rfl⟩)
    go_ret2
    exact ⟨by rw [HE.out]; rfl, (ex_ext (by repeat (first | exact Below.refl _ _ | assumption | refine b_drewN ?_ _ | refine Below.drew ?_ | refine b_ext' ?_ _ | refine b_alloc' ?_ _)))⟩
end Go.Cm

/- The walks of what turns parts from one package's make to the other's. Conditions: the parts read as a list. -/
namespace Go.Cm
open Go.RowKit Go.Proofs

/-- a part's cells, of what make they are -/
def PtRow (c : List Value) : Prop := ∃ kd tx oo no co o1 n1 c1 o2 n2 c2, c = [.int .i64 kd, .string tx, .slice oo no co, .slice o1 n1 c1, .slice o2 n2 c2]
set_option maxRecDepth 100000 in
set_option maxHeartbeats 1000000 in
/-- parts, as the other has them -/
theorem givenPk {w : World} {v : Value} {cs : List (List Value)} (h : SlK 5 w v cs) (hcs : ∀ c ∈ cs, PtRow c) (hlen : cs.length ≤ 100000) : Calls Try.prog 15 #[v] w fun e w' => ∃ v', e = .returned v' ∧ OwnK 5 w' w.heap.size 41 v' cs ∧ Below w.heap.size w w' := by
  obtain ⟨oa, cap, bl, off, rfl, hd, hc⟩ := h
  have hix := index_anyK (P := Try.prog) 5 22 80 Try.underlying22 (by kernel_rfl) hd
  have HC := Lib.hid hc
  have HBL := Lib.hid hd.hblk
  have hm := hd.len
  have HCS := Lib.hid (fun i (hi : i < cs.length) => hcs _ (List.getElem_mem hi))
  clear hd hc hcs
  go_enter Try.func15, Try.ntmps15
  go_wp2
  go_loopg [3, 4] (cs.length + 1) (fun gk vo iv wr => ∃ k : Nat, iv = .int .i64 k ∧ k ≤ cs.length ∧ OwnK 5 wr w.heap.size 41 vo (cs.take k) ∧ Below w.heap.size w wr ∧ gk = cs.length + 1 - k)
  case atStart => exact ⟨0, rfl, Nat.zero_le _, OwnK.nil _ _ _ _, Below.refl _ _, rfl⟩
  case round =>
    obtain ⟨k, rfl, hk, hown, hbel, rfl⟩ := hrel
    have HO := Lib.hid hown
    have HW := Lib.hid hbel
    have hsz := hbel.size
    clear hown hbel
    by_cases hlt : k < cs.length
    · have hlti : decide (k < cs.length) = true := by rw [decide_eq_true_iff]; omega
      have hbl := HBL.out (by omega)
      have hblr : bl < wr.heap.size := by omega
      obtain ⟨kd, tx, oo, no, co, o1, n1, c1, o2, n2, c2, hrow⟩ := HCS.out k hlt
      have hix2 := fun W kd => hix W kd (k : Int) (by omega) (by omega)
      simp only [Int.toNat_natCast] at hix2
      have hgd : cs.getD k [] = [.int .i64 kd, .string tx, .slice oo no co, .slice o1 n1 c1, .slice o2 n2 c2] := by
        rw [← hrow]; simp [List.getD, hlt]
      have hcell : ∀ c, c < 5 → wr.cell? ⟨bl, off + k * 5 + c, none⟩ = some (([.int .i64 kd, .string tx, .slice oo no co, .slice o1 n1 c1, .slice o2 n2 c2] : List Value).getD c undef) := fun c hc => by
        rw [HW.out.cell (p := ⟨bl, off + k * 5 + c, none⟩) hbl, HC.out k hlt c hc, hgd]
      have e0 : wr.cell? ⟨bl, off + k * 5, none⟩ = some (.int .i64 kd) := hcell 0 (by decide)
      have e1 : wr.cell? ⟨bl, off + k * 5 + 1, none⟩ = some (.string tx) := hcell 1 (by decide)
      have e2 : wr.cell? ⟨bl, off + k * 5 + 2, none⟩ = some (.slice oo no co) := hcell 2 (by decide)
      have e3 : wr.cell? ⟨bl, off + k * 5 + 3, none⟩ = some (.slice o1 n1 c1) := hcell 3 (by decide)
      have e4 : wr.cell? ⟨bl, off + k * 5 + 4, none⟩ = some (.slice o2 n2 c2) := hcell 4 (by decide)
      have HTK : Hid (cs.take (k + 1) = cs.take k ++ [[.int .i64 kd, .string tx, .slice oo no co, .slice o1 n1 c1, .slice o2 n2 c2]]) := Lib.hid (by rw [List.take_succ_eq_append_getElem hlt, hrow])
      obtain ⟨row, hrw⟩ : ∃ row, row = u3.ownBlock := ⟨_, rfl⟩
      have HROW := Lib.hid hrw
      have hne : some bl ≠ row := fun e => by have := (HO.out.lt bl (by rw [← hrw, ← e])).1; omega
      have hw0 : w.heap.size ≤ wr.drew.heap.size := hsz
      have HT4 : Hid (w.heap.size ≤ (wr.drew.alloc (.cells #[.int .i64 kd, .string tx, .slice oo no co, .slice o1 n1 c1, .slice o2 n2 c2] 41)).heap.size) := Lib.hid (Nat.le_trans hw0 (below_alloc wr.drew _).size)
      have HTO := Lib.hid ((HO.out.up (b_drew1 (Below.refl _ _))).up (below_alloc wr.drew (.cells #[.int .i64 kd, .string tx, .slice oo no co, .slice o1 n1 c1, .slice o2 n2 c2] 41)))
      have hsl := slK_lit 5 wr.drew #[.int .i64 kd, .string tx, .slice oo no co, .slice o1 n1 c1, .slice o2 n2 c2] 41 [[.int .i64 kd, .string tx, .slice oo no co, .slice o1 n1 c1, .slice o2 n2 c2]] rfl (by intro x hx; simp at hx; subst hx; rfl) (by simp)
      have HSL : Hid (SlK 5 (wr.drew.alloc (.cells #[.int .i64 kd, .string tx, .slice oo no co, .slice o1 n1 c1, .slice o2 n2 c2] 41)) (.slice (some ⟨wr.heap.size, 0, none⟩) 1 1) [[.int .i64 kd, .string tx, .slice oo no co, .slice o1 n1 c1, .slice o2 n2 c2]]) := Lib.hid (by simpa using hsl)
      have HK5 : Hid (∀ x ∈ [[Value.int .i64 kd, .string tx, .slice oo no co, .slice o1 n1 c1, .slice o2 n2 c2]], x.length = 5) := Lib.hid (by intro x hx; simp at hx; subst hx; rfl)
      have H1C : Hid (∀ u ∈ [[Value.int .i64 kd, .string tx, .slice oo no co, .slice o1 n1 c1, .slice o2 n2 c2]].flatten, u.oneCell' = true) := Lib.hid (by intro u hu; simp at hu; rcases hu with rfl | rfl | rfl | rfl | rfl <;> rfl)
      have HLN : Hid ((cs.take k).length + [[Value.int .i64 kd, .string tx, .slice oo no co, .slice o1 n1 c1, .slice o2 n2 c2]].length ≤ 1000000000) := Lib.hid (by rw [List.length_take, List.length_singleton]; omega)
      clear hcell hgd hrow hix hrw hsl hw0
      go_wp2
      refine wp_region_tail (fun w' => ∃ x, w' = chg wr row x) [0,1,2,3,4,5,6,7,8,9,10,11,12,13,14,15,16,17,18,19,20,21,22,23,24,25,26] [27,28] [29] (by kernel_rfl) (by kernel_rfl) (ex_chg (grown_drew _ _)) ?_
      simp only [pick, List.map_cons, List.map_nil, List.getD_cons_zero, List.getD_cons_succ]
      repeat (go_big_quiet_step (fail))
      refine wpQuiet_nil ?_
      (unfold wpAct; go_wp2; refine ⟨ex_chg (grown_below (by repeat (first | exact Below.refl _ _ | assumption | refine b_drewN ?_ _ | refine Below.drew ?_ | refine b_ext' ?_ _ | refine b_alloc' ?_ _)) _), ?_⟩)
      unfold wpAct
      go_wp2_with (at_builtin; refine wpList_appL 5 rfl (.tmp 11) (.tmp 38) 28 rfl w.heap.size 41 (.agg #[.int .i64 0, .string ⟨#[]⟩, .slice none 0 0, .slice none 0 0, .slice none 0 0]) 96 Try.underlying28 (by kernel_rfl) rfl (by decide) (by decide) u3 _ rfl HTO.out _ _ rfl HSL.out HK5.out H1C.out HLN.out HT4.out ?_; intro v' w5 hown1 hg1 hk1; rw [← HROW.out] at hg1; have HO1 := Lib.hid hown1; have HG1 := Lib.hid hg1; clear hown1 hg1 hk1)
      refine ⟨ex_chg (grown_trans (grown_below (by repeat (first | exact Below.refl _ _ | assumption | refine b_drewN ?_ _ | refine Below.drew ?_ | refine b_ext' ?_ _ | refine b_alloc' ?_ _)) _) HG1.out), ?_⟩
      unfold wpAct
      have HB5 : Hid (Below w.heap.size w w5) := Lib.hid ((b_drew1 (HW.out.alloc hsz (.cells #[.int .i64 kd, .string tx, .slice oo no co, .slice o1 n1 c1, .slice o2 n2 c2] 41))).grown HG1.out HT4.out (fun q e => (HO.out.lt q (by rw [← HROW.out]; exact e)).1))
      unfold wpAct
      go_wp2
      refine ⟨trivial, ?_⟩
      unfold wpAct
      go_wp2
      go_roundg (cs.length + 1 - (k + 1))
      case measure => omega
      case rel => exact ⟨k + 1, by go_num, by omega, by rw [HTK.out]; exact HO1.out, HB5.out, rfl⟩
    · have hlti : decide (k < cs.length) = false := by rw [decide_eq_false_iff_not]; omega
      obtain rfl : k = cs.length := by omega
      go_wp2
      go_ret
      refine ⟨u3, rfl, ?_, HW.out⟩
      have h := HO.out
      rwa [List.take_length] at h
set_option maxRecDepth 100000 in
set_option maxHeartbeats 1000000 in
/-- parts, as the other has them -/
theorem takenPk {w : World} {v : Value} {cs : List (List Value)} (h : SlK 5 w v cs) (hcs : ∀ c ∈ cs, PtRow c) (hlen : cs.length ≤ 100000) : Calls Try.prog 23 #[v] w fun e w' => ∃ v', e = .returned v' ∧ OwnK 5 w' w.heap.size 80 v' cs ∧ Below w.heap.size w w' := by
  obtain ⟨oa, cap, bl, off, rfl, hd, hc⟩ := h
  have hix := index_anyK (P := Try.prog) 5 28 41 Try.underlying28 (by kernel_rfl) hd
  have HC := Lib.hid hc
  have HBL := Lib.hid hd.hblk
  have hm := hd.len
  have HCS := Lib.hid (fun i (hi : i < cs.length) => hcs _ (List.getElem_mem hi))
  clear hd hc hcs
  go_enter Try.func23, Try.ntmps23
  go_wp2
  go_loopg [3, 4] (cs.length + 1) (fun gk vo iv wr => ∃ k : Nat, iv = .int .i64 k ∧ k ≤ cs.length ∧ OwnK 5 wr w.heap.size 80 vo (cs.take k) ∧ Below w.heap.size w wr ∧ gk = cs.length + 1 - k)
  case atStart => exact ⟨0, rfl, Nat.zero_le _, OwnK.nil _ _ _ _, Below.refl _ _, rfl⟩
  case round =>
    obtain ⟨k, rfl, hk, hown, hbel, rfl⟩ := hrel
    have HO := Lib.hid hown
    have HW := Lib.hid hbel
    have hsz := hbel.size
    clear hown hbel
    by_cases hlt : k < cs.length
    · have hlti : decide (k < cs.length) = true := by rw [decide_eq_true_iff]; omega
      have hbl := HBL.out (by omega)
      have hblr : bl < wr.heap.size := by omega
      obtain ⟨kd, tx, oo, no, co, o1, n1, c1, o2, n2, c2, hrow⟩ := HCS.out k hlt
      have hix2 := fun W kd => hix W kd (k : Int) (by omega) (by omega)
      simp only [Int.toNat_natCast] at hix2
      have hgd : cs.getD k [] = [.int .i64 kd, .string tx, .slice oo no co, .slice o1 n1 c1, .slice o2 n2 c2] := by
        rw [← hrow]; simp [List.getD, hlt]
      have hcell : ∀ c, c < 5 → wr.cell? ⟨bl, off + k * 5 + c, none⟩ = some (([.int .i64 kd, .string tx, .slice oo no co, .slice o1 n1 c1, .slice o2 n2 c2] : List Value).getD c undef) := fun c hc => by
        rw [HW.out.cell (p := ⟨bl, off + k * 5 + c, none⟩) hbl, HC.out k hlt c hc, hgd]
      have e0 : wr.cell? ⟨bl, off + k * 5, none⟩ = some (.int .i64 kd) := hcell 0 (by decide)
      have e1 : wr.cell? ⟨bl, off + k * 5 + 1, none⟩ = some (.string tx) := hcell 1 (by decide)
      have e2 : wr.cell? ⟨bl, off + k * 5 + 2, none⟩ = some (.slice oo no co) := hcell 2 (by decide)
      have e3 : wr.cell? ⟨bl, off + k * 5 + 3, none⟩ = some (.slice o1 n1 c1) := hcell 3 (by decide)
      have e4 : wr.cell? ⟨bl, off + k * 5 + 4, none⟩ = some (.slice o2 n2 c2) := hcell 4 (by decide)
      have HTK : Hid (cs.take (k + 1) = cs.take k ++ [[.int .i64 kd, .string tx, .slice oo no co, .slice o1 n1 c1, .slice o2 n2 c2]]) := Lib.hid (by rw [List.take_succ_eq_append_getElem hlt, hrow])
      obtain ⟨row, hrw⟩ : ∃ row, row = u3.ownBlock := ⟨_, rfl⟩
      have HROW := Lib.hid hrw
      have hne : some bl ≠ row := fun e => by have := (HO.out.lt bl (by rw [← hrw, ← e])).1; omega
      have hw0 : w.heap.size ≤ wr.drew.heap.size := hsz
      have HT4 : Hid (w.heap.size ≤ (wr.drew.alloc (.cells #[.int .i64 kd, .string tx, .slice oo no co, .slice o1 n1 c1, .slice o2 n2 c2] 80)).heap.size) := Lib.hid (Nat.le_trans hw0 (below_alloc wr.drew _).size)
      have HTO := Lib.hid ((HO.out.up (b_drew1 (Below.refl _ _))).up (below_alloc wr.drew (.cells #[.int .i64 kd, .string tx, .slice oo no co, .slice o1 n1 c1, .slice o2 n2 c2] 80)))
      have hsl := slK_lit 5 wr.drew #[.int .i64 kd, .string tx, .slice oo no co, .slice o1 n1 c1, .slice o2 n2 c2] 80 [[.int .i64 kd, .string tx, .slice oo no co, .slice o1 n1 c1, .slice o2 n2 c2]] rfl (by intro x hx; simp at hx; subst hx; rfl) (by simp)
      have HSL : Hid (SlK 5 (wr.drew.alloc (.cells #[.int .i64 kd, .string tx, .slice oo no co, .slice o1 n1 c1, .slice o2 n2 c2] 80)) (.slice (some ⟨wr.heap.size, 0, none⟩) 1 1) [[.int .i64 kd, .string tx, .slice oo no co, .slice o1 n1 c1, .slice o2 n2 c2]]) := Lib.hid (by simpa using hsl)
      have HK5 : Hid (∀ x ∈ [[Value.int .i64 kd, .string tx, .slice oo no co, .slice o1 n1 c1, .slice o2 n2 c2]], x.length = 5) := Lib.hid (by intro x hx; simp at hx; subst hx; rfl)
      have H1C : Hid (∀ u ∈ [[Value.int .i64 kd, .string tx, .slice oo no co, .slice o1 n1 c1, .slice o2 n2 c2]].flatten, u.oneCell' = true) := Lib.hid (by intro u hu; simp at hu; rcases hu with rfl | rfl | rfl | rfl | rfl <;> rfl)
      have HLN : Hid ((cs.take k).length + [[Value.int .i64 kd, .string tx, .slice oo no co, .slice o1 n1 c1, .slice o2 n2 c2]].length ≤ 1000000000) := Lib.hid (by rw [List.length_take, List.length_singleton]; omega)
      clear hcell hgd hrow hix hrw hsl hw0
      go_wp2
      refine wp_region_tail (fun w' => ∃ x, w' = chg wr row x) [0,1,2,3,4,5,6,7,8,9,10,11,12,13,14,15,16,17,18,19,20,21,22,23,24,25,26] [27,28] [29] (by kernel_rfl) (by kernel_rfl) (ex_chg (grown_drew _ _)) ?_
      simp only [pick, List.map_cons, List.map_nil, List.getD_cons_zero, List.getD_cons_succ]
      repeat (go_big_quiet_step (fail))
      refine wpQuiet_nil ?_
      (unfold wpAct; go_wp2; refine ⟨ex_chg (grown_below (by repeat (first | exact Below.refl _ _ | assumption | refine b_drewN ?_ _ | refine Below.drew ?_ | refine b_ext' ?_ _ | refine b_alloc' ?_ _)) _), ?_⟩)
      unfold wpAct
      go_wp2_with (at_builtin; refine wpList_appL 5 rfl (.tmp 11) (.tmp 38) 22 rfl w.heap.size 80 (.agg #[.int .i64 0, .string ⟨#[]⟩, .slice none 0 0, .slice none 0 0, .slice none 0 0]) 96 Try.underlying22 (by kernel_rfl) rfl (by decide) (by decide) u3 _ rfl HTO.out _ _ rfl HSL.out HK5.out H1C.out HLN.out HT4.out ?_; intro v' w5 hown1 hg1 hk1; rw [← HROW.out] at hg1; have HO1 := Lib.hid hown1; have HG1 := Lib.hid hg1; clear hown1 hg1 hk1)
      refine ⟨ex_chg (grown_trans (grown_below (by repeat (first | exact Below.refl _ _ | assumption | refine b_drewN ?_ _ | refine Below.drew ?_ | refine b_ext' ?_ _ | refine b_alloc' ?_ _)) _) HG1.out), ?_⟩
      unfold wpAct
      have HB5 : Hid (Below w.heap.size w w5) := Lib.hid ((b_drew1 (HW.out.alloc hsz (.cells #[.int .i64 kd, .string tx, .slice oo no co, .slice o1 n1 c1, .slice o2 n2 c2] 80))).grown HG1.out HT4.out (fun q e => (HO.out.lt q (by rw [← HROW.out]; exact e)).1))
      unfold wpAct
      go_wp2
      refine ⟨trivial, ?_⟩
      unfold wpAct
      go_wp2
      go_roundg (cs.length + 1 - (k + 1))
      case measure => omega
      case rel => exact ⟨k + 1, by go_num, by omega, by rw [HTK.out]; exact HO1.out, HB5.out, rfl⟩
    · have hlti : decide (k < cs.length) = false := by rw [decide_eq_false_iff_not]; omega
      obtain rfl : k = cs.length := by omega
      go_wp2
      go_ret
      refine ⟨u3, rfl, ?_, HW.out⟩
      have h := HO.out
      rwa [List.take_length] at h
end Go.Cm
