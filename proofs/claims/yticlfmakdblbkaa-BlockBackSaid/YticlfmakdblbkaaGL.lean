/- Texts of this claim, joined: walks of small functions and plain facts about them. Conditions: as each says. -/
import Derived.Test.YticlfmakdblbkaaGJ
import Derived.Deep.LoopGhost
/- The document's writer while numbers are put, and the walk of its Align. Conditions: the writer is there. -/
namespace Go.Cm
open Go.RowKit Go.Proofs

theorem bitsN_zero {N L k : Nat} (hN : N < 2 ^ L) (hk : L ≤ k) : bitsN N (k + 1) = bitsN N k ++ [.int .u8 0] := by
  rw [bitsN_succ, Nat.testBit_lt_two_pow (Nat.lt_of_lt_of_le hN (Nat.pow_le_pow_right (by decide) hk))]
  rfl
theorem alignRV {w : World} {B g N L : Nat} {vb0 : Value} (h : WrtRV w B g N L vb0) (hL : L ≤ 1000000) :
    Calls Try.prog 46 #[.pointer (some ⟨g, 0, none⟩)] w fun e w' => e = .returned (.tuple #[]) ∧ ∃ vb', WrtRV w' B g N (alignN L) vb' ∧ Below B w w' ∧ Fr g vb0 vb' w w' := by
  obtain ⟨hbox, hown, hne, hge, hlt⟩ := h
  have HLT := Lib.hid hlt
  have HBX := Lib.hid hbox
  have HOX := Lib.hid hown
  have hal : L ≤ alignN L ∧ alignN L ≤ L + 7 ∧ alignN L % 8 = 0 := by unfold alignN; omega
  obtain ⟨a1, a2, a3⟩ := hal
  have hal2 : ∀ k, L ≤ k → k ≤ alignN L → k % 8 = 0 → k = alignN L := fun k h1 h2 h3 => by unfold alignN at *; omega
  have HAL := Lib.hid hal2
  clear hbox hown hlt hal2
  generalize alignN L = A at *
  go_enter Try.func46, Try.ntmps46
  go_wp2
  go_loopg [] (A - L) (fun gk wr => ∃ (k : Nat) (vb : Value), L ≤ k ∧ k ≤ A ∧ Own wr g 55 (.slice (some ⟨g, 0, none⟩) 1 1) [vb] ∧ Own wr B 5 vb (bitsN N k) ∧ vb.ownBlock ≠ some g ∧ Below B w wr ∧ Fr g vb0 vb w wr ∧ gk = A - k)
  case atStart => exact ⟨L, vb0, Nat.le_refl _, a1, HBX.out, HOX.out, hne, Below.refl _ _, Fr.refl _ _ _, rfl⟩
  case round =>
    obtain ⟨k, vb, hk1, hk2, hbox, hown, hne, hbel, hfr, rfl⟩ := hrel
    have HFR := Lib.hid hfr
    have HB := Lib.hid hbox
    have HO := Lib.hid hown
    have HE := Lib.hid hbel
    obtain ⟨ov, cv, gv, hvb, hd, -⟩ := hown.cases
    rw [bitsN_length] at hvb
    subst hvb
    have c0 : wr.cell? ⟨g, 0, none⟩ = some (.slice ov k cv) := hbox.cell (by simp)
    have f0 := hbox.free 0
    have hg := hbox.blk.2
    have HS := Lib.hid (bitsN_zero HLT.out hk1)
    have hk6 : k ≤ 1000007 := by omega
    have hqi : (k : Int) % 8 = ((k % 8 : Nat) : Int) := by omega
    have HPT : Hid (∀ m, k % 8 = m → (m = 0 → k = A) ∧ (m ≠ 0 → k + 1 ≤ A)) := Lib.hid (fun m hm => ⟨fun h => HAL.out k hk1 hk2 (by omega), fun h => by
      apply Classical.byContradiction; intro hn
      have : k = A := by omega
      subst this
      omega⟩)
    have hm8 : k % 8 < 8 := Nat.mod_lt _ (by decide)
    clear hfr hbox hown hbel HBX HOX hd
    generalize hm : k % 8 = m at *
    have HP := Lib.hid (HPT.out m rfl)
    clear hm HPT
    cases m with
    | zero =>
      go_wp2
      go_end0
      obtain rfl := HP.out.1 (by trivial)
      exact ⟨rfl, _, ⟨HB.out, HO.out, hne, hge, Nat.lt_of_lt_of_le HLT.out (Nat.pow_le_pow_right (by decide) hk1)⟩, HE.out, HFR.out⟩
    | succ m =>
      have hcc : ¬ ((m + 1 : Nat) : Int) = 0 := by omega
      have hBg : B ≤ wr.heap.size := by omega
      have hlW := Lib.hid (below_alloc wr (.cells #[.int .u8 0] 5))
      have HX : Hid (Sl (wr.alloc (.cells #[.int .u8 0] 5)) (.slice (some ⟨wr.heap.size, 0, none⟩) 1 1) [.int .u8 0]) := Lib.hid (by simpa using sl_lit wr #[.int .u8 0] 5 (by simp))
      have HT1 := Lib.hid (HO.out.up hlW.out)
      have HT2 : Hid (∀ u ∈ [Value.int .u8 0], u.oneCell' = true) := Lib.hid (by intro u hu; simp at hu; subst hu; rfl)
      have HT3 : Hid ((bitsN N k).length + 1 ≤ 4294967296) := Lib.hid (by rw [bitsN_length]; omega)
      have HT4 : Hid (B ≤ (wr.alloc (.cells #[.int .u8 0] 5)).heap.size) := Lib.hid (Nat.le_trans hBg hlW.out.size)
      have HK := Lib.hid hk1
      have hk3 := HP.out.2 (Nat.succ_ne_zero m)
      go_wp2_with (at_builtin; refine wpList_app rfl (.tmp 13) (.tmp 14) 53 rfl B 5 (.int .u8 0) 1 Try.underlying53 (by kernel_rfl) rfl (by decide) (.slice ov k cv) (bitsN N k) rfl HT1.out (.slice (some ⟨wr.heap.size, 0, none⟩) 1 1) [.int .u8 0] rfl HX.out HT2.out HT3.out HT4.out ?_; intro v' w5 hown1 hg1 hk1; have HO1 := Lib.hid hown1; have HG1 := Lib.hid hg1; have HK1 := Lib.hid hk1; clear hown1 hg1 hk1; have HB5 := Lib.hid ((HB.out.up hlW.out).keep HG1.out (.inr (fun e => hne e.symm))); have hne5 : Hid (v'.ownBlock ≠ some g) := Lib.hid (fun e => by
        rcases HK1.out g e with h | h
        · exact hne h
        · have := hlW.out.size; simp at h; omega); have HO5 : Hid (Own w5 B 5 v' (bitsN N (k + 1))) := Lib.hid (by rw [HS.out]; exact HO1.out); have HF5 : Hid (Fr g vb0 v' w w5) := Lib.hid (((HFR.out.below hlW.out).step HG1.out (fun k e => .inr e)).val HK1.out (Nat.le_trans HFR.out.2.2 hlW.out.size)); have HL5 : Hid (Below B w w5) := Lib.hid (below_grown (HE.out.trans (hlW.out.mono hBg)) HT4.out HT1.out HG1.out); clear HO1 HG1 HK1 HT1 HX c0 f0 hg hBg; obtain ⟨o5, c5, g5, rfl, -⟩ := HO5.out.cases; generalize (bitsN N (k + 1)).length = l5 at *; have HST := Lib.hid (HB5.out.store 0 (.slice o5 l5 c5)); have f0 := HB5.out.free 0; have c0 : w5.cell? ⟨g, 0, none⟩ = some (.slice ov k cv) := HB5.out.cell (by simp); have hg := HB5.out.blk.2)
      go_roundg (A - (k + 1))
      case measure => omega
      case rel => exact ⟨k + 1, _, by omega, hk3, HST.out.1, HO5.out.keep HST.out.2 (.inr hne5.out), hne5.out, HL5.out.grown HST.out.2 (by omega) (fun k hk => by cases hk; exact hge), HF5.out.step HST.out.2 (fun k e => by cases e; exact .inl rfl), rfl⟩

/-- the document's writer in block g, whose row was vb0 in world w0 -/
def RSt (w0 : World) (B g : Nat) (vb0 : Value) (st : Nat × Nat) (W : World) : Prop := ∃ vb, WrtRV W B g st.1 st.2 vb ∧ Below B w0 W ∧ Fr g vb0 vb w0 W
theorem RSt.start {w : World} {B g N L : Nat} {vb : Value} (h : WrtRV w B g N L vb) : RSt w B g vb (N, L) w := ⟨vb, h, Below.refl _ _, Fr.refl _ _ _⟩
theorem RSt.up {w0 W W' : World} {B g : Nat} {vb0 : Value} {st : Nat × Nat} (h : RSt w0 B g vb0 st W) (hb : Below W.heap.size W W') (hB : B ≤ W.heap.size) : RSt w0 B g vb0 st W' := by
  obtain ⟨vb, h1, h2, h3⟩ := h
  exact ⟨vb, h1.up hb, h2.trans (hb.mono hB), h3.below hb⟩
theorem RSt.bel {w0 W : World} {B g : Nat} {vb0 : Value} {st : Nat × Nat} (h : RSt w0 B g vb0 st W) : Below B w0 W := by
  obtain ⟨vb, h1, h2, h3⟩ := h; exact h2
theorem RSt.size {w0 W : World} {B g : Nat} {vb0 : Value} {st : Nat × Nat} (h : RSt w0 B g vb0 st W) : w0.heap.size ≤ W.heap.size := h.bel.size
theorem RSt.own {w0 W : World} {B g B' E : Nat} {vb0 v : Value} {st : Nat × Nat} {xs : List Value} (h : RSt w0 B g vb0 st W) (ho : Own w0 B' E v xs) (h1 : v.ownBlock ≠ some g) (h2 : ∀ k, v.ownBlock = some k → vb0.ownBlock ≠ some k) : Own W B' E v xs := by
  obtain ⟨vb, -, -, h3⟩ := h
  exact ho.of_blk fun k hk => h3.1 k (ho.lt k hk).2 (fun e => h1 (by rw [hk, e])) (h2 k hk)
theorem RSt.join {w0 W : World} {B g : Nat} {vb0 : Value} {st st' : Nat × Nat} {P : Program} {f : FuncId} {args : Array Value} {Q : Ending → Prop} (h : RSt w0 B g vb0 st W)
    (hc : ∀ vb, WrtRV W B g st.1 st.2 vb → Calls P f args W fun e w' => Q e ∧ RSt W B g vb st' w') : Calls P f args W fun e w' => Q e ∧ RSt w0 B g vb0 st' w' := by
  obtain ⟨vb, h1, h2, h3⟩ := h
  exact (hc vb h1).mono fun e w' ⟨hq, vb', g1, g2, g3⟩ => ⟨hq, vb', g1, h2.trans g2, h3.trans g3⟩
theorem putRW {w0 W : World} {B g : Nat} {vb0 : Value} {st : Nat × Nat} (h : RSt w0 B g vb0 st W) (v n : Nat) (hv : v < 2 ^ n) (hn : n ≤ 32) (hL : st.2 + n ≤ 2147483648) :
    Calls Try.prog 22 #[.pointer (some ⟨g, 0, none⟩), .int .i64 v, .int .i64 n] W fun e w' => e = .returned (.int .i64 0) ∧ RSt w0 B g vb0 (st.1 + v * 2 ^ st.2, st.2 + n) w' :=
  h.join (Q := fun e => e = .returned (.int .i64 0)) fun _ hb => (putRV hb v n hv hn hL).mono fun _ _ ⟨he, vb', h1, h2, h3⟩ => ⟨he, vb', h1, h2, h3⟩
theorem codeRW {w0 W : World} {B g : Nat} {vb0 : Value} {st : Nat × Nat} (h : RSt w0 B g vb0 st W) (v n : Nat) (hv : v < 2 ^ n) (hn : n ≤ 32) (hL : st.2 + n ≤ 2147483648) :
    Calls Try.prog 48 #[.pointer (some ⟨g, 0, none⟩), .int .i64 v, .int .i64 n] W fun e w' => e = .returned (.int .i64 0) ∧ RSt w0 B g vb0 (st.1 + turnN v n * 2 ^ st.2, st.2 + n) w' :=
  h.join (Q := fun e => e = .returned (.int .i64 0)) fun _ hb => (codeRV hb v n hv hn hL).mono fun _ _ ⟨he, vb', h1, h2, h3⟩ => ⟨he, vb', h1, h2, h3⟩
theorem alignRW {w0 W : World} {B g : Nat} {vb0 : Value} {st : Nat × Nat} (h : RSt w0 B g vb0 st W) (hL : st.2 ≤ 1000000) :
    Calls Try.prog 46 #[.pointer (some ⟨g, 0, none⟩)] W fun e w' => e = .returned (.tuple #[]) ∧ RSt w0 B g vb0 (alignW st) w' :=
  h.join (Q := fun e => e = .returned (.tuple #[])) fun _ hb => (alignRV hb hL).mono fun _ _ ⟨he, vb', h1, h2, h3⟩ => ⟨he, vb', h1, h2, h3⟩
theorem RSt.from1 {w w1 W : World} {B g : Nat} {vb0 : Value} {st : Nat × Nat} (h : RSt w1 B g vb0 st W) (hb : Below w.heap.size w w1) (hB : B ≤ w.heap.size) : RSt w B g vb0 st W := by
  obtain ⟨vb, h1, h2, h3⟩ := h
  exact ⟨vb, h1, (hb.mono hB).trans h2, ((Fr.refl g vb0 w).below hb).trans h3⟩
end Go.Cm

/- The walks of the document's Write of a head: stored and fixed ones. Conditions: the writer is there. -/
namespace Go.Cm
open Go.RowKit Go.Proofs

set_option maxRecDepth 100000 in
set_option maxHeartbeats 4000000 in
theorem writeHR0false {w : World} {B g N L : Nat} {vb0 : Value} (h : WrtRV w B g N L vb0) (zn : Nat) (hzn : zn ≤ 65535) (o1 o2 : Option Addr) (n1 n2 c1 c2 : Nat) (hL : L ≤ 1000) :
    Calls Try.prog 23 #[.pointer (some ⟨g, 0, none⟩), .agg #[.bool false, .int .i64 0, .int .i64 (zn : Nat), .slice o1 n1 c1, .slice o2 n2 c2]] w fun e w' => e = .returned (.int .i64 0) ∧ RSt w B g vb0 (putS [(zn, 16), (65535 - zn, 16)] (alignW (putS [(0, 1), (0, 2)] (N, L)))) w' := by
  have hBw : B ≤ w.heap.size := by have := h.ge; have := h.box.blk.2; omega
  have hgw := h.box.blk.2
  have hvb : ∀ q, vb0.ownBlock = some q → q < w.heap.size := fun q hq => (h.own.lt q hq).2
  obtain ⟨w1, hw1⟩ : ∃ w1, w1 = w.alloc (.cells #[.bool false, .int .i64 0, .int .i64 (zn : Nat), .slice o1 n1 c1, .slice o2 n2 c2] 36) := ⟨_, rfl⟩
  have hA := ownH w false 0 (zn : Nat) o1 o2 n1 n2 c1 c2 36
  rw [← hw1] at hA
  have hb1 : Below w.heap.size w w1 := by rw [hw1]; exact below_alloc _ _
  have HB1 := Lib.hid hb1
  have HS1 := Lib.hid (RSt.start (h.up hb1))
  have HA := Lib.hid hA
  have HW1 := Lib.hid hw1
  have HA3 : Hid (∀ st W, RSt w1 B g vb0 st W → Own W w.heap.size 36 (.slice (some ⟨w.heap.size, 0, none⟩) 5 5) [.bool false, .int .i64 0, .int .i64 (zn : Nat), .slice o1 n1 c1, .slice o2 n2 c2]) := Lib.hid (fun st W h => h.own HA.out (fun e => by have e2 : some w.heap.size = some g := e; injection e2 with e2; omega) (fun q hq e => by have e2 : some w.heap.size = some q := hq; injection e2 with e2; have := hvb q e; omega))
  have HBL : Hid (∀ st W, RSt w1 B g vb0 st W → Below B w W) := Lib.hid (fun st W h => (HB1.out.mono hBw).trans h.bel)
  clear h hw1 hb1 hA HA
  have HPK : Hid (∀ (W : World) (st : Nat × Nat), RSt w1 B g vb0 st W → st.2 + 2 ≤ 1000000 → Calls Try.prog 22 #[.pointer (some ⟨g, 0, none⟩), .int .i64 0, .int .i64 2] W fun e w' => e = .returned (.int .i64 0) ∧ RSt w1 B g vb0 (st.1 + 0 * 2 ^ st.2, st.2 + 2) w') := Lib.hid (fun W st h hl => putRW h 0 2 (by decide) (by omega) (by omega))
  have HP1 : Hid (Calls Try.prog 22 #[.pointer (some ⟨g, 0, none⟩), .int .i64 0, .int .i64 1] w1 fun e w' => e = .returned (.int .i64 0) ∧ RSt w1 B g vb0 (N + 0 * 2 ^ L, L + 1) w') := Lib.hid (putRW HS1.out 0 1 (by decide) (by omega) (by simp only; omega))
  have HAL := Lib.hid (fun (W : World) (st : Nat × Nat) (h : RSt w1 B g vb0 st W) (hl : st.2 ≤ 1000000) => alignRW h hl)
  have HP6 := Lib.hid (fun (W : World) (st : Nat × Nat) (v : Nat) (h : RSt w1 B g vb0 st W) (hv : v < 2 ^ 16) (hl : st.2 + 16 ≤ 2147483648) => putRW h v 16 hv (by omega) hl)
  rw [show ((16 : Nat) : Int) = 16 from rfl] at HP6
  have hal : (alignW (N + 0 * 2 ^ L + 0 * 2 ^ (L + 1), L + 1 + 2)).2 ≤ 2000 := by show alignN (L + 1 + 2) ≤ 2000; unfold alignN; omega
  have hznt : 65535 - zn < 2 ^ 16 := by omega
  have hznt0 : zn < 2 ^ 16 := by omega
  have hsub : (65535 : Int) - (zn : Int) = ((65535 - zn : Nat) : Int) := by omega
  obtain ⟨zt, hzt⟩ : ∃ zt, zt = 65535 - zn := ⟨_, rfl⟩
  rw [← hzt] at hznt hsub ⊢
  have hz1 : ¬ (zn : Int) < 0 := by omega
  have hz2 : ¬ (zn : Int) > 65535 := by omega
  clear hzt
  go_enter Try.func23, Try.ntmps23
  go_upto_region 12 with fail
  rw [← HW1.out]
  have x1w1 := (HA3.out _ _ HS1.out).cell (i := 1) (by simp)
  have yw1 := (HA3.out _ _ HS1.out).blk.2
  go_upto_region 14 with (go_at_call 22; first | ((with_reducible refine HP1.out.mono ?_); rintro e w4 ⟨rfl, hq⟩; (have HS_w4 := Lib.hid hq; have x1w4 := (HA3.out _ _ hq).cell (i := 1) (by simp); have yw4 := (HA3.out _ _ hq).blk.2; have HP2 := Lib.hid (HPK.out _ _ hq (by simp only; omega)); clear hq HP1 x1w1 yw1)) | ((with_reducible refine HP2.out.mono ?_); rintro e w5 ⟨rfl, hq⟩; (have HS_w5 := Lib.hid hq; have x1w5 := (HA3.out _ _ hq).cell (i := 1) (by simp); have yw5 := (HA3.out _ _ hq).blk.2; have HA5 := Lib.hid (HAL.out _ _ hq (by simp only; omega)); clear hq HP2 x1w4 yw4 HS_w4)))
  go_upto_region 16 with (go_at_call 46; (with_reducible refine HA5.out.mono ?_); rintro e w6 ⟨rfl, hq⟩; (have HS_w6 := Lib.hid hq; have x2w6 := (HA3.out _ _ hq).cell (i := 2) (by simp); have yw6 := (HA3.out _ _ hq).blk.2; have HPZ := Lib.hid (HP6.out _ _ zn hq hznt0 (by omega)); clear hq HA5 x1w5 yw5 HS_w5))
  go_upto_region 18 with (go_at_call 22; first | ((with_reducible refine HPZ.out.mono ?_); rintro e w7 ⟨rfl, hq⟩; (have HS_w7 := Lib.hid hq; have x2w7 := (HA3.out _ _ hq).cell (i := 2) (by simp); have yw7 := (HA3.out _ _ hq).blk.2; have HPY := Lib.hid (HP6.out _ _ zt hq hznt (by simp only; omega)); clear hq HPZ x2w6 yw6 HS_w6)) | ((with_reducible refine HPY.out.mono ?_); rintro e w8 ⟨rfl, hq⟩; (have HS_w8 := Lib.hid hq; have x1w8 := (HA3.out _ _ hq).cell (i := 1) (by simp); have yw8 := (HA3.out _ _ hq).blk.2; clear hq HPY x2w7 yw7 HS_w7)))
  go_wp2
  go_ret
  exact ⟨rfl, HS_w8.out.from1 HB1.out hBw⟩
set_option maxRecDepth 100000 in
set_option maxHeartbeats 4000000 in
theorem writeHR0true {w : World} {B g N L : Nat} {vb0 : Value} (h : WrtRV w B g N L vb0) (zn : Nat) (hzn : zn ≤ 65535) (o1 o2 : Option Addr) (n1 n2 c1 c2 : Nat) (hL : L ≤ 1000) :
    Calls Try.prog 23 #[.pointer (some ⟨g, 0, none⟩), .agg #[.bool true, .int .i64 0, .int .i64 (zn : Nat), .slice o1 n1 c1, .slice o2 n2 c2]] w fun e w' => e = .returned (.int .i64 0) ∧ RSt w B g vb0 (putS [(zn, 16), (65535 - zn, 16)] (alignW (putS [(1, 1), (0, 2)] (N, L)))) w' := by
  have hBw : B ≤ w.heap.size := by have := h.ge; have := h.box.blk.2; omega
  have hgw := h.box.blk.2
  have hvb : ∀ q, vb0.ownBlock = some q → q < w.heap.size := fun q hq => (h.own.lt q hq).2
  obtain ⟨w1, hw1⟩ : ∃ w1, w1 = w.alloc (.cells #[.bool true, .int .i64 0, .int .i64 (zn : Nat), .slice o1 n1 c1, .slice o2 n2 c2] 36) := ⟨_, rfl⟩
  have hA := ownH w true 0 (zn : Nat) o1 o2 n1 n2 c1 c2 36
  rw [← hw1] at hA
  have hb1 : Below w.heap.size w w1 := by rw [hw1]; exact below_alloc _ _
  have HB1 := Lib.hid hb1
  have HS1 := Lib.hid (RSt.start (h.up hb1))
  have HA := Lib.hid hA
  have HW1 := Lib.hid hw1
  have HA3 : Hid (∀ st W, RSt w1 B g vb0 st W → Own W w.heap.size 36 (.slice (some ⟨w.heap.size, 0, none⟩) 5 5) [.bool true, .int .i64 0, .int .i64 (zn : Nat), .slice o1 n1 c1, .slice o2 n2 c2]) := Lib.hid (fun st W h => h.own HA.out (fun e => by have e2 : some w.heap.size = some g := e; injection e2 with e2; omega) (fun q hq e => by have e2 : some w.heap.size = some q := hq; injection e2 with e2; have := hvb q e; omega))
  have HBL : Hid (∀ st W, RSt w1 B g vb0 st W → Below B w W) := Lib.hid (fun st W h => (HB1.out.mono hBw).trans h.bel)
  clear h hw1 hb1 hA HA
  have HPK : Hid (∀ (W : World) (st : Nat × Nat), RSt w1 B g vb0 st W → st.2 + 2 ≤ 1000000 → Calls Try.prog 22 #[.pointer (some ⟨g, 0, none⟩), .int .i64 0, .int .i64 2] W fun e w' => e = .returned (.int .i64 0) ∧ RSt w1 B g vb0 (st.1 + 0 * 2 ^ st.2, st.2 + 2) w') := Lib.hid (fun W st h hl => putRW h 0 2 (by decide) (by omega) (by omega))
  have HP1 : Hid (Calls Try.prog 22 #[.pointer (some ⟨g, 0, none⟩), .int .i64 1, .int .i64 1] w1 fun e w' => e = .returned (.int .i64 0) ∧ RSt w1 B g vb0 (N + 1 * 2 ^ L, L + 1) w') := Lib.hid (putRW HS1.out 1 1 (by decide) (by omega) (by simp only; omega))
  have HAL := Lib.hid (fun (W : World) (st : Nat × Nat) (h : RSt w1 B g vb0 st W) (hl : st.2 ≤ 1000000) => alignRW h hl)
  have HP6 := Lib.hid (fun (W : World) (st : Nat × Nat) (v : Nat) (h : RSt w1 B g vb0 st W) (hv : v < 2 ^ 16) (hl : st.2 + 16 ≤ 2147483648) => putRW h v 16 hv (by omega) hl)
  rw [show ((16 : Nat) : Int) = 16 from rfl] at HP6
  have hal : (alignW (N + 1 * 2 ^ L + 0 * 2 ^ (L + 1), L + 1 + 2)).2 ≤ 2000 := by show alignN (L + 1 + 2) ≤ 2000; unfold alignN; omega
  have hznt : 65535 - zn < 2 ^ 16 := by omega
  have hznt0 : zn < 2 ^ 16 := by omega
  have hsub : (65535 : Int) - (zn : Int) = ((65535 - zn : Nat) : Int) := by omega
  obtain ⟨zt, hzt⟩ : ∃ zt, zt = 65535 - zn := ⟨_, rfl⟩
  rw [← hzt] at hznt hsub ⊢
  have hz1 : ¬ (zn : Int) < 0 := by omega
  have hz2 : ¬ (zn : Int) > 65535 := by omega
  clear hzt
  go_enter Try.func23, Try.ntmps23
  go_upto_region 12 with fail
  rw [← HW1.out]
  have x1w1 := (HA3.out _ _ HS1.out).cell (i := 1) (by simp)
  have yw1 := (HA3.out _ _ HS1.out).blk.2
  go_upto_region 14 with (go_at_call 22; first | ((with_reducible refine HP1.out.mono ?_); rintro e w4 ⟨rfl, hq⟩; (have HS_w4 := Lib.hid hq; have x1w4 := (HA3.out _ _ hq).cell (i := 1) (by simp); have yw4 := (HA3.out _ _ hq).blk.2; have HP2 := Lib.hid (HPK.out _ _ hq (by simp only; omega)); clear hq HP1 x1w1 yw1)) | ((with_reducible refine HP2.out.mono ?_); rintro e w5 ⟨rfl, hq⟩; (have HS_w5 := Lib.hid hq; have x1w5 := (HA3.out _ _ hq).cell (i := 1) (by simp); have yw5 := (HA3.out _ _ hq).blk.2; have HA5 := Lib.hid (HAL.out _ _ hq (by simp only; omega)); clear hq HP2 x1w4 yw4 HS_w4)))
  go_upto_region 16 with (go_at_call 46; (with_reducible refine HA5.out.mono ?_); rintro e w6 ⟨rfl, hq⟩; (have HS_w6 := Lib.hid hq; have x2w6 := (HA3.out _ _ hq).cell (i := 2) (by simp); have yw6 := (HA3.out _ _ hq).blk.2; have HPZ := Lib.hid (HP6.out _ _ zn hq hznt0 (by omega)); clear hq HA5 x1w5 yw5 HS_w5))
  go_upto_region 18 with (go_at_call 22; first | ((with_reducible refine HPZ.out.mono ?_); rintro e w7 ⟨rfl, hq⟩; (have HS_w7 := Lib.hid hq; have x2w7 := (HA3.out _ _ hq).cell (i := 2) (by simp); have yw7 := (HA3.out _ _ hq).blk.2; have HPY := Lib.hid (HP6.out _ _ zt hq hznt (by simp only; omega)); clear hq HPZ x2w6 yw6 HS_w6)) | ((with_reducible refine HPY.out.mono ?_); rintro e w8 ⟨rfl, hq⟩; (have HS_w8 := Lib.hid hq; have x1w8 := (HA3.out _ _ hq).cell (i := 1) (by simp); have yw8 := (HA3.out _ _ hq).blk.2; clear hq HPY x2w7 yw7 HS_w7)))
  go_wp2
  go_ret
  exact ⟨rfl, HS_w8.out.from1 HB1.out hBw⟩
set_option maxRecDepth 100000 in
set_option maxHeartbeats 4000000 in
theorem writeHR1false {w : World} {B g N L : Nat} {vb0 : Value} (h : WrtRV w B g N L vb0) (z : Int) (o1 o2 : Option Addr) (n1 n2 c1 c2 : Nat) (hL : L ≤ 1000) :
    Calls Try.prog 23 #[.pointer (some ⟨g, 0, none⟩), .agg #[.bool false, .int .i64 1, .int .i64 z, .slice o1 n1 c1, .slice o2 n2 c2]] w fun e w' => e = .returned (.int .i64 0) ∧ RSt w B g vb0 (putS [(0, 1), (1, 2)] (N, L)) w' := by
  have hBw : B ≤ w.heap.size := by have := h.ge; have := h.box.blk.2; omega
  have hgw := h.box.blk.2
  have hvb : ∀ q, vb0.ownBlock = some q → q < w.heap.size := fun q hq => (h.own.lt q hq).2
  obtain ⟨w1, hw1⟩ : ∃ w1, w1 = w.alloc (.cells #[.bool false, .int .i64 1, .int .i64 z, .slice o1 n1 c1, .slice o2 n2 c2] 36) := ⟨_, rfl⟩
  have hA := ownH w false 1 z o1 o2 n1 n2 c1 c2 36
  rw [← hw1] at hA
  have hb1 : Below w.heap.size w w1 := by rw [hw1]; exact below_alloc _ _
  have HB1 := Lib.hid hb1
  have HS1 := Lib.hid (RSt.start (h.up hb1))
  have HA := Lib.hid hA
  have HW1 := Lib.hid hw1
  have HA3 : Hid (∀ st W, RSt w1 B g vb0 st W → Own W w.heap.size 36 (.slice (some ⟨w.heap.size, 0, none⟩) 5 5) [.bool false, .int .i64 1, .int .i64 z, .slice o1 n1 c1, .slice o2 n2 c2]) := Lib.hid (fun st W h => h.own HA.out (fun e => by have e2 : some w.heap.size = some g := e; injection e2 with e2; omega) (fun q hq e => by have e2 : some w.heap.size = some q := hq; injection e2 with e2; have := hvb q e; omega))
  have HBL : Hid (∀ st W, RSt w1 B g vb0 st W → Below B w W) := Lib.hid (fun st W h => (HB1.out.mono hBw).trans h.bel)
  clear h hw1 hb1 hA HA
  have HPK : Hid (∀ (W : World) (st : Nat × Nat), RSt w1 B g vb0 st W → st.2 + 2 ≤ 1000000 → Calls Try.prog 22 #[.pointer (some ⟨g, 0, none⟩), .int .i64 1, .int .i64 2] W fun e w' => e = .returned (.int .i64 0) ∧ RSt w1 B g vb0 (st.1 + 1 * 2 ^ st.2, st.2 + 2) w') := Lib.hid (fun W st h hl => putRW h 1 2 (by decide) (by omega) (by omega))
  have HP1 : Hid (Calls Try.prog 22 #[.pointer (some ⟨g, 0, none⟩), .int .i64 0, .int .i64 1] w1 fun e w' => e = .returned (.int .i64 0) ∧ RSt w1 B g vb0 (N + 0 * 2 ^ L, L + 1) w') := Lib.hid (putRW HS1.out 0 1 (by decide) (by omega) (by simp only; omega))
  go_enter Try.func23, Try.ntmps23
  go_upto_region 12 with fail
  rw [← HW1.out]
  have x1w1 := (HA3.out _ _ HS1.out).cell (i := 1) (by simp)
  have yw1 := (HA3.out _ _ HS1.out).blk.2
  go_wp2_with (go_at_call 22; first | ((with_reducible refine HP1.out.mono ?_); rintro e w4 ⟨rfl, hq⟩; (have HS_w4 := Lib.hid hq; have x1w4 := (HA3.out _ _ hq).cell (i := 1) (by simp); have yw4 := (HA3.out _ _ hq).blk.2; have HP2 := Lib.hid (HPK.out _ _ hq (by simp only; omega)); clear hq HP1 x1w1 yw1)) | ((with_reducible refine HP2.out.mono ?_); rintro e w5 ⟨rfl, hq⟩; (have HS_w5 := Lib.hid hq; have x1w5 := (HA3.out _ _ hq).cell (i := 1) (by simp); have yw5 := (HA3.out _ _ hq).blk.2; clear hq HP2 x1w4 yw4 HS_w4)))
  go_ret
  exact ⟨rfl, HS_w5.out.from1 HB1.out hBw⟩
set_option maxRecDepth 100000 in
set_option maxHeartbeats 4000000 in
theorem writeHR1true {w : World} {B g N L : Nat} {vb0 : Value} (h : WrtRV w B g N L vb0) (z : Int) (o1 o2 : Option Addr) (n1 n2 c1 c2 : Nat) (hL : L ≤ 1000) :
    Calls Try.prog 23 #[.pointer (some ⟨g, 0, none⟩), .agg #[.bool true, .int .i64 1, .int .i64 z, .slice o1 n1 c1, .slice o2 n2 c2]] w fun e w' => e = .returned (.int .i64 0) ∧ RSt w B g vb0 (putS [(1, 1), (1, 2)] (N, L)) w' := by
  have hBw : B ≤ w.heap.size := by have := h.ge; have := h.box.blk.2; omega
  have hgw := h.box.blk.2
  have hvb : ∀ q, vb0.ownBlock = some q → q < w.heap.size := fun q hq => (h.own.lt q hq).2
  obtain ⟨w1, hw1⟩ : ∃ w1, w1 = w.alloc (.cells #[.bool true, .int .i64 1, .int .i64 z, .slice o1 n1 c1, .slice o2 n2 c2] 36) := ⟨_, rfl⟩
  have hA := ownH w true 1 z o1 o2 n1 n2 c1 c2 36
  rw [← hw1] at hA
  have hb1 : Below w.heap.size w w1 := by rw [hw1]; exact below_alloc _ _
  have HB1 := Lib.hid hb1
  have HS1 := Lib.hid (RSt.start (h.up hb1))
  have HA := Lib.hid hA
  have HW1 := Lib.hid hw1
  have HA3 : Hid (∀ st W, RSt w1 B g vb0 st W → Own W w.heap.size 36 (.slice (some ⟨w.heap.size, 0, none⟩) 5 5) [.bool true, .int .i64 1, .int .i64 z, .slice o1 n1 c1, .slice o2 n2 c2]) := Lib.hid (fun st W h => h.own HA.out (fun e => by have e2 : some w.heap.size = some g := e; injection e2 with e2; omega) (fun q hq e => by have e2 : some w.heap.size = some q := hq; injection e2 with e2; have := hvb q e; omega))
  have HBL : Hid (∀ st W, RSt w1 B g vb0 st W → Below B w W) := Lib.hid (fun st W h => (HB1.out.mono hBw).trans h.bel)
  clear h hw1 hb1 hA HA
  have HPK : Hid (∀ (W : World) (st : Nat × Nat), RSt w1 B g vb0 st W → st.2 + 2 ≤ 1000000 → Calls Try.prog 22 #[.pointer (some ⟨g, 0, none⟩), .int .i64 1, .int .i64 2] W fun e w' => e = .returned (.int .i64 0) ∧ RSt w1 B g vb0 (st.1 + 1 * 2 ^ st.2, st.2 + 2) w') := Lib.hid (fun W st h hl => putRW h 1 2 (by decide) (by omega) (by omega))
  have HP1 : Hid (Calls Try.prog 22 #[.pointer (some ⟨g, 0, none⟩), .int .i64 1, .int .i64 1] w1 fun e w' => e = .returned (.int .i64 0) ∧ RSt w1 B g vb0 (N + 1 * 2 ^ L, L + 1) w') := Lib.hid (putRW HS1.out 1 1 (by decide) (by omega) (by simp only; omega))
  go_enter Try.func23, Try.ntmps23
  go_upto_region 12 with fail
  rw [← HW1.out]
  have x1w1 := (HA3.out _ _ HS1.out).cell (i := 1) (by simp)
  have yw1 := (HA3.out _ _ HS1.out).blk.2
  go_wp2_with (go_at_call 22; first | ((with_reducible refine HP1.out.mono ?_); rintro e w4 ⟨rfl, hq⟩; (have HS_w4 := Lib.hid hq; have x1w4 := (HA3.out _ _ hq).cell (i := 1) (by simp); have yw4 := (HA3.out _ _ hq).blk.2; have HP2 := Lib.hid (HPK.out _ _ hq (by simp only; omega)); clear hq HP1 x1w1 yw1)) | ((with_reducible refine HP2.out.mono ?_); rintro e w5 ⟨rfl, hq⟩; (have HS_w5 := Lib.hid hq; have x1w5 := (HA3.out _ _ hq).cell (i := 1) (by simp); have yw5 := (HA3.out _ _ hq).blk.2; clear hq HP2 x1w4 yw4 HS_w4)))
  go_ret
  exact ⟨rfl, HS_w5.out.from1 HB1.out hBw⟩
end Go.Cm
