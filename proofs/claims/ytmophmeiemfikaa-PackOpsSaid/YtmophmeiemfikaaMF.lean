/- Texts of this claim, joined: walks of small functions and plain facts about them. Conditions: as each says. -/
import Derived.Test.YtmophmeiemfikaaME
import Derived.Test.YtmophmeiemfikaaRows
import Derived.WalkKit
import Derived.WalkSpells
import Derived.WalkLawsBesides
import Derived.Deep.QuietTactic
import Derived.BigQuiet
import Derived.Lib.Hide
import Derived.Deep.LoopGhost
import Derived.Laws.BitsLemmas
import Derived.Laws.Small
import Derived.Deep.DeepCutAuto
import Derived.Deep.CutBlock
import Derived.Deep.CutRange
/- The walk of the program's Write of a head. Conditions: the writer is there, the lists read as lists. -/
namespace Go.Cm
open Go.RowKit Go.Proofs

theorem fitsE_zero {l : List Int} {o : Bool} (h : fitsE l o = 0) : errI l = 0 := by
  apply Classical.byContradiction; intro hn
  rw [fitsE_bad o hn] at h; exact hn h
theorem fits2I_zero {l1 l2 : List Int} (h : fits2I l1 l2 = 0) : errI l1 = 0 ∧ errI l2 = 0 := by
  unfold fits2I at h
  split at h
  · cases h
  · split at h
    · rename_i h1; exact absurd h h1
    · rename_i h1; exact ⟨fitsE_zero (by simpa using h1), fitsE_zero h⟩
theorem errI_nat {l : List Int} (h : errI l = 0) : l = nls (l.map Int.toNat) ∧ ∀ x ∈ l.map Int.toNat, x ≤ 15 := by
  obtain ⟨L, rfl, -, h15, -⟩ := errI_list h
  rw [nls_toNat]; exact ⟨rfl, h15⟩
theorem mayI_dyn {z : Int} {l1 l2 : List Int} (h : mayI 2 z l1 l2 = 0) : 257 ≤ l1.length ∧ l1.length ≤ 286 ∧ 1 ≤ l2.length ∧ l2.length ≤ 30 ∧ l1 = nls (l1.map Int.toNat) ∧ l2 = nls (l2.map Int.toNat) ∧ (∀ x ∈ l1.map Int.toNat, x ≤ 15) ∧ (∀ x ∈ l2.map Int.toNat, x ≤ 15) ∧ fits2I l1 l2 = 0 := by
  unfold mayI at h
  rw [if_neg (by decide), if_neg (by decide), if_pos rfl] at h
  by_cases hc : l1.length < 257 ∨ 286 < l1.length ∨ l2.length < 1 ∨ 30 < l2.length
  · rw [if_pos hc] at h; cases h
  · rw [if_neg hc] at h
    obtain ⟨e1, e2⟩ := fits2I_zero h
    obtain ⟨a1, a2⟩ := errI_nat e1
    obtain ⟨b1, b2⟩ := errI_nat e2
    exact ⟨by omega, by omega, by omega, by omega, a1, b1, a2, b2, h⟩
/-- what stands in a writer behind a head that may be written -/
def wrI (f : Bool) (k z : Int) (l1 l2 : List Int) (st : Nat × Nat) : Nat × Nat :=
  if k = 0 then putS [(z.toNat, 16), (65535 - z.toNat, 16)] (alignW (putS [(finN f, 1), (0, 2)] st))
  else if k = 1 then putS [(finN f, 1), (1, 2)] st
  else putS (dynS (l1.map Int.toNat) (l2.map Int.toNat)) (putS [(finN f, 1), (2, 2)] st)
theorem WSt.from1 {w w1 W : World} {B g : Nat} {vb0 : Value} {st : Nat × Nat} (h : WSt w1 B g vb0 st W) (hb : Below w.heap.size w w1) (hB : B ≤ w.heap.size) : WSt w B g vb0 st W := by
  obtain ⟨vb, h1, h2, h3⟩ := h
  exact ⟨vb, h1, (hb.mono hB).trans h2, ((Fr.refl g vb0 w).below hb).trans h3⟩
set_option maxRecDepth 100000 in
set_option maxHeartbeats 4000000 in
theorem writeHP {w : World} {B g N L : Nat} {vb0 : Value} (h : WrtV w B g N L vb0) (f : Bool) (k z : Int) (u1 u2 : Value) (l1 l2 : List Int) (hu1 : ∀ W, Below B w W → IntsAt W u1 l1) (hu2 : ∀ W, Below B w W → IntsAt W u2 l2) (hL : L ≤ 100000000) :
    Calls Try.prog 43 #[.pointer (some ⟨g, 0, none⟩), .agg #[.bool f, .int .i64 k, .int .i64 z, u1, u2]] w fun e w' => e = .returned (.int .i64 (mayI k z l1 l2 : Nat)) ∧ WSt w B g vb0 (if mayI k z l1 l2 = 0 then wrI f k z l1 l2 (N, L) else (N, L)) w' := by
  have hBw : B ≤ w.heap.size := by have := h.ge; have := h.box.lt; omega
  have hgw := h.box.lt
  have hvb : ∀ q, vb0.ownBlock = some q → q < w.heap.size := fun q hq => (h.own.lt q hq).2
  have HU1 := Lib.hid hu1
  have HU2 := Lib.hid hu2
  obtain ⟨o1, c1, b1, f1, hv1, -⟩ := (hu1 w (Below.refl _ _)).open
  obtain ⟨o2, c2, b2, f2, hv2, -⟩ := (hu2 w (Below.refl _ _)).open
  subst hv1 hv2
  obtain ⟨n1, hn1⟩ : ∃ n, n = l1.length := ⟨_, rfl⟩
  obtain ⟨n2, hn2⟩ : ∃ n, n = l2.length := ⟨_, rfl⟩
  rw [← hn1] at HU1 ⊢
  rw [← hn2] at HU2 ⊢
  clear hu1 hu2 hn1 hn2
  have HMAY := Lib.hid (fun (W : World) (hb : Below B w W) => mayP f k z _ _ l1 l2 W (HU1.out W hb) (HU2.out W hb))
  obtain ⟨w1, hw1⟩ : ∃ w1, w1 = w.alloc (.cells #[.bool f, .int .i64 k, .int .i64 z, .slice o1 n1 c1, .slice o2 n2 c2] 87) := ⟨_, rfl⟩
  have hA := ownH w f k z o1 o2 n1 n2 c1 c2 87
  rw [← hw1] at hA
  have hb1 : Below w.heap.size w w1 := by rw [hw1]; exact below_alloc _ _
  have HB1 := Lib.hid hb1
  have HS1 := Lib.hid (WSt.start (h.up hb1))
  have HA := Lib.hid hA
  have HW1 := Lib.hid hw1
  have HA3 : Hid (∀ st W, WSt w1 B g vb0 st W → Own W w.heap.size 87 (.slice (some ⟨w.heap.size, 0, none⟩) 5 5) [.bool f, .int .i64 k, .int .i64 z, .slice o1 n1 c1, .slice o2 n2 c2]) := Lib.hid (fun st W h => h.own HA.out (fun e => by have e2 : some w.heap.size = some g := e; injection e2 with e2; omega) (fun q hq e => by have e2 : some w.heap.size = some q := hq; injection e2 with e2; have := hvb q e; omega))
  have HBL : Hid (∀ st W, WSt w1 B g vb0 st W → Below B w W) := Lib.hid (fun st W h => (HB1.out.mono hBw).trans h.bel)
  have HP0 : Hid (Calls Try.prog 65 #[.pointer (some ⟨g, 0, none⟩), .int .i64 0, .int .i64 0] w1 fun e w' => e = .returned (.int .i64 0) ∧ WSt w1 B g vb0 (N, L) w') := Lib.hid ((putW HS1.out 0 0 (by decide) (by omega) (by simp only; omega)).mono fun e w' ⟨he, hs⟩ => ⟨he, by simpa using hs⟩)
  clear h hw1 hA hb1 HA
  obtain ⟨r, hr⟩ : ∃ r, r = mayI k z l1 l2 := ⟨_, rfl⟩
  rw [← hr]
  rw [← hr] at HMAY
  obtain ⟨D, hD⟩ : ∃ D, D = if r = 0 then wrI f k z l1 l2 (N, L) else (N, L) := ⟨_, rfl⟩
  rw [← hD]
  have HD := Lib.hid hD
  clear hD
  have HR := Lib.hid hr
  clear hr
  go_enter Try.func43, Try.ntmps43
  go_upto_region 5 with (first | (go_at_call 65; rw [← HW1.out]; (with_reducible refine HP0.out.mono ?_); rintro e w2 ⟨rfl, hq⟩; (have HS2 := Lib.hid hq; obtain ⟨A, hA, hAs, hAl⟩ := (HA3.out _ _ hq).whole; have hAe : A = #[.bool f, .int .i64 k, .int .i64 z, .slice o1 n1 c1, .slice o2 n2 c2] := (by rw [← Array.toArray_toList (xs := A), hAl]); subst hAe; clear hq hAs hAl HP0)) | (refine load_box rfl 87 5 _ rfl w.heap.size rfl #[.bool f, .int .i64 k, .int .i64 z, .slice o1 n1 c1, .slice o2 n2 c2] rfl hA _ Try.underlying87 rfl (by kernel_rfl) ?_) | (go_at_call 66; (with_reducible refine (HMAY.out _ (HBL.out _ _ HS2.out)).mono ?_); rintro e w3 ⟨rfl, hb3⟩; (have HS3 := Lib.hid (HS2.out.up hb3 (Nat.le_trans hBw (HBL.out _ _ HS2.out).size)); clear hb3 hA HS2 HMAY)))
  by_cases hr0 : r = 0
  · subst hr0
    cases f with
    | false =>
      have HP1 : Hid (Calls Try.prog 65 #[.pointer (some ⟨g, 0, none⟩), .int .i64 0, .int .i64 1] w3 fun e w' => e = .returned (.int .i64 0) ∧ WSt w1 B g vb0 (N + 0 * 2 ^ L, L + 1) w') := Lib.hid (putW HS3.out 0 1 (by decide) (by omega) (by simp only; omega))
      have x0 := (HA3.out _ _ HS3.out).cell (i := 0) (by simp)
      have y0 := (HA3.out _ _ HS3.out).blk.2
      by_cases hk0 : k = 0
      · subst hk0
        have hz : 0 ≤ z ∧ z ≤ 65535 := by
          have h := HR.out
          unfold mayI at h
          rw [if_pos rfl] at h
          apply Classical.byContradiction; intro hn
          rw [if_pos (by omega)] at h
          cases h
        obtain ⟨zn, rfl⟩ : ∃ zn : Nat, z = (zn : Int) := ⟨z.toNat, by omega⟩
        have hzn : zn ≤ 65535 := by omega
        have HPK : Hid (∀ (W : World) (st : Nat × Nat), WSt w1 B g vb0 st W → st.2 + 2 ≤ 300000000 → Calls Try.prog 65 #[.pointer (some ⟨g, 0, none⟩), .int .i64 0, .int .i64 2] W fun e w' => e = .returned (.int .i64 0) ∧ WSt w1 B g vb0 (st.1 + 0 * 2 ^ st.2, st.2 + 2) w') := Lib.hid (fun W st h hl => putW h 0 2 (by decide) (by omega) (by omega))
        have HDE : Hid (D = putS [(zn, 16), (65535 - zn, 16)] (alignW (putS [(0, 1), (0, 2)] (N, L)))) := Lib.hid (by rw [HD.out, if_pos rfl]; unfold wrI; rw [if_pos rfl, Int.toNat_natCast]; rfl)
        have hxr := bits_turn zn (by omega)
        have HAL := Lib.hid (fun (W : World) (st : Nat × Nat) (h : WSt w1 B g vb0 st W) (hl : st.2 ≤ 300000000) => alignWP h hl)
        have HP6 := Lib.hid (fun (W : World) (st : Nat × Nat) (v : Nat) (h : WSt w1 B g vb0 st W) (hv : v < 2 ^ 16) (hl : st.2 + 16 ≤ 34359738368) => putW h v 16 hv (by omega) hl)
        rw [show ((16 : Nat) : Int) = 16 from rfl] at HP6
        have hal : (alignW (N + 0 * 2 ^ L + 0 * 2 ^ (L + 1), L + 1 + 2)).2 ≤ 150000000 := by show alignN (L + 1 + 2) ≤ 150000000; unfold alignN; omega
        clear HD HR
        have hznt : 65535 - zn < 2 ^ 16 := by omega
        have hznt0 : zn < 2 ^ 16 := by omega
        generalize hzt : 65535 - zn = zt at *
        go_wp2_with (first | (go_at_call 65; first | ((with_reducible refine HP1.out.mono ?_); rintro e w4 ⟨rfl, hq⟩; (have HS4 := Lib.hid hq; have x1 := (HA3.out _ _ hq).cell (i := 1) (by simp); have y1 := (HA3.out _ _ hq).blk.2; have HP2 := Lib.hid (HPK.out _ _ hq (by simp only; omega)); clear hq HP1)) | ((with_reducible refine HP2.out.mono ?_); rintro e w5 ⟨rfl, hq⟩; (have HS5 := Lib.hid hq; have x2 := (HA3.out _ _ hq).cell (i := 1) (by simp); have y2 := (HA3.out _ _ hq).blk.2; have HA5 := Lib.hid (HAL.out _ _ hq (by simp only; omega)); clear hq HP2 HS4 x1 y1)) | ((with_reducible refine HPZ.out.mono ?_); rintro e w7 ⟨rfl, hq⟩; (have HS7 := Lib.hid hq; have x4 := (HA3.out _ _ hq).cell (i := 2) (by simp); have y4 := (HA3.out _ _ hq).blk.2; have HPY := Lib.hid (HP6.out _ _ zt hq hznt (by simp only; omega)); clear hq HPZ HS6 x3 y3)) | ((with_reducible refine HPY.out.mono ?_); rintro e w8 ⟨rfl, hq⟩; (have HS8 := Lib.hid hq; clear hq HPY))) | (go_at_call 67; (with_reducible refine HA5.out.mono ?_); rintro e w6 ⟨rfl, hq⟩; (have HS6 := Lib.hid hq; have x3 := (HA3.out _ _ hq).cell (i := 2) (by simp); have y3 := (HA3.out _ _ hq).blk.2; have HPZ := Lib.hid (HP6.out _ _ zn hq hznt0 (by omega)); clear hq HA5)))
        go_ret
        rw [HDE.out]
        exact ⟨rfl, HS8.out.from1 HB1.out hBw⟩
      · have hk0' : (k == 0) = false := by simpa using hk0
        by_cases hk1 : k = 1
        · subst hk1
          have HPK : Hid (∀ (W : World) (st : Nat × Nat), WSt w1 B g vb0 st W → st.2 + 2 ≤ 300000000 → Calls Try.prog 65 #[.pointer (some ⟨g, 0, none⟩), .int .i64 1, .int .i64 2] W fun e w' => e = .returned (.int .i64 0) ∧ WSt w1 B g vb0 (st.1 + 1 * 2 ^ st.2, st.2 + 2) w') := Lib.hid (fun W st h hl => putW h 1 2 (by decide) (by omega) (by omega))
          have HDE : Hid (D = putS [(0, 1), (1, 2)] (N, L)) := Lib.hid (by rw [HD.out, if_pos rfl]; unfold wrI; rw [if_neg hk0, if_pos rfl]; rfl)
          clear HD HR
          go_wp2_with (go_at_call 65; first | ((with_reducible refine HP1.out.mono ?_); rintro e w4 ⟨rfl, hq⟩; (have HS4 := Lib.hid hq; have x1 := (HA3.out _ _ hq).cell (i := 1) (by simp); have y1 := (HA3.out _ _ hq).blk.2; have HP2 := Lib.hid (HPK.out _ _ hq (by simp only; omega)); clear hq HP1)) | ((with_reducible refine HP2.out.mono ?_); rintro e w5 ⟨rfl, hq⟩; (have HS5 := Lib.hid hq; have x2 := (HA3.out _ _ hq).cell (i := 1) (by simp); have y2 := (HA3.out _ _ hq).blk.2; clear hq HP2 HS4 x1 y1)))
          go_ret
          rw [HDE.out]
          exact ⟨rfl, HS5.out.from1 HB1.out hBw⟩
        · have hk2 : k = 2 := by
            have h := HR.out
            unfold mayI at h
            rw [if_neg hk0, if_neg hk1] at h
            apply Classical.byContradiction; intro hn
            rw [if_neg hn] at h
            cases h
          subst hk2
          have HPK : Hid (∀ (W : World) (st : Nat × Nat), WSt w1 B g vb0 st W → st.2 + 2 ≤ 300000000 → Calls Try.prog 65 #[.pointer (some ⟨g, 0, none⟩), .int .i64 2, .int .i64 2] W fun e w' => e = .returned (.int .i64 0) ∧ WSt w1 B g vb0 (st.1 + 2 * 2 ^ st.2, st.2 + 2) w') := Lib.hid (fun W st h hl => putW h 2 2 (by decide) (by omega) (by omega))
          have HDE : Hid (D = putS (dynS (l1.map Int.toNat) (l2.map Int.toNat)) (putS [(0, 1), (2, 2)] (N, L))) := Lib.hid (by rw [HD.out, if_pos rfl]; unfold wrI; rw [if_neg hk0, if_neg hk1]; rfl)
          obtain ⟨m1, m2, m3, m4, m5, m6, m7, m8, -⟩ := mayI_dyn HR.out.symm
          have HLNG : Hid (∀ (W : World) (st : Nat × Nat), WSt w1 B g vb0 st W → st.2 ≤ 200000000 → Calls Try.prog 68 #[.pointer (some ⟨g, 0, none⟩), .agg #[.bool false, .int .i64 2, .int .i64 z, .slice o1 n1 c1, .slice o2 n2 c2]] W fun e w' => e = .returned (.tuple #[]) ∧ WSt w1 B g vb0 (putS (dynS (l1.map Int.toNat) (l2.map Int.toNat)) st) w') := Lib.hid (fun W st h hl => h.join (Q := fun e => e = .returned (.tuple #[])) fun vb hb => lengthsP hb _ _ _ _ _ _ _ (fun W' hb' => by rw [← m5]; exact HU1.out W' ((HBL.out _ _ h).trans hb')) (fun W' hb' => by rw [← m6]; exact HU2.out W' ((HBL.out _ _ h).trans hb')) (by simpa using m1) (by simpa using m2) (by simpa using m3) (by simpa using m4) m7 m8 hl)
          clear HD HR m1 m2 m3 m4 m5 m6 m7 m8
          go_wp2_with (first | (go_at_call 65; first | ((with_reducible refine HP1.out.mono ?_); rintro e w4 ⟨rfl, hq⟩; (have HS4 := Lib.hid hq; have x1 := (HA3.out _ _ hq).cell (i := 1) (by simp); have y1 := (HA3.out _ _ hq).blk.2; have HP2 := Lib.hid (HPK.out _ _ hq (by simp only; omega)); clear hq HP1)) | ((with_reducible refine HP2.out.mono ?_); rintro e w5 ⟨rfl, hq⟩; (have HS5 := Lib.hid hq; have x2 := (HA3.out _ _ hq).cell (i := 1) (by simp); have y2 := (HA3.out _ _ hq).blk.2; obtain ⟨A, hA, hAs, hAl⟩ := (HA3.out _ _ hq).whole; have hAe : A = #[.bool false, .int .i64 2, .int .i64 z, .slice o1 n1 c1, .slice o2 n2 c2] := (by rw [← Array.toArray_toList (xs := A), hAl]); subst hAe; have HLN := Lib.hid (HLNG.out _ _ hq (by simp only; omega)); clear hq HP2 HS4 x1 y1))) | (refine load_box rfl 87 5 _ rfl w.heap.size rfl #[.bool false, .int .i64 2, .int .i64 z, .slice o1 n1 c1, .slice o2 n2 c2] rfl hA _ Try.underlying87 rfl (by kernel_rfl) ?_) | (go_at_call 68; (with_reducible refine HLN.out.mono ?_); rintro e w7 ⟨rfl, hq⟩; (have HS7 := Lib.hid hq; clear hq)))
          go_ret
          rw [HDE.out]
          exact ⟨rfl, HS7.out.from1 HB1.out hBw⟩
    | true =>
      have HP1 : Hid (Calls Try.prog 65 #[.pointer (some ⟨g, 0, none⟩), .int .i64 1, .int .i64 1] w3 fun e w' => e = .returned (.int .i64 0) ∧ WSt w1 B g vb0 (N + 1 * 2 ^ L, L + 1) w') := Lib.hid (putW HS3.out 1 1 (by decide) (by omega) (by simp only; omega))
      have x0 := (HA3.out _ _ HS3.out).cell (i := 0) (by simp)
      have y0 := (HA3.out _ _ HS3.out).blk.2
      by_cases hk0 : k = 0
      · subst hk0
        have hz : 0 ≤ z ∧ z ≤ 65535 := by
          have h := HR.out
          unfold mayI at h
          rw [if_pos rfl] at h
          apply Classical.byContradiction; intro hn
          rw [if_pos (by omega)] at h
          cases h
        obtain ⟨zn, rfl⟩ : ∃ zn : Nat, z = (zn : Int) := ⟨z.toNat, by omega⟩
        have hzn : zn ≤ 65535 := by omega
        have HPK : Hid (∀ (W : World) (st : Nat × Nat), WSt w1 B g vb0 st W → st.2 + 2 ≤ 300000000 → Calls Try.prog 65 #[.pointer (some ⟨g, 0, none⟩), .int .i64 0, .int .i64 2] W fun e w' => e = .returned (.int .i64 0) ∧ WSt w1 B g vb0 (st.1 + 0 * 2 ^ st.2, st.2 + 2) w') := Lib.hid (fun W st h hl => putW h 0 2 (by decide) (by omega) (by omega))
        have HDE : Hid (D = putS [(zn, 16), (65535 - zn, 16)] (alignW (putS [(1, 1), (0, 2)] (N, L)))) := Lib.hid (by rw [HD.out, if_pos rfl]; unfold wrI; rw [if_pos rfl, Int.toNat_natCast]; rfl)
        have hxr := bits_turn zn (by omega)
        have HAL := Lib.hid (fun (W : World) (st : Nat × Nat) (h : WSt w1 B g vb0 st W) (hl : st.2 ≤ 300000000) => alignWP h hl)
        have HP6 := Lib.hid (fun (W : World) (st : Nat × Nat) (v : Nat) (h : WSt w1 B g vb0 st W) (hv : v < 2 ^ 16) (hl : st.2 + 16 ≤ 34359738368) => putW h v 16 hv (by omega) hl)
        rw [show ((16 : Nat) : Int) = 16 from rfl] at HP6
        have hal : (alignW (N + 1 * 2 ^ L + 0 * 2 ^ (L + 1), L + 1 + 2)).2 ≤ 150000000 := by show alignN (L + 1 + 2) ≤ 150000000; unfold alignN; omega
        clear HD HR
        have hznt : 65535 - zn < 2 ^ 16 := by omega
        have hznt0 : zn < 2 ^ 16 := by omega
        generalize hzt : 65535 - zn = zt at *
        go_wp2_with (first | (go_at_call 65; first | ((with_reducible refine HP1.out.mono ?_); rintro e w4 ⟨rfl, hq⟩; (have HS4 := Lib.hid hq; have x1 := (HA3.out _ _ hq).cell (i := 1) (by simp); have y1 := (HA3.out _ _ hq).blk.2; have HP2 := Lib.hid (HPK.out _ _ hq (by simp only; omega)); clear hq HP1)) | ((with_reducible refine HP2.out.mono ?_); rintro e w5 ⟨rfl, hq⟩; (have HS5 := Lib.hid hq; have x2 := (HA3.out _ _ hq).cell (i := 1) (by simp); have y2 := (HA3.out _ _ hq).blk.2; have HA5 := Lib.hid (HAL.out _ _ hq (by simp only; omega)); clear hq HP2 HS4 x1 y1)) | ((with_reducible refine HPZ.out.mono ?_); rintro e w7 ⟨rfl, hq⟩; (have HS7 := Lib.hid hq; have x4 := (HA3.out _ _ hq).cell (i := 2) (by simp); have y4 := (HA3.out _ _ hq).blk.2; have HPY := Lib.hid (HP6.out _ _ zt hq hznt (by simp only; omega)); clear hq HPZ HS6 x3 y3)) | ((with_reducible refine HPY.out.mono ?_); rintro e w8 ⟨rfl, hq⟩; (have HS8 := Lib.hid hq; clear hq HPY))) | (go_at_call 67; (with_reducible refine HA5.out.mono ?_); rintro e w6 ⟨rfl, hq⟩; (have HS6 := Lib.hid hq; have x3 := (HA3.out _ _ hq).cell (i := 2) (by simp); have y3 := (HA3.out _ _ hq).blk.2; have HPZ := Lib.hid (HP6.out _ _ zn hq hznt0 (by omega)); clear hq HA5)))
        go_ret
        rw [HDE.out]
        exact ⟨rfl, HS8.out.from1 HB1.out hBw⟩
      · have hk0' : (k == 0) = false := by simpa using hk0
        by_cases hk1 : k = 1
        · subst hk1
          have HPK : Hid (∀ (W : World) (st : Nat × Nat), WSt w1 B g vb0 st W → st.2 + 2 ≤ 300000000 → Calls Try.prog 65 #[.pointer (some ⟨g, 0, none⟩), .int .i64 1, .int .i64 2] W fun e w' => e = .returned (.int .i64 0) ∧ WSt w1 B g vb0 (st.1 + 1 * 2 ^ st.2, st.2 + 2) w') := Lib.hid (fun W st h hl => putW h 1 2 (by decide) (by omega) (by omega))
          have HDE : Hid (D = putS [(1, 1), (1, 2)] (N, L)) := Lib.hid (by rw [HD.out, if_pos rfl]; unfold wrI; rw [if_neg hk0, if_pos rfl]; rfl)
          clear HD HR
          go_wp2_with (go_at_call 65; first | ((with_reducible refine HP1.out.mono ?_); rintro e w4 ⟨rfl, hq⟩; (have HS4 := Lib.hid hq; have x1 := (HA3.out _ _ hq).cell (i := 1) (by simp); have y1 := (HA3.out _ _ hq).blk.2; have HP2 := Lib.hid (HPK.out _ _ hq (by simp only; omega)); clear hq HP1)) | ((with_reducible refine HP2.out.mono ?_); rintro e w5 ⟨rfl, hq⟩; (have HS5 := Lib.hid hq; have x2 := (HA3.out _ _ hq).cell (i := 1) (by simp); have y2 := (HA3.out _ _ hq).blk.2; clear hq HP2 HS4 x1 y1)))
          go_ret
          rw [HDE.out]
          exact ⟨rfl, HS5.out.from1 HB1.out hBw⟩
        · have hk2 : k = 2 := by
            have h := HR.out
            unfold mayI at h
            rw [if_neg hk0, if_neg hk1] at h
            apply Classical.byContradiction; intro hn
            rw [if_neg hn] at h
            cases h
          subst hk2
          have HPK : Hid (∀ (W : World) (st : Nat × Nat), WSt w1 B g vb0 st W → st.2 + 2 ≤ 300000000 → Calls Try.prog 65 #[.pointer (some ⟨g, 0, none⟩), .int .i64 2, .int .i64 2] W fun e w' => e = .returned (.int .i64 0) ∧ WSt w1 B g vb0 (st.1 + 2 * 2 ^ st.2, st.2 + 2) w') := Lib.hid (fun W st h hl => putW h 2 2 (by decide) (by omega) (by omega))
          have HDE : Hid (D = putS (dynS (l1.map Int.toNat) (l2.map Int.toNat)) (putS [(1, 1), (2, 2)] (N, L))) := Lib.hid (by rw [HD.out, if_pos rfl]; unfold wrI; rw [if_neg hk0, if_neg hk1]; rfl)
          obtain ⟨m1, m2, m3, m4, m5, m6, m7, m8, -⟩ := mayI_dyn HR.out.symm
          have HLNG : Hid (∀ (W : World) (st : Nat × Nat), WSt w1 B g vb0 st W → st.2 ≤ 200000000 → Calls Try.prog 68 #[.pointer (some ⟨g, 0, none⟩), .agg #[.bool true, .int .i64 2, .int .i64 z, .slice o1 n1 c1, .slice o2 n2 c2]] W fun e w' => e = .returned (.tuple #[]) ∧ WSt w1 B g vb0 (putS (dynS (l1.map Int.toNat) (l2.map Int.toNat)) st) w') := Lib.hid (fun W st h hl => h.join (Q := fun e => e = .returned (.tuple #[])) fun vb hb => lengthsP hb _ _ _ _ _ _ _ (fun W' hb' => by rw [← m5]; exact HU1.out W' ((HBL.out _ _ h).trans hb')) (fun W' hb' => by rw [← m6]; exact HU2.out W' ((HBL.out _ _ h).trans hb')) (by simpa using m1) (by simpa using m2) (by simpa using m3) (by simpa using m4) m7 m8 hl)
          clear HD HR m1 m2 m3 m4 m5 m6 m7 m8
          go_wp2_with (first | (go_at_call 65; first | ((with_reducible refine HP1.out.mono ?_); rintro e w4 ⟨rfl, hq⟩; (have HS4 := Lib.hid hq; have x1 := (HA3.out _ _ hq).cell (i := 1) (by simp); have y1 := (HA3.out _ _ hq).blk.2; have HP2 := Lib.hid (HPK.out _ _ hq (by simp only; omega)); clear hq HP1)) | ((with_reducible refine HP2.out.mono ?_); rintro e w5 ⟨rfl, hq⟩; (have HS5 := Lib.hid hq; have x2 := (HA3.out _ _ hq).cell (i := 1) (by simp); have y2 := (HA3.out _ _ hq).blk.2; obtain ⟨A, hA, hAs, hAl⟩ := (HA3.out _ _ hq).whole; have hAe : A = #[.bool true, .int .i64 2, .int .i64 z, .slice o1 n1 c1, .slice o2 n2 c2] := (by rw [← Array.toArray_toList (xs := A), hAl]); subst hAe; have HLN := Lib.hid (HLNG.out _ _ hq (by simp only; omega)); clear hq HP2 HS4 x1 y1))) | (refine load_box rfl 87 5 _ rfl w.heap.size rfl #[.bool true, .int .i64 2, .int .i64 z, .slice o1 n1 c1, .slice o2 n2 c2] rfl hA _ Try.underlying87 rfl (by kernel_rfl) ?_) | (go_at_call 68; (with_reducible refine HLN.out.mono ?_); rintro e w7 ⟨rfl, hq⟩; (have HS7 := Lib.hid hq; clear hq)))
          go_ret
          rw [HDE.out]
          exact ⟨rfl, HS7.out.from1 HB1.out hBw⟩
  · have hr0' : ((r : Int) != 0) = true := by simpa using hr0
    have HDE : Hid (D = (N, L)) := Lib.hid (by rw [HD.out, if_neg hr0])
    clear HR hr0
    go_wp2
    go_ret
    rw [HDE.out]
    exact ⟨rfl, HS3.out.from1 HB1.out hBw⟩
end Go.Cm

/- The document's writer while numbers are put, and the walk of its Align. Conditions: the writer is there. -/
namespace Go.Cm
open Go.RowKit Go.Proofs

theorem bitsN_zero {N L k : Nat} (hN : N < 2 ^ L) (hk : L ≤ k) : bitsN N (k + 1) = bitsN N k ++ [.int .u8 0] := by
  rw [bitsN_succ, Nat.testBit_lt_two_pow (Nat.lt_of_lt_of_le hN (Nat.pow_le_pow_right (by decide) hk))]
  rfl
theorem alignRV {w : World} {B g N L : Nat} {vb0 : Value} (h : WrtRV w B g N L vb0) (hL : L ≤ 300000000) :
    Calls Try.prog 76 #[.pointer (some ⟨g, 0, none⟩)] w fun e w' => e = .returned (.tuple #[]) ∧ ∃ vb', WrtRV w' B g N (alignN L) vb' ∧ Below B w w' ∧ Fr g vb0 vb' w w' := by
  obtain ⟨hbox, hown, hne, hge, hlt⟩ := h
  have HLT := Lib.hid hlt
  have HBX := Lib.hid hbox
  have HOX := Lib.hid hown
  have hal : L ≤ alignN L ∧ alignN L ≤ L + 7 ∧ alignN L % 8 = 0 := by unfold alignN; omega
  obtain ⟨a1, a2, a3⟩ := hal
  have hal2 : ∀ k, L ≤ k → k ≤ alignN L → k % 8 = 0 → k = alignN L := fun k h1 h2 h3 => by unfold alignN at *; omega
  have HAL := Lib.hid hal2
  clear hbox hown hlt hal2
  generalize alignN L = A at *
  go_enter Try.func76, Try.ntmps76
  go_wp2
  go_loopg [] (A - L) (fun gk wr => ∃ (k : Nat) (vb : Value), L ≤ k ∧ k ≤ A ∧ Own wr g 93 (.slice (some ⟨g, 0, none⟩) 1 1) [vb] ∧ Own wr B 5 vb (bitsN N k) ∧ vb.ownBlock ≠ some g ∧ Below B w wr ∧ Fr g vb0 vb w wr ∧ gk = A - k)
  case atStart => exact ⟨L, vb0, Nat.le_refl _, a1, HBX.out, HOX.out, hne, Below.refl _ _, Fr.refl _ _ _, rfl⟩
  case round =>
    obtain ⟨k, vb, hk1, hk2, hbox, hown, hne, hbel, hfr, rfl⟩ := hrel
    have HFR := Lib.hid hfr
    have HB := Lib.hid hbox
    have HO := Lib.hid hown
    have HE := Lib.hid hbel
    obtain ⟨ov, cv, gv, hvb, hd, -⟩ := hown.cases
    rw [bitsN_length] at hvb
    subst hvb
    have c0 : wr.cell? ⟨g, 0, none⟩ = some (.slice ov k cv) := hbox.cell (by simp)
    have f0 := hbox.free 0
    have hg := hbox.blk.2
    have HS := Lib.hid (bitsN_zero HLT.out hk1)
    have hk6 : k ≤ 300000007 := by omega
    have hqi : (k : Int) % 8 = ((k % 8 : Nat) : Int) := by omega
    have HPT : Hid (∀ m, k % 8 = m → (m = 0 → k = A) ∧ (m ≠ 0 → k + 1 ≤ A)) := Lib.hid (fun m hm => ⟨fun h => HAL.out k hk1 hk2 (by omega), fun h => by
      apply Classical.byContradiction; intro hn
      have : k = A := by omega
      subst this
      omega⟩)
    have hm8 : k % 8 < 8 := Nat.mod_lt _ (by decide)
    clear hfr hbox hown hbel HBX HOX hd
    generalize hm : k % 8 = m at *
    have HP := Lib.hid (HPT.out m rfl)
    clear hm HPT
    cases m with
    | zero =>
      go_wp2
      go_end0
      obtain rfl := HP.out.1 (by trivial)
      exact ⟨rfl, _, ⟨HB.out, HO.out, hne, hge, Nat.lt_of_lt_of_le HLT.out (Nat.pow_le_pow_right (by decide) hk1)⟩, HE.out, HFR.out⟩
    | succ m =>
      have hcc : ¬ ((m + 1 : Nat) : Int) = 0 := by omega
      have hBg : B ≤ wr.heap.size := by omega
      have hlW := Lib.hid (below_alloc wr (.cells #[.int .u8 0] 5))
      have HX : Hid (Sl (wr.alloc (.cells #[.int .u8 0] 5)) (.slice (some ⟨wr.heap.size, 0, none⟩) 1 1) [.int .u8 0]) := Lib.hid (by simpa using sl_lit wr #[.int .u8 0] 5 (by simp))
      have HT1 := Lib.hid (HO.out.up hlW.out)
      have HT2 : Hid (∀ u ∈ [Value.int .u8 0], u.oneCell' = true) := Lib.hid (by intro u hu; simp at hu; subst hu; rfl)
      have HT3 : Hid ((bitsN N k).length + 1 ≤ 4294967296) := Lib.hid (by rw [bitsN_length]; omega)
      have HT4 : Hid (B ≤ (wr.alloc (.cells #[.int .u8 0] 5)).heap.size) := Lib.hid (Nat.le_trans hBg hlW.out.size)
      have HK := Lib.hid hk1
      have hk3 := HP.out.2 (Nat.succ_ne_zero m)
      go_wp2_with (at_builtin; refine wpList_app rfl (.tmp 13) (.tmp 14) 43 rfl B 5 (.int .u8 0) 1 Try.underlying43 (by kernel_rfl) rfl (by decide) (.slice ov k cv) (bitsN N k) rfl HT1.out (.slice (some ⟨wr.heap.size, 0, none⟩) 1 1) [.int .u8 0] rfl HX.out HT2.out HT3.out HT4.out ?_; intro v' w5 hown1 hg1 hk1; have HO1 := Lib.hid hown1; have HG1 := Lib.hid hg1; have HK1 := Lib.hid hk1; clear hown1 hg1 hk1; have HB5 := Lib.hid ((HB.out.up hlW.out).keep HG1.out (.inr (fun e => hne e.symm))); have hne5 : Hid (v'.ownBlock ≠ some g) := Lib.hid (fun e => by
        rcases HK1.out g e with h | h
        · exact hne h
        · have := hlW.out.size; simp at h; omega); have HO5 : Hid (Own w5 B 5 v' (bitsN N (k + 1))) := Lib.hid (by rw [HS.out]; exact HO1.out); have HF5 : Hid (Fr g vb0 v' w w5) := Lib.hid (((HFR.out.below hlW.out).step HG1.out (fun k e => .inr e)).val HK1.out (Nat.le_trans HFR.out.2.2 hlW.out.size)); have HL5 : Hid (Below B w w5) := Lib.hid (below_grown (HE.out.trans (hlW.out.mono hBg)) HT4.out HT1.out HG1.out); clear HO1 HG1 HK1 HT1 HX c0 f0 hg hBg; obtain ⟨o5, c5, g5, rfl, -⟩ := HO5.out.cases; generalize (bitsN N (k + 1)).length = l5 at *; have HST := Lib.hid (HB5.out.store 0 (.slice o5 l5 c5)); have f0 := HB5.out.free 0; have c0 : w5.cell? ⟨g, 0, none⟩ = some (.slice ov k cv) := HB5.out.cell (by simp); have hg := HB5.out.blk.2)
      go_roundg (A - (k + 1))
      case measure => omega
      case rel => exact ⟨k + 1, _, by omega, hk3, HST.out.1, HO5.out.keep HST.out.2 (.inr hne5.out), hne5.out, HL5.out.grown HST.out.2 (by omega) (fun k hk => by cases hk; exact hge), HF5.out.step HST.out.2 (fun k e => by cases e; exact .inl rfl), rfl⟩
/-- the document's writer in block g, whose row was vb0 in world w0 -/
def RSt (w0 : World) (B g : Nat) (vb0 : Value) (st : Nat × Nat) (W : World) : Prop := ∃ vb, WrtRV W B g st.1 st.2 vb ∧ Below B w0 W ∧ Fr g vb0 vb w0 W
theorem RSt.start {w : World} {B g N L : Nat} {vb : Value} (h : WrtRV w B g N L vb) : RSt w B g vb (N, L) w := ⟨vb, h, Below.refl _ _, Fr.refl _ _ _⟩
theorem RSt.up {w0 W W' : World} {B g : Nat} {vb0 : Value} {st : Nat × Nat} (h : RSt w0 B g vb0 st W) (hb : Below W.heap.size W W') (hB : B ≤ W.heap.size) : RSt w0 B g vb0 st W' := by
  obtain ⟨vb, h1, h2, h3⟩ := h
  exact ⟨vb, h1.up hb, h2.trans (hb.mono hB), h3.below hb⟩
theorem RSt.bel {w0 W : World} {B g : Nat} {vb0 : Value} {st : Nat × Nat} (h : RSt w0 B g vb0 st W) : Below B w0 W := by
  obtain ⟨vb, h1, h2, h3⟩ := h; exact h2
theorem RSt.size {w0 W : World} {B g : Nat} {vb0 : Value} {st : Nat × Nat} (h : RSt w0 B g vb0 st W) : w0.heap.size ≤ W.heap.size := h.bel.size
theorem RSt.own {w0 W : World} {B g B' E : Nat} {vb0 v : Value} {st : Nat × Nat} {xs : List Value} (h : RSt w0 B g vb0 st W) (ho : Own w0 B' E v xs) (h1 : v.ownBlock ≠ some g) (h2 : ∀ k, v.ownBlock = some k → vb0.ownBlock ≠ some k) : Own W B' E v xs := by
  obtain ⟨vb, -, -, h3⟩ := h
  exact ho.of_blk fun k hk => h3.1 k (ho.lt k hk).2 (fun e => h1 (by rw [hk, e])) (h2 k hk)
theorem RSt.join {w0 W : World} {B g : Nat} {vb0 : Value} {st st' : Nat × Nat} {P : Program} {f : FuncId} {args : Array Value} {Q : Ending → Prop} (h : RSt w0 B g vb0 st W)
    (hc : ∀ vb, WrtRV W B g st.1 st.2 vb → Calls P f args W fun e w' => Q e ∧ RSt W B g vb st' w') : Calls P f args W fun e w' => Q e ∧ RSt w0 B g vb0 st' w' := by
  obtain ⟨vb, h1, h2, h3⟩ := h
  exact (hc vb h1).mono fun e w' ⟨hq, vb', g1, g2, g3⟩ => ⟨hq, vb', g1, h2.trans g2, h3.trans g3⟩
theorem putRW {w0 W : World} {B g : Nat} {vb0 : Value} {st : Nat × Nat} (h : RSt w0 B g vb0 st W) (v n : Nat) (hv : v < 2 ^ n) (hn : n ≤ 32) (hL : st.2 + n ≤ 2147483648) :
    Calls Try.prog 75 #[.pointer (some ⟨g, 0, none⟩), .int .i64 v, .int .i64 n] W fun e w' => e = .returned (.int .i64 0) ∧ RSt w0 B g vb0 (st.1 + v * 2 ^ st.2, st.2 + n) w' :=
  h.join (Q := fun e => e = .returned (.int .i64 0)) fun _ hb => (putRV hb v n hv hn hL).mono fun _ _ ⟨he, vb', h1, h2, h3⟩ => ⟨he, vb', h1, h2, h3⟩
theorem codeRW {w0 W : World} {B g : Nat} {vb0 : Value} {st : Nat × Nat} (h : RSt w0 B g vb0 st W) (v n : Nat) (hv : v < 2 ^ n) (hn : n ≤ 32) (hL : st.2 + n ≤ 2147483648) :
    Calls Try.prog 78 #[.pointer (some ⟨g, 0, none⟩), .int .i64 v, .int .i64 n] W fun e w' => e = .returned (.int .i64 0) ∧ RSt w0 B g vb0 (st.1 + turnN v n * 2 ^ st.2, st.2 + n) w' :=
  h.join (Q := fun e => e = .returned (.int .i64 0)) fun _ hb => (codeRV hb v n hv hn hL).mono fun _ _ ⟨he, vb', h1, h2, h3⟩ => ⟨he, vb', h1, h2, h3⟩
theorem alignRW {w0 W : World} {B g : Nat} {vb0 : Value} {st : Nat × Nat} (h : RSt w0 B g vb0 st W) (hL : st.2 ≤ 300000000) :
    Calls Try.prog 76 #[.pointer (some ⟨g, 0, none⟩)] W fun e w' => e = .returned (.tuple #[]) ∧ RSt w0 B g vb0 (alignW st) w' :=
  h.join (Q := fun e => e = .returned (.tuple #[])) fun _ hb => (alignRV hb hL).mono fun _ _ ⟨he, vb', h1, h2, h3⟩ => ⟨he, vb', h1, h2, h3⟩
theorem RSt.from1 {w w1 W : World} {B g : Nat} {vb0 : Value} {st : Nat × Nat} (h : RSt w1 B g vb0 st W) (hb : Below w.heap.size w w1) (hB : B ≤ w.heap.size) : RSt w B g vb0 st W := by
  obtain ⟨vb, h1, h2, h3⟩ := h
  exact ⟨vb, h1, (hb.mono hB).trans h2, ((Fr.refl g vb0 w).below hb).trans h3⟩
end Go.Cm

/- The walks of what lays bytes behind bits. Conditions: the writers are there. -/
namespace Go.Cm
open Go.RowKit Go.Proofs

def bytS (l : Byts) (st : Nat × Nat) : Nat × Nat := putS (l.map fun b => (b.toNat, 8)) st
theorem bytS_snoc (l : Byts) (b : UInt8) (st : Nat × Nat) : bytS (l ++ [b]) st = ((bytS l st).1 + b.toNat * 2 ^ (bytS l st).2, (bytS l st).2 + 8) := by
  unfold bytS; rw [List.map_append]; exact putS_snoc _ _ _
theorem bytS_len (l : Byts) (st : Nat × Nat) : (bytS l st).2 = st.2 + 8 * l.length := by
  unfold bytS
  rw [putS_len]
  congr 1
  induction l with
  | nil => rfl
  | cons b l ih => simp only [List.map_cons, List.sum_cons, ih, List.length_cons]; omega
theorem bytS_take {l : Byts} {k : Nat} (hk : k < l.length) (st : Nat × Nat) : bytS (l.take (k + 1)) st = ((bytS (l.take k) st).1 + (l.getD k 0).toNat * 2 ^ (bytS (l.take k) st).2, (bytS (l.take k) st).2 + 8) := by
  rw [List.take_succ_eq_append_getElem hk, bytS_snoc]
  have : l.getD k 0 = l[k] := by simp [List.getD, hk]
  rw [this]
theorem put_byte {N L v : Nat} (hN : N < 2 ^ L) (h8 : L % 8 = 0) (hv : v < 256) :
    bytesN (N + v * 2 ^ L) ((L + 8) / 8) = bytesN N (L / 8) ++ [.int .u8 (v : Nat)] ∧ N + v * 2 ^ L < 2 ^ (L + 8) ∧ (L + 8) % 8 = 0 := by
  have e1 : (L + 8) / 8 = L / 8 + 1 := by omega
  have e2 : 256 ^ (L / 8) = 2 ^ L := by rw [pow256]; congr 1; omega
  refine ⟨?_, num_add_lt hN hv, by omega⟩
  rw [e1, bytesN_succ, bytesN_add]
  congr 2
  unfold byteAt
  rw [e2, Nat.add_mul_div_right _ _ (Nat.two_pow_pos L), Nat.div_eq_of_lt hN, Nat.zero_add, Nat.mod_eq_of_lt hv]
theorem bytS_row {N L : Nat} (hN : N < 2 ^ L) (h8 : L % 8 = 0) (l : Byts) :
    bytesN (bytS l (N, L)).1 ((bytS l (N, L)).2 / 8) = bytesN N (L / 8) ++ bytesV l ∧ (bytS l (N, L)).1 < 2 ^ (bytS l (N, L)).2 ∧ (bytS l (N, L)).2 % 8 = 0 := by
  have key : ∀ n, n ≤ l.length → bytesN (bytS (l.take n) (N, L)).1 ((bytS (l.take n) (N, L)).2 / 8) = bytesN N (L / 8) ++ bytesV (l.take n) ∧ (bytS (l.take n) (N, L)).1 < 2 ^ (bytS (l.take n) (N, L)).2 ∧ (bytS (l.take n) (N, L)).2 % 8 = 0 := by
    intro n
    induction n with
    | zero => intro _; exact ⟨by simp [bytS, putS_nil, bytesV], hN, h8⟩
    | succ n ih =>
      intro hn
      obtain ⟨i1, i2, i3⟩ := ih (by omega)
      rw [bytS_take (by omega)]
      have hb : (l.getD n 0).toNat < 256 := UInt8.toNat_lt _
      obtain ⟨p1, p2, p3⟩ := put_byte i2 i3 hb
      refine ⟨?_, p2, p3⟩
      rw [p1, i1, List.append_assoc, List.take_succ_eq_append_getElem (by omega), bytesV_append]
      congr 2
      have : l.getD n 0 = l[n] := by simp [List.getD, show n < l.length by omega]
      rw [this]
      rfl
  have h := key l.length (Nat.le_refl _)
  rwa [List.take_length] at h
theorem alignW_8 (st : Nat × Nat) : (alignW st).2 % 8 = 0 := by unfold alignW alignN; simp only; omega
theorem alignW_lt {st : Nat × Nat} (h : st.1 < 2 ^ st.2) : (alignW st).1 < 2 ^ (alignW st).2 :=
  Nat.lt_of_lt_of_le h (Nat.pow_le_pow_right (by decide) (by unfold alignW alignN; simp only; omega))
set_option maxRecDepth 100000 in
theorem bytesWP {w0 W : World} {B g : Nat} {vb0 : Value} {st : Nat × Nat} (h : WSt w0 B g vb0 st W) (s : ByteArray) (hs : s.size ≤ 1000000) (hL : st.2 ≤ 200000000) :
    Calls Try.prog 44 #[.pointer (some ⟨g, 0, none⟩), .string s] W fun e w' => e = .returned (.tuple #[]) ∧ WSt w0 B g vb0 (bytS (bys s) (alignW st)) w' := by
  have HA := Lib.hid (alignWP h (by omega))
  obtain ⟨vbx, hx, -, -⟩ := h
  have HB := Lib.hid hx.box
  have hlt : st.1 < 2 ^ st.2 := hx.lt
  have HROW := Lib.hid (bytS_row (alignW_lt hlt) (alignW_8 st) (bys s))
  have HAL : Hid ((alignW st).2 ≤ 200000010) := Lib.hid (by unfold alignW alignN; simp only; omega)
  have HA8 := Lib.hid (alignW_8 st)
  have HALT := Lib.hid (alignW_lt hlt)
  clear hx hlt
  obtain ⟨D, hD⟩ : ∃ D, D = bytS (bys s) (alignW st) := ⟨_, rfl⟩
  rw [← hD]
  rw [show ((alignW st).1, (alignW st).2) = alignW st from rfl, ← hD] at HROW
  clear hD
  generalize alignW st = sa at *
  obtain ⟨Na, La⟩ := sa
  obtain ⟨N', L'⟩ := D
  simp only at HROW HAL HA8 HALT
  go_enter Try.func44, Try.ntmps44
  go_upto_region 2 with (first
    | (go_at_call 69; refine (thereP HB.out).mono ?_; rintro e w' ⟨rfl, hw'⟩; rw [hw']; clear hw')
    | (go_at_call 67; (with_reducible refine HA.out.mono ?_); rintro e w2 ⟨rfl, hq⟩; have HQ := Lib.hid hq; clear hq))
  obtain ⟨vb2, hv2, hb2, hf2⟩ := HQ.out
  simp only at hv2
  have HV2 := Lib.hid hv2
  have HB2 := Lib.hid hb2
  have HF2 := Lib.hid hf2
  have c1 := hv2.box.c1
  have f1 := hv2.box.free 1
  have hg2 := hv2.box.lt
  have hBg : B ≤ w2.heap.size := by have := hv2.ge; omega
  have HT3 : Hid ((bytesN Na (La / 8)).length + s.size ≤ 4294967296) := Lib.hid (by rw [bytesN_length]; have := HAL.out; omega)
  have HT4 := Lib.hid hBg
  clear hv2 hb2 hf2 hBg HA HB
  go_wp2_with (at_builtin; refine wpList_app_str rfl (.tmp 12) (.tmp 13) 43 9 rfl B 5 (.int .u8 0) 1 Try.underlying43 Try.underlying9 (by kernel_rfl) rfl (by decide) vb2 (bytesN Na (La / 8)) rfl HV2.out.own s rfl HT3.out HT4.out ?_; intro v' w5 hown1 hg1 hk1; have HO1 := Lib.hid hown1; have HG1 := Lib.hid hg1; have HK1 := Lib.hid hk1; have hbx5 := HV2.out.box.keep hg1 HV2.out.ne; have HBX5 := Lib.hid hbx5; have c15 := hbx5.c1; have f15 := hbx5.free 1; have hg5 := hbx5.lt; obtain ⟨o5, k5, q5, hv5, -⟩ := hown1.cases; subst hv5; generalize (bytesN Na (La / 8) ++ bytesV s.data.toList).length = l5 at *; have HST := Lib.hid (hbx5.set1 (.slice o5 l5 k5)); clear hown1 hg1 hk1 hbx5)
  go_end0
  have hne : (Value.slice o5 l5 k5).ownBlock ≠ some g := fun e => by
    rcases HK1.out _ e with h | h
    · exact HV2.out.ne h
    · omega
  obtain ⟨r1, r2, r3⟩ := HROW.out
  have e0 : N' / 256 ^ (L' / 8) = 0 := by
    rw [pow256, show 8 * (L' / 8) = L' by omega]
    exact Nat.div_eq_of_lt r2
  have e1 : Na / 256 ^ (La / 8) = 0 := by
    have := HA8.out
    rw [pow256, show 8 * (La / 8) = La by omega]
    exact Nat.div_eq_of_lt HALT.out
  refine ⟨rfl, _, ⟨?_, ?_, hne, HV2.out.ge, r2⟩, ?_, ?_⟩
  · have hb := HST.out.1
    rw [e1, HA8.out] at hb
    simp only [e0, r3]
    exact hb
  · simp only [r1]
    exact HO1.out.keep HST.out.2 (.inr hne)
  · exact ((below_grown HB2.out HT4.out HV2.out.own HG1.out)).grown HST.out.2 (Nat.le_trans HT4.out HG1.out.size) (fun k e => by cases e; exact HV2.out.ge)
  · exact (((HF2.out.step HG1.out (fun k e => .inr e)).val HK1.out HF2.out.2.2).step HST.out.2 (fun k e => by cases e; exact .inl rfl))
set_option maxRecDepth 100000 in
theorem bytesRW {w0 W : World} {B g : Nat} {vb0 : Value} {st : Nat × Nat} (h : RSt w0 B g vb0 st W) (s : ByteArray) (hs : s.size ≤ 1000000) (hL : st.2 ≤ 200000000) :
    Calls Try.prog 48 #[.pointer (some ⟨g, 0, none⟩), .string s] W fun e w' => e = .returned (.tuple #[]) ∧ RSt w0 B g vb0 (bytS (bys s) (alignW st)) w' := by
  have HA := Lib.hid (alignRW h (by omega))
  have HAL : Hid ((alignW st).2 ≤ 200000010) := Lib.hid (by unfold alignW alignN; simp only; omega)
  have HIX := Lib.hid (fun (i : Nat) (h : i < s.size) (W : World) => index_by (P := Try.prog) 9 Try.underlying9 h W)
  have HBL := Lib.hid (fun k => bytS_len ((bys s).take k) (alignW st))
  have HTK := Lib.hid (fun k (hk : k < (bys s).length) => bytS_take hk (alignW st))
  have HLN := Lib.hid (bys_len s)
  obtain ⟨D, hD⟩ : ∃ D, D = bytS (bys s) (alignW st) := ⟨_, rfl⟩
  rw [← hD]
  have HD : Hid (bytS ((bys s).take s.size) (alignW st) = D) := Lib.hid (by rw [hD, List.take_of_length_le (by rw [bys_len]; omega)])
  have H0 : Hid (bytS ((bys s).take 0) (alignW st) = alignW st) := Lib.hid rfl
  clear h hD
  generalize alignW st = sa at *
  generalize bys s = t at *
  go_enter Try.func48, Try.ntmps48
  go_wp2_with (go_at_call 76; (with_reducible refine HA.out.mono ?_); rintro e w2 ⟨rfl, hq⟩; have HQ := Lib.hid hq; clear hq)
  go_loopg [4] (s.size + 1) (fun gk iv wr => ∃ k : Nat, iv = .int .i64 k ∧ k ≤ s.size ∧ RSt w0 B g vb0 (bytS (t.take k) sa) wr ∧ gk = s.size + 1 - k)
  case atStart => exact ⟨0, rfl, Nat.zero_le _, by rw [H0.out]; exact HQ.out, rfl⟩
  case round =>
    clear HQ HA
    obtain ⟨k, rfl, hk, hq, rfl⟩ := hrel
    have HQ := Lib.hid hq
    clear hq
    by_cases hlt : k < s.size
    · have hi := HIX.out k hlt
      have hby : (t.getD k 0).toNat < 2 ^ 8 := UInt8.toNat_lt _
      have HT := Lib.hid (HTK.out k (by rw [HLN.out]; exact hlt))
      have hlen : (bytS (t.take k) sa).2 + 8 ≤ 2147483648 := by
        rw [HBL.out k, List.length_take]; have := HAL.out; omega
      have HP := Lib.hid (putRW HQ.out (t.getD k 0).toNat 8 hby (by omega) hlen)
      rw [show ((8 : Nat) : Int) = 8 from rfl] at HP
      generalize (t.getD k 0).toNat = x at *
      have hx : x < 256 := hby
      clear hlen hby
      go_wp2_with (go_at_call 75; (with_reducible refine HP.out.mono ?_); rintro e w3 ⟨rfl, hq⟩; have HQ3 := Lib.hid hq; clear hq)
      go_roundg (s.size + 1 - (k + 1))
      case measure => omega
      case rel => exact ⟨k + 1, by go_num, by omega, by rw [HT.out]; exact HQ3.out, rfl⟩
    · obtain rfl : k = s.size := by omega
      clear hlt
      go_wp2
      go_end0
      exact ⟨rfl, by rw [← HD.out]; exact HQ.out⟩
end Go.Cm

/- The walks of the program's symbols of lengths and distances. Conditions: none. -/
namespace Go.Cm
open Go.RowKit Go.Proofs

def z30 : Array Value := (ints (List.replicate 30 0)).toArray
theorem zero_30 (W : World) : (zeroValue 180).run Try.prog W = .ok (.agg z30) W := by kernel_rfl
theorem z30_list : z30.toList = ints (nls (List.replicate 30 0)) := rfl
theorem box30 (w : World) (A : Array Value) (hA : A = z30) : BoxA (w.alloc (.cells A 180)) 180 30 w.heap.size (nls (List.replicate 30 0)) := by
  subst hA
  exact boxA_new w 180 z30 (nls (List.replicate 30 0)) z30_list (by decide)
/-- the bases, as far as they have been laid -/
def basL (base each k : Nat) : List Nat := (List.range 30).map fun i => if i < k then spBase base each i else 0
theorem basL_len (base each k : Nat) : (basL base each k).length = 30 := by simp [basL]
theorem basL_getD (base each k i : Nat) (h : i < 30) : (basL base each k).getD i 0 = if i < k then spBase base each i else 0 := by simp [basL, List.getD, h]
theorem basL_zero (base each : Nat) : basL base each 0 = List.replicate 30 0 := by simp [basL, List.map_const']
theorem basL_set (base each k : Nat) : (basL base each k).set k (spBase base each k) = basL base each (k + 1) := by
  refine List.ext_getElem (by simp [basL]) fun i h1 h2 => ?_
  simp only [basL, List.length_set, List.length_map, List.length_range] at h1
  simp only [basL, List.getElem_set, List.getElem_map, List.getElem_range]
  by_cases h : k = i
  · subst h; rw [if_pos rfl, if_pos (by omega)]
  · rw [if_neg h]
    by_cases h3 : i < k
    · rw [if_pos h3, if_pos (by omega)]
    · rw [if_neg h3, if_neg (by omega)]
def kdV4 : Array Value := #[.int .i64 257, .int .i64 28, .int .i64 3, .int .i64 4]
theorem kd4 (w : World) : Calls Try.prog 118 #[] w fun e w' => e = .returned (.agg kdV4) ∧ ∃ x, w' = ext w x := by
  have HO := Lib.hid (own_lit w w.heap.size #[Value.int .i64 257, .int .i64 28, .int .i64 3, .int .i64 4] 166 (by simp) (Nat.le_refl _))
  go_enter Try.func118, Try.ntmps118
  go_wp2
  refine ret_cell rfl rfl rfl (own_load HO.out _ Try.underlying166 rfl (by kernel_rfl)) ?_
  exact ⟨rfl, (ex_ext (by repeat (first | exact Below.refl _ _ | assumption | refine b_drewN ?_ _ | refine Below.drew ?_ | refine b_ext' ?_ _ | refine b_alloc' ?_ _)))⟩
theorem bits4 (i : Nat) (hi : i < 100) (w : World) : Calls Try.prog 135 #[.agg kdV4, .int .i64 i] w fun e w' => e = .returned (.int .i64 (spB 4 i : Nat)) ∧ ∃ x, w' = ext w x := by
  have h1 : (i : Int).tdiv 4 = ((i / 4 : Nat) : Int) := by norm_cast
  have hl : i / 4 < 100 := by omega
  unfold kdV4 spB
  go_enter Try.func135, Try.ntmps135
  go_wp2
  all_goals
    go_ret
    refine ⟨?_, (ex_ext (by repeat (first | exact Below.refl _ _ | assumption | refine b_drewN ?_ _ | refine Below.drew ?_ | refine b_ext' ?_ _ | refine b_alloc' ?_ _)))⟩
    first
      | (rw [show ((i / 4 - 1 : Nat) : Int) = (i : Int) / 4 - 1 by omega]; rfl)
      | (rw [show ((i / 4 - 1 : Nat) : Int) = 0 by omega]; rfl)
theorem spB4_le (i : Nat) (h : i < 30) : spB 4 i ≤ 13 := by unfold spB; omega
theorem spBase4_le : ∀ i, i ≤ 30 → spBase 3 4 i ≤ 40000 := by
  intro i hi
  exact Nat.le_trans (spBase_mono 3 4 hi) (by decide)
set_option maxRecDepth 100000 in
theorem bases4 (w : World) : Calls Try.prog 134 #[.agg kdV4] w fun e w' => e = .returned (.agg (ints (nls (basL 3 4 28))).toArray) ∧ ∃ x, w' = ext w x := by
  have HBI := Lib.hid (fun (i : Nat) (hi : i < 100) (W : World) => bits4 i hi W)
  unfold kdV4 at HBI ⊢
  obtain ⟨w1, hw1⟩ : ∃ w1, w1 = w.alloc (.cells #[.int .i64 257, .int .i64 28, .int .i64 3, .int .i64 4] 166) := ⟨_, rfl⟩
  have hz := zero_30
  obtain ⟨Z, hZ⟩ : ∃ Z, Z = z30 := ⟨_, rfl⟩
  rw [← hZ] at hz
  have hk := own_lit w w.heap.size #[Value.int .i64 257, .int .i64 28, .int .i64 3, .int .i64 4] 166 (by simp) (Nat.le_refl _)
  rw [← hw1] at hk
  have hs1 : w1.heap.size = w.heap.size + 1 := by rw [hw1]; simp
  have hb1 := box30 w1 Z hZ
  have hb2 := box30 (w1.alloc (.cells Z 180)) Z hZ
  rw [show (w1.alloc (.cells Z 180)).heap.size = w.heap.size + 2 by simp [hs1]] at hb2
  rw [hs1] at hb1
  rw [← basL_zero 3 4] at hb2
  obtain ⟨O, hO⟩ : ∃ O : List Int, O = nls (List.replicate 30 0) := ⟨_, rfl⟩
  rw [← hO] at hb1
  have HB1 := Lib.hid (hb1.up (below_alloc _ (.cells Z 180)))
  have HB2 := Lib.hid hb2
  have HK := Lib.hid ((hk.up (below_alloc w1 (.cells Z 180))).up (below_alloc _ (.cells Z 180)))
  have HBL : Hid (Below w.heap.size w ((w1.alloc (.cells Z 180)).alloc (.cells Z 180))) := Lib.hid (by rw [hw1]; exact (by repeat (first | exact Below.refl _ _ | assumption | refine b_drewN ?_ _ | refine Below.drew ?_ | refine b_ext' ?_ _ | refine b_alloc' ?_ _)))
  have HW1 := Lib.hid hw1
  have HS1 := Lib.hid hs1
  clear hw1 hZ hb1 hb2 hk hO hs1
  go_enter Try.func134, Try.ntmps134
  go_wp2
  rw [← HW1.out]
  generalize (w1.alloc (.cells Z 180)).alloc (.cells Z 180) = w3 at *
  go_loopg [4, 10] (28 + 1) (fun gk nv iv wr => ∃ k : Nat, nv = .int .i64 (spBase 3 4 k : Nat) ∧ iv = .int .i64 k ∧ k ≤ 28 ∧ BoxA wr 180 30 (w.heap.size + 2) (nls (basL 3 4 k)) ∧ BoxA wr 180 30 (w.heap.size + 1) O ∧ Own wr w.heap.size 166 (.slice (some ⟨w.heap.size, 0, none⟩) 4 4) [.int .i64 257, .int .i64 28, .int .i64 3, .int .i64 4] ∧ Below w.heap.size w wr ∧ gk = 28 + 1 - k)
  case atStart => exact ⟨0, rfl, rfl, Nat.zero_le _, HB2.out, HB1.out, HK.out, HBL.out, rfl⟩
  case round =>
    clear HB2 HB1 HK HBL
    obtain ⟨k, rfl, rfl, hk, hb2, hb1, hkk, hbel, rfl⟩ := hrel
    have HB2 := Lib.hid hb2
    have HB1 := Lib.hid hb1
    have HK := Lib.hid hkk
    have HBL := Lib.hid hbel
    have hsz := hbel.size
    have hl2 := hb2.lt
    by_cases hlt : k < 28
    · have hlti : (k : Int) < 28 := by omega
      have hc := hb2.cell (c := k) (by omega)
      rw [nls_getD] at hc
      have hf := hb2.free k
      have hst := hb2.set k (spBase 3 4 k : Nat)
      rw [nls_set, basL_set] at hst
      have HST := Lib.hid hst
      have hbs := spBase4_le k (by omega)
      have hb13 := spB4_le k (by omega)
      have hnx := spBase_step 3 4 k
      have HNX := Lib.hid hnx
      clear hb2 hb1 hkk hbel hst hnx
      obtain ⟨A, hgA, hsA, hA⟩ := (HK.out.keep HST.out.2 (.inr (by simp [Value.ownBlock]))).whole
      have hA' : A = #[.int .i64 257, .int .i64 28, .int .i64 3, .int .i64 4] := by rw [← Array.toArray_toList (xs := A), hA]
      subst hA'
      clear hA hsA
      generalize (basL 3 4 k).getD k 0 = z at *
      have HBK := Lib.hid (fun W => HBI.out k (by omega) W)
      have HN1 : Hid (((spBase 3 4 (k + 1) : Nat) : Int) = ((spBase 3 4 k : Nat) : Int) + 2 ^ (spB 4 k)) := Lib.hid (by rw [HNX.out]; norm_cast)
      have hp := Nat.pow_le_pow_right (n := 2) (by decide) hb13
      have hpi : (2 : Int) ^ (spB 4 k) ≤ 8192 := by
        have h : ((2 ^ spB 4 k : Nat) : Int) ≤ 8192 := by omega
        simpa using h
      have hpi0 : (0 : Int) ≤ (2 : Int) ^ (spB 4 k) := Int.pow_nonneg (by decide)
      generalize spBase 3 4 k = q at *
      generalize spB 4 k = b at *
      go_wp2_with (first | (refine load_box rfl 166 4 _ rfl w.heap.size rfl #[.int .i64 257, .int .i64 28, .int .i64 3, .int .i64 4] rfl hgA _ Try.underlying166 rfl (by kernel_rfl) ?_) | (go_at_call 135; (with_reducible refine (HBK.out _).mono ?_); rintro e w4 ⟨rfl, x4, rfl⟩))
      go_roundg (28 + 1 - (k + 1))
      case measure => omega
      case rel => exact ⟨k + 1, by rw [HN1.out], by go_num, by omega, HST.out.1.up (ext_below _ x4), (HB1.out.keep HST.out.2 (by simp)).up (ext_below _ x4), (HK.out.keep HST.out.2 (.inr (by simp [Value.ownBlock]))).up (ext_below _ x4), (HBL.out.grown HST.out.2 hsz (fun q hq => by cases hq; omega)).trans ((ext_below _ x4).mono (Nat.le_trans hsz HST.out.2.size)), rfl⟩
    · obtain rfl : k = 28 := by omega
      obtain ⟨A, hgA, hsA, hA⟩ := hb2.open
      have HA := Lib.hid (congrArg List.toArray hA)
      clear hb2 hb1 hkk hbel HB2 HK hA hlt
      go_wp2_with (first | (refine load_box rfl 180 30 _ rfl (w.heap.size + 2) rfl A hsA hgA _ Try.underlying180 rfl (by kernel_rfl) ?_) | (refine store_box rfl 180 30 _ _ rfl (w.heap.size + 1) rfl O (nls (basL 3 4 28)) (congrArg Value.agg HA.out) (by rw [nls_length, basL_len]) (by kernel_rfl) HB1.out ?_; intro w4 hB4 hg4; have HB4 := Lib.hid hB4; have HG4 := Lib.hid hg4; clear hB4 hg4))
      refine ret_cell rfl rfl rfl (HB4.out.load _ Try.underlying180 rfl (by kernel_rfl)) ?_
      exact ⟨rfl, ex_ext (HBL.out.grown HG4.out hsz (fun q hq => by cases hq; omega))⟩
set_option maxRecDepth 100000 in
theorem symP4 (n : Nat) (hn : 3 ≤ n) (hn2 : n ≤ 40000) (w : World) : Calls Try.prog 119 #[.agg kdV4, .int .i64 n] w fun e w' => e = .returned (.tuple #[.int .i64 ((symOf 257 3 4 n 27).s : Nat), .int .i64 ((symOf 257 3 4 n 27).b : Nat), .int .i64 ((symOf 257 3 4 n 27).v : Nat)]) ∧ ∃ x, w' = ext w x := by
  have HBI := Lib.hid (fun (i : Nat) (hi : i < 100) (W : World) => bits4 i hi W)
  have HBA := Lib.hid (fun (W : World) => bases4 W)
  obtain ⟨s3, hs3⟩ : ∃ s3, s3 = symOf 257 3 4 n 27 := ⟨_, rfl⟩
  rw [← hs3]
  have HS3 := Lib.hid hs3
  clear hs3
  unfold kdV4 at HBI HBA ⊢
  obtain ⟨cl, hcl⟩ : ∃ cl, cl = nls (basL 3 4 28) := ⟨_, rfl⟩
  rw [← hcl] at HBA
  have HCL : Hid (∀ i, i < 28 → cl.getD i 0 = (spBase 3 4 i : Nat)) := Lib.hid (fun i hi => by rw [hcl, nls_getD, basL_getD _ _ _ _ (by omega), if_pos hi])
  have hll : cl.length = 30 := by rw [hcl, nls_length, basL_len]
  clear hcl
  have hz := zero_30
  obtain ⟨Z, hZ⟩ : ∃ Z, Z = z30 := ⟨_, rfl⟩
  rw [← hZ] at hz
  have HB30 := Lib.hid (fun W => box30 W Z hZ)
  clear hZ
  obtain ⟨w1, hw1⟩ : ∃ w1, w1 = w.alloc (.cells #[.int .i64 257, .int .i64 28, .int .i64 3, .int .i64 4] 166) := ⟨_, rfl⟩
  have hk := own_lit w w.heap.size #[Value.int .i64 257, .int .i64 28, .int .i64 3, .int .i64 4] 166 (by simp) (Nat.le_refl _)
  rw [← hw1] at hk
  have HK := Lib.hid hk
  have HW1 := Lib.hid hw1
  have hb1 : Below w.heap.size w w1 := by rw [hw1]; exact below_alloc _ _
  have HB1 := Lib.hid hb1
  obtain ⟨A, hgA, hsA, hA⟩ := hk.whole
  have hA' : A = #[.int .i64 257, .int .i64 28, .int .i64 3, .int .i64 4] := by rw [← Array.toArray_toList (xs := A), hA]
  subst hA'
  rw [hw1] at hgA
  clear hA hsA hk hb1 hw1
  go_enter Try.func119, Try.ntmps119
  go_wp2_with (first | (refine load_box rfl 166 4 _ rfl w.heap.size rfl #[.int .i64 257, .int .i64 28, .int .i64 3, .int .i64 4] rfl hgA _ Try.underlying166 rfl (by kernel_rfl) ?_) | (go_at_call 134; rw [← HW1.out]; (with_reducible refine (HBA.out _).mono ?_); rintro e w2 ⟨rfl, x2, rfl⟩; have HX2 := Lib.hid (ext_below w1 x2); generalize ext w1 x2 = w2 at *; have HB2 := Lib.hid (HB30.out w2); have HK2 := Lib.hid ((HK.out.up HX2.out).up (below_alloc w2 (.cells Z 180))); clear HB30 HK) | (refine store_box rfl 180 30 _ _ rfl w2.heap.size rfl _ cl rfl hll (by kernel_rfl) HB2.out ?_; intro w4 hB4 hg4; have HB4 := Lib.hid hB4; have HK4 := Lib.hid (HK2.out.keep hg4 (.inr (by intro e; have e2 : some w.heap.size = some w2.heap.size := e; injection e2 with e2; have h1 := HX2.out.size; have h2 := (HK2.out.blk).1; have h3 := HB1.out.size; rw [HW1.out] at h1; simp at h1; omega))); have HL4 : Hid (Below w.heap.size w w4) := Lib.hid (((HB1.out.trans (HX2.out.mono HB1.out.size)).alloc (Nat.le_trans HB1.out.size HX2.out.size) _).grown hg4 (Nat.le_trans (Nat.le_trans HB1.out.size HX2.out.size) (below_alloc _ _).size) (fun q hq => by cases hq; exact Nat.le_trans HB1.out.size HX2.out.size)); have c41 : w4.cell? ⟨w.heap.size, 1, none⟩ = some (.int .i64 28) := HK4.out.cell (by simp); have b41 := HK4.out.blk.2; clear hB4 hg4 HB2 HK2))
  have hg4 := HB4.out.lt
  have hb0 : ∀ i, i < 28 → w4.cell? ⟨w2.heap.size, i, none⟩ = some (.int .i64 (spBase 3 4 i : Nat)) := fun i hi => by rw [HB4.out.cell (by omega), HCL.out i hi]
  have HC0 := Lib.hid hb0
  obtain ⟨A4, hgA4, hsA4, hA4⟩ := HK4.out.whole
  have hA4' : A4 = #[.int .i64 257, .int .i64 28, .int .i64 3, .int .i64 4] := by rw [← Array.toArray_toList (xs := A4), hA4]
  subst hA4'
  have c40 : w4.cell? ⟨w.heap.size, 0, none⟩ = some (.int .i64 257) := HK4.out.cell (by simp)
  generalize w2.heap.size = q2 at *
  clear hb0 hA4 hsA4 HCL HBA HB4 HK4 c41 hgA
  have hgk : ∀ w', (∃ x, w' = ext w4 x) → w'.heap[w.heap.size]? = some (.cells #[.int .i64 257, .int .i64 28, .int .i64 3, .int .i64 4] 166 (0, 0)) := fun w' ⟨x, hx⟩ => by rw [hx, heap_ext w4 x _ b41]; exact hgA4
  have HGK := Lib.hid hgk
  clear hgk
  go_loopg [8] 27 (fun gk iv wr => ∃ k : Nat, iv = .int .i64 k ∧ k ≤ 27 ∧ wr = w4 ∧ Hid (spIdx 3 4 n 27 = spIdx 3 4 n k) ∧ gk = k)
  case atStart => exact ⟨27, rfl, Nat.le_refl _, rfl, Lib.hid rfl, rfl⟩
  case round =>
    obtain ⟨k, rfl, hk, rfl, HX, rfl⟩ := hrel
    have hck := HC0.out gk (by omega)
    by_cases h : spBase 3 4 gk ≤ n
    · have hd : decide ((spBase 3 4 gk : Nat) > (n : Int)) = false := by rw [decide_eq_false_iff_not]; omega
      have HE : Hid (s3.s = 257 + gk ∧ s3.b = spB 4 gk ∧ s3.v = n - spBase 3 4 gk) := Lib.hid (by
        have e : spIdx 3 4 n 27 = gk := by rw [HX.out]; exact spIdx_here h
        rw [HS3.out]
        unfold symOf
        rw [e]
        exact ⟨rfl, rfl, rfl⟩)
      have hv : ((n - spBase 3 4 gk : Nat) : Int) = (n : Int) - (spBase 3 4 gk : Nat) := by omega
      have HV := Lib.hid hv
      have HBK := Lib.hid (fun W => HBI.out gk (by omega) W)
      clear hv HX HC0 HS3
      obtain ⟨ss, sb, sv⟩ := s3
      simp only at HE
      obtain ⟨b, hb⟩ : ∃ b, b = spB 4 gk := ⟨_, rfl⟩
      rw [← hb] at HBK HE
      clear hb
      generalize spBase 3 4 gk = q at *
      generalize hvv : n - q = vv at *
      clear hvv
      go_wp2
      refine wp_region_ext (by kernel_rfl) (by kernel_rfl) ?_
      repeat (first | (go_big_quiet_want; refine quiet_load_box 166 4 _ rfl w.heap.size rfl #[.int .i64 257, .int .i64 28, .int .i64 3, .int .i64 4] rfl HGK.out _ Try.underlying166 rfl (by kernel_rfl) ?_; go_simp; go_big_quiet_on) | go_big_quiet_step ((go_at_call 135; exact calls_in (HBK.out _))))
      refine wpQuiet_nil ?_
      rintro w' ⟨x2, rfl⟩
      go_wp2
      go_ret3
      obtain ⟨e1, e2, e3⟩ := HE.out
      subst e1 e2 e3
      refine ⟨?_, ex_ext (HL4.out.trans ((ext_below _ _).mono HL4.out.size))⟩
      rw [HV.out]
      (try rw [Nat.zero_add])
      rfl
    · have hd : decide ((spBase 3 4 gk : Nat) > (n : Int)) = true := by simp; omega
      obtain ⟨j, rfl⟩ : ∃ j, gk = j + 1 := ⟨gk - 1, by
        rcases Nat.eq_zero_or_pos gk with h0 | h0
        · subst h0; exact absurd hn h
        · omega⟩
      have HX2 : Hid (spIdx 3 4 n 27 = spIdx 3 4 n j) := Lib.hid (by rw [HX.out]; exact spIdx_down (by omega))
      generalize spBase 3 4 (j + 1) = q at *
      go_wp2
      go_roundg j
      case measure => omega
      case rel => exact ⟨j, by go_num, by omega, rfl, HX2, rfl⟩
def kdV2 : Array Value := #[.int .i64 0, .int .i64 30, .int .i64 1, .int .i64 2]
theorem kd2 (w : World) : Calls Try.prog 120 #[] w fun e w' => e = .returned (.agg kdV2) ∧ ∃ x, w' = ext w x := by
  have HO := Lib.hid (own_lit w w.heap.size #[Value.int .i64 0, .int .i64 30, .int .i64 1, .int .i64 2] 166 (by simp) (Nat.le_refl _))
  go_enter Try.func120, Try.ntmps120
  go_wp2
  refine ret_cell rfl rfl rfl (own_load HO.out _ Try.underlying166 rfl (by kernel_rfl)) ?_
  exact ⟨rfl, (ex_ext (by repeat (first | exact Below.refl _ _ | assumption | refine b_drewN ?_ _ | refine Below.drew ?_ | refine b_ext' ?_ _ | refine b_alloc' ?_ _)))⟩
theorem bits2 (i : Nat) (hi : i < 100) (w : World) : Calls Try.prog 135 #[.agg kdV2, .int .i64 i] w fun e w' => e = .returned (.int .i64 (spB 2 i : Nat)) ∧ ∃ x, w' = ext w x := by
  have h1 : (i : Int).tdiv 2 = ((i / 2 : Nat) : Int) := by norm_cast
  have hl : i / 2 < 100 := by omega
  unfold kdV2 spB
  go_enter Try.func135, Try.ntmps135
  go_wp2
  all_goals
    go_ret
    refine ⟨?_, (ex_ext (by repeat (first | exact Below.refl _ _ | assumption | refine b_drewN ?_ _ | refine Below.drew ?_ | refine b_ext' ?_ _ | refine b_alloc' ?_ _)))⟩
    first
      | (rw [show ((i / 2 - 1 : Nat) : Int) = (i : Int) / 2 - 1 by omega]; rfl)
      | (rw [show ((i / 2 - 1 : Nat) : Int) = 0 by omega]; rfl)
theorem spB2_le (i : Nat) (h : i < 30) : spB 2 i ≤ 13 := by unfold spB; omega
theorem spBase2_le : ∀ i, i ≤ 30 → spBase 1 2 i ≤ 40000 := by
  intro i hi
  exact Nat.le_trans (spBase_mono 1 2 hi) (by decide)
set_option maxRecDepth 100000 in
theorem bases2 (w : World) : Calls Try.prog 134 #[.agg kdV2] w fun e w' => e = .returned (.agg (ints (nls (basL 1 2 30))).toArray) ∧ ∃ x, w' = ext w x := by
  have HBI := Lib.hid (fun (i : Nat) (hi : i < 100) (W : World) => bits2 i hi W)
  unfold kdV2 at HBI ⊢
  obtain ⟨w1, hw1⟩ : ∃ w1, w1 = w.alloc (.cells #[.int .i64 0, .int .i64 30, .int .i64 1, .int .i64 2] 166) := ⟨_, rfl⟩
  have hz := zero_30
  obtain ⟨Z, hZ⟩ : ∃ Z, Z = z30 := ⟨_, rfl⟩
  rw [← hZ] at hz
  have hk := own_lit w w.heap.size #[Value.int .i64 0, .int .i64 30, .int .i64 1, .int .i64 2] 166 (by simp) (Nat.le_refl _)
  rw [← hw1] at hk
  have hs1 : w1.heap.size = w.heap.size + 1 := by rw [hw1]; simp
  have hb1 := box30 w1 Z hZ
  have hb2 := box30 (w1.alloc (.cells Z 180)) Z hZ
  rw [show (w1.alloc (.cells Z 180)).heap.size = w.heap.size + 2 by simp [hs1]] at hb2
  rw [hs1] at hb1
  rw [← basL_zero 1 2] at hb2
  obtain ⟨O, hO⟩ : ∃ O : List Int, O = nls (List.replicate 30 0) := ⟨_, rfl⟩
  rw [← hO] at hb1
  have HB1 := Lib.hid (hb1.up (below_alloc _ (.cells Z 180)))
  have HB2 := Lib.hid hb2
  have HK := Lib.hid ((hk.up (below_alloc w1 (.cells Z 180))).up (below_alloc _ (.cells Z 180)))
  have HBL : Hid (Below w.heap.size w ((w1.alloc (.cells Z 180)).alloc (.cells Z 180))) := Lib.hid (by rw [hw1]; exact (by repeat (first | exact Below.refl _ _ | assumption | refine b_drewN ?_ _ | refine Below.drew ?_ | refine b_ext' ?_ _ | refine b_alloc' ?_ _)))
  have HW1 := Lib.hid hw1
  have HS1 := Lib.hid hs1
  clear hw1 hZ hb1 hb2 hk hO hs1
  go_enter Try.func134, Try.ntmps134
  go_wp2
  rw [← HW1.out]
  generalize (w1.alloc (.cells Z 180)).alloc (.cells Z 180) = w3 at *
  go_loopg [4, 10] (30 + 1) (fun gk nv iv wr => ∃ k : Nat, nv = .int .i64 (spBase 1 2 k : Nat) ∧ iv = .int .i64 k ∧ k ≤ 30 ∧ BoxA wr 180 30 (w.heap.size + 2) (nls (basL 1 2 k)) ∧ BoxA wr 180 30 (w.heap.size + 1) O ∧ Own wr w.heap.size 166 (.slice (some ⟨w.heap.size, 0, none⟩) 4 4) [.int .i64 0, .int .i64 30, .int .i64 1, .int .i64 2] ∧ Below w.heap.size w wr ∧ gk = 30 + 1 - k)
  case atStart => exact ⟨0, rfl, rfl, Nat.zero_le _, HB2.out, HB1.out, HK.out, HBL.out, rfl⟩
  case round =>
    clear HB2 HB1 HK HBL
    obtain ⟨k, rfl, rfl, hk, hb2, hb1, hkk, hbel, rfl⟩ := hrel
    have HB2 := Lib.hid hb2
    have HB1 := Lib.hid hb1
    have HK := Lib.hid hkk
    have HBL := Lib.hid hbel
    have hsz := hbel.size
    have hl2 := hb2.lt
    by_cases hlt : k < 30
    · have hlti : (k : Int) < 30 := by omega
      have hc := hb2.cell (c := k) (by omega)
      rw [nls_getD] at hc
      have hf := hb2.free k
      have hst := hb2.set k (spBase 1 2 k : Nat)
      rw [nls_set, basL_set] at hst
      have HST := Lib.hid hst
      have hbs := spBase2_le k (by omega)
      have hb13 := spB2_le k (by omega)
      have hnx := spBase_step 1 2 k
      have HNX := Lib.hid hnx
      clear hb2 hb1 hkk hbel hst hnx
      obtain ⟨A, hgA, hsA, hA⟩ := (HK.out.keep HST.out.2 (.inr (by simp [Value.ownBlock]))).whole
      have hA' : A = #[.int .i64 0, .int .i64 30, .int .i64 1, .int .i64 2] := by rw [← Array.toArray_toList (xs := A), hA]
      subst hA'
      clear hA hsA
      generalize (basL 1 2 k).getD k 0 = z at *
      have HBK := Lib.hid (fun W => HBI.out k (by omega) W)
      have HN1 : Hid (((spBase 1 2 (k + 1) : Nat) : Int) = ((spBase 1 2 k : Nat) : Int) + 2 ^ (spB 2 k)) := Lib.hid (by rw [HNX.out]; norm_cast)
      have hp := Nat.pow_le_pow_right (n := 2) (by decide) hb13
      have hpi : (2 : Int) ^ (spB 2 k) ≤ 8192 := by
        have h : ((2 ^ spB 2 k : Nat) : Int) ≤ 8192 := by omega
        simpa using h
      have hpi0 : (0 : Int) ≤ (2 : Int) ^ (spB 2 k) := Int.pow_nonneg (by decide)
      generalize spBase 1 2 k = q at *
      generalize spB 2 k = b at *
      go_wp2_with (first | (refine load_box rfl 166 4 _ rfl w.heap.size rfl #[.int .i64 0, .int .i64 30, .int .i64 1, .int .i64 2] rfl hgA _ Try.underlying166 rfl (by kernel_rfl) ?_) | (go_at_call 135; (with_reducible refine (HBK.out _).mono ?_); rintro e w4 ⟨rfl, x4, rfl⟩))
      go_roundg (30 + 1 - (k + 1))
      case measure => omega
      case rel => exact ⟨k + 1, by rw [HN1.out], by go_num, by omega, HST.out.1.up (ext_below _ x4), (HB1.out.keep HST.out.2 (by simp)).up (ext_below _ x4), (HK.out.keep HST.out.2 (.inr (by simp [Value.ownBlock]))).up (ext_below _ x4), (HBL.out.grown HST.out.2 hsz (fun q hq => by cases hq; omega)).trans ((ext_below _ x4).mono (Nat.le_trans hsz HST.out.2.size)), rfl⟩
    · obtain rfl : k = 30 := by omega
      obtain ⟨A, hgA, hsA, hA⟩ := hb2.open
      have HA := Lib.hid (congrArg List.toArray hA)
      clear hb2 hb1 hkk hbel HB2 HK hA hlt
      go_wp2_with (first | (refine load_box rfl 180 30 _ rfl (w.heap.size + 2) rfl A hsA hgA _ Try.underlying180 rfl (by kernel_rfl) ?_) | (refine store_box rfl 180 30 _ _ rfl (w.heap.size + 1) rfl O (nls (basL 1 2 30)) (congrArg Value.agg HA.out) (by rw [nls_length, basL_len]) (by kernel_rfl) HB1.out ?_; intro w4 hB4 hg4; have HB4 := Lib.hid hB4; have HG4 := Lib.hid hg4; clear hB4 hg4))
      refine ret_cell rfl rfl rfl (HB4.out.load _ Try.underlying180 rfl (by kernel_rfl)) ?_
      exact ⟨rfl, ex_ext (HBL.out.grown HG4.out hsz (fun q hq => by cases hq; omega))⟩
set_option maxRecDepth 100000 in
theorem symP2 (n : Nat) (hn : 1 ≤ n) (hn2 : n ≤ 40000) (w : World) : Calls Try.prog 119 #[.agg kdV2, .int .i64 n] w fun e w' => e = .returned (.tuple #[.int .i64 ((symOf 0 1 2 n 29).s : Nat), .int .i64 ((symOf 0 1 2 n 29).b : Nat), .int .i64 ((symOf 0 1 2 n 29).v : Nat)]) ∧ ∃ x, w' = ext w x := by
  have HBI := Lib.hid (fun (i : Nat) (hi : i < 100) (W : World) => bits2 i hi W)
  have HBA := Lib.hid (fun (W : World) => bases2 W)
  obtain ⟨s3, hs3⟩ : ∃ s3, s3 = symOf 0 1 2 n 29 := ⟨_, rfl⟩
  rw [← hs3]
  have HS3 := Lib.hid hs3
  clear hs3
  unfold kdV2 at HBI HBA ⊢
  obtain ⟨cl, hcl⟩ : ∃ cl, cl = nls (basL 1 2 30) := ⟨_, rfl⟩
  rw [← hcl] at HBA
  have HCL : Hid (∀ i, i < 30 → cl.getD i 0 = (spBase 1 2 i : Nat)) := Lib.hid (fun i hi => by rw [hcl, nls_getD, basL_getD _ _ _ _ (by omega), if_pos hi])
  have hll : cl.length = 30 := by rw [hcl, nls_length, basL_len]
  clear hcl
  have hz := zero_30
  obtain ⟨Z, hZ⟩ : ∃ Z, Z = z30 := ⟨_, rfl⟩
  rw [← hZ] at hz
  have HB30 := Lib.hid (fun W => box30 W Z hZ)
  clear hZ
  obtain ⟨w1, hw1⟩ : ∃ w1, w1 = w.alloc (.cells #[.int .i64 0, .int .i64 30, .int .i64 1, .int .i64 2] 166) := ⟨_, rfl⟩
  have hk := own_lit w w.heap.size #[Value.int .i64 0, .int .i64 30, .int .i64 1, .int .i64 2] 166 (by simp) (Nat.le_refl _)
  rw [← hw1] at hk
  have HK := Lib.hid hk
  have HW1 := Lib.hid hw1
  have hb1 : Below w.heap.size w w1 := by rw [hw1]; exact below_alloc _ _
  have HB1 := Lib.hid hb1
  obtain ⟨A, hgA, hsA, hA⟩ := hk.whole
  have hA' : A = #[.int .i64 0, .int .i64 30, .int .i64 1, .int .i64 2] := by rw [← Array.toArray_toList (xs := A), hA]
  subst hA'
  rw [hw1] at hgA
  clear hA hsA hk hb1 hw1
  go_enter Try.func119, Try.ntmps119
  go_wp2_with (first | (refine load_box rfl 166 4 _ rfl w.heap.size rfl #[.int .i64 0, .int .i64 30, .int .i64 1, .int .i64 2] rfl hgA _ Try.underlying166 rfl (by kernel_rfl) ?_) | (go_at_call 134; rw [← HW1.out]; (with_reducible refine (HBA.out _).mono ?_); rintro e w2 ⟨rfl, x2, rfl⟩; have HX2 := Lib.hid (ext_below w1 x2); generalize ext w1 x2 = w2 at *; have HB2 := Lib.hid (HB30.out w2); have HK2 := Lib.hid ((HK.out.up HX2.out).up (below_alloc w2 (.cells Z 180))); clear HB30 HK) | (refine store_box rfl 180 30 _ _ rfl w2.heap.size rfl _ cl rfl hll (by kernel_rfl) HB2.out ?_; intro w4 hB4 hg4; have HB4 := Lib.hid hB4; have HK4 := Lib.hid (HK2.out.keep hg4 (.inr (by intro e; have e2 : some w.heap.size = some w2.heap.size := e; injection e2 with e2; have h1 := HX2.out.size; have h2 := (HK2.out.blk).1; have h3 := HB1.out.size; rw [HW1.out] at h1; simp at h1; omega))); have HL4 : Hid (Below w.heap.size w w4) := Lib.hid (((HB1.out.trans (HX2.out.mono HB1.out.size)).alloc (Nat.le_trans HB1.out.size HX2.out.size) _).grown hg4 (Nat.le_trans (Nat.le_trans HB1.out.size HX2.out.size) (below_alloc _ _).size) (fun q hq => by cases hq; exact Nat.le_trans HB1.out.size HX2.out.size)); have c41 : w4.cell? ⟨w.heap.size, 1, none⟩ = some (.int .i64 30) := HK4.out.cell (by simp); have b41 := HK4.out.blk.2; clear hB4 hg4 HB2 HK2))
  have hg4 := HB4.out.lt
  have hb0 : ∀ i, i < 30 → w4.cell? ⟨w2.heap.size, i, none⟩ = some (.int .i64 (spBase 1 2 i : Nat)) := fun i hi => by rw [HB4.out.cell (by omega), HCL.out i hi]
  have HC0 := Lib.hid hb0
  obtain ⟨A4, hgA4, hsA4, hA4⟩ := HK4.out.whole
  have hA4' : A4 = #[.int .i64 0, .int .i64 30, .int .i64 1, .int .i64 2] := by rw [← Array.toArray_toList (xs := A4), hA4]
  subst hA4'
  have c40 : w4.cell? ⟨w.heap.size, 0, none⟩ = some (.int .i64 0) := HK4.out.cell (by simp)
  generalize w2.heap.size = q2 at *
  clear hb0 hA4 hsA4 HCL HBA HB4 HK4 c41 hgA
  have hgk : ∀ w', (∃ x, w' = ext w4 x) → w'.heap[w.heap.size]? = some (.cells #[.int .i64 0, .int .i64 30, .int .i64 1, .int .i64 2] 166 (0, 0)) := fun w' ⟨x, hx⟩ => by rw [hx, heap_ext w4 x _ b41]; exact hgA4
  have HGK := Lib.hid hgk
  clear hgk
  go_loopg [8] 29 (fun gk iv wr => ∃ k : Nat, iv = .int .i64 k ∧ k ≤ 29 ∧ wr = w4 ∧ Hid (spIdx 1 2 n 29 = spIdx 1 2 n k) ∧ gk = k)
  case atStart => exact ⟨29, rfl, Nat.le_refl _, rfl, Lib.hid rfl, rfl⟩
  case round =>
    obtain ⟨k, rfl, hk, rfl, HX, rfl⟩ := hrel
    have hck := HC0.out gk (by omega)
    by_cases h : spBase 1 2 gk ≤ n
    · have hd : decide ((spBase 1 2 gk : Nat) > (n : Int)) = false := by rw [decide_eq_false_iff_not]; omega
      have HE : Hid (s3.s = 0 + gk ∧ s3.b = spB 2 gk ∧ s3.v = n - spBase 1 2 gk) := Lib.hid (by
        have e : spIdx 1 2 n 29 = gk := by rw [HX.out]; exact spIdx_here h
        rw [HS3.out]
        unfold symOf
        rw [e]
        exact ⟨rfl, rfl, rfl⟩)
      have hv : ((n - spBase 1 2 gk : Nat) : Int) = (n : Int) - (spBase 1 2 gk : Nat) := by omega
      have HV := Lib.hid hv
      have HBK := Lib.hid (fun W => HBI.out gk (by omega) W)
      clear hv HX HC0 HS3
      obtain ⟨ss, sb, sv⟩ := s3
      simp only at HE
      obtain ⟨b, hb⟩ : ∃ b, b = spB 2 gk := ⟨_, rfl⟩
      rw [← hb] at HBK HE
      clear hb
      generalize spBase 1 2 gk = q at *
      generalize hvv : n - q = vv at *
      clear hvv
      go_wp2
      refine wp_region_ext (by kernel_rfl) (by kernel_rfl) ?_
      repeat (first | (go_big_quiet_want; refine quiet_load_box 166 4 _ rfl w.heap.size rfl #[.int .i64 0, .int .i64 30, .int .i64 1, .int .i64 2] rfl HGK.out _ Try.underlying166 rfl (by kernel_rfl) ?_; go_simp; go_big_quiet_on) | go_big_quiet_step ((go_at_call 135; exact calls_in (HBK.out _))))
      refine wpQuiet_nil ?_
      rintro w' ⟨x2, rfl⟩
      go_wp2
      go_ret3
      obtain ⟨e1, e2, e3⟩ := HE.out
      subst e1 e2 e3
      refine ⟨?_, ex_ext (HL4.out.trans ((ext_below _ _).mono HL4.out.size))⟩
      rw [HV.out]
      (try rw [Nat.zero_add])
      rfl
    · have hd : decide ((spBase 1 2 gk : Nat) > (n : Int)) = true := by simp; omega
      obtain ⟨j, rfl⟩ : ∃ j, gk = j + 1 := ⟨gk - 1, by
        rcases Nat.eq_zero_or_pos gk with h0 | h0
        · subst h0; exact absurd hn h
        · omega⟩
      have HX2 : Hid (spIdx 1 2 n 29 = spIdx 1 2 n j) := Lib.hid (by rw [HX.out]; exact spIdx_down (by omega))
      generalize spBase 1 2 (j + 1) = q at *
      go_wp2
      go_roundg j
      case measure => omega
      case rel => exact ⟨j, by go_num, by omega, rfl, HX2, rfl⟩
theorem results_tmp4 {fn : Func} {t u v x : Tmp} (h : fn.results = #[.tmp t, .tmp u, .tmp v, .tmp x]) (tmps : Array Value) (P : Program) (w : World) :
    (results fn tmps).run P w = .ok (.tuple #[tmps.getD t undef, tmps.getD u undef, tmps.getD v undef, tmps.getD x undef]) w := by
  simp [results, h]
/-- a symbol, its further bits, their number, what is wrong -/
def symV (y : SymN) : Value := .tuple #[.int .i64 y.s, .int .i64 y.b, .int .i64 y.v, .int .i64 y.e]
theorem ofLenP (n : Int) (hn1 : -9223372036854775808 ≤ n) (hn2 : n ≤ 9223372036854775807) (w : World) : Calls Try.prog 96 #[.int .i64 n] w fun e w' => e = .returned (symV (lenSy n)) ∧ ∃ x, w' = ext w x := by
  have HK := Lib.hid kd4
  obtain ⟨y, hy⟩ : ∃ y, y = lenSy n := ⟨_, rfl⟩
  rw [← hy]
  have HY := Lib.hid hy
  clear hy
  unfold lenSy at HY
  by_cases h : n < 3 ∨ 258 < n
  · have hor : decide (n < 3) = true ∨ (decide (n < 3) = false ∧ decide (n > 258) = true) := by
      by_cases h1 : n < 3
      · exact .inl (by simpa using h1)
      · exact .inr ⟨by simpa using h1, by rw [decide_eq_true_iff]; omega⟩
    rw [if_pos h] at HY
    clear h
    rcases hor with h | ⟨h1, h2⟩ <;>
    · go_enter Try.func96, Try.ntmps96
      go_wp2
      refine bodyPost_ret (results_tmp4 rfl _ _ _) rfl ?_
      exact ⟨by rw [HY.out]; rfl, (ex_ext (by repeat (first | exact Below.refl _ _ | assumption | refine b_drewN ?_ _ | refine Below.drew ?_ | refine b_ext' ?_ _ | refine b_alloc' ?_ _)))⟩
  · rw [if_neg h] at HY
    have h1 : decide (n < 3) = false := by rw [decide_eq_false_iff_not]; omega
    have h2 : decide (n > 258) = false := by rw [decide_eq_false_iff_not]; omega
    by_cases h3 : n = 258
    · rw [if_pos h3] at HY
      subst h3
      clear h h1 h2
      go_enter Try.func96, Try.ntmps96
      go_wp2
      refine bodyPost_ret (results_tmp4 rfl _ _ _) rfl ?_
      exact ⟨by rw [HY.out]; rfl, (ex_ext (by repeat (first | exact Below.refl _ _ | assumption | refine b_drewN ?_ _ | refine Below.drew ?_ | refine b_ext' ?_ _ | refine b_alloc' ?_ _)))⟩
    · rw [if_neg h3] at HY
      have h3i : (n == 258) = false := by simpa using h3
      obtain ⟨m, rfl⟩ : ∃ m : Nat, n = m := ⟨n.toNat, by omega⟩
      rw [Int.toNat_natCast] at HY
      have HSY := Lib.hid (fun W => symP4 m (by omega) (by omega) W)
      rw [← HY.out] at HSY
      have HE : Hid (y.e = 0) := Lib.hid (by rw [HY.out]; rfl)
      clear h h3 HY
      go_enter Try.func96, Try.ntmps96
      go_wp2_with (first | (go_at_call 118; (with_reducible refine (HK.out _).mono ?_); rintro e w2 ⟨rfl, x2, rfl⟩) | (go_at_call 119; (with_reducible refine (HSY.out _).mono ?_); rintro e w3 ⟨rfl, x3, rfl⟩))
      refine bodyPost_ret (results_tmp4 rfl _ _ _) rfl ?_
      refine ⟨?_, (ex_ext (by repeat (first | exact Below.refl _ _ | assumption | refine b_drewN ?_ _ | refine Below.drew ?_ | refine b_ext' ?_ _ | refine b_alloc' ?_ _)))⟩
      unfold symV
      rw [HE.out]
      rfl
theorem ofDstP (n : Int) (hn1 : -9223372036854775808 ≤ n) (hn2 : n ≤ 9223372036854775807) (w : World) : Calls Try.prog 97 #[.int .i64 n] w fun e w' => e = .returned (symV (dstSy n)) ∧ ∃ x, w' = ext w x := by
  have HK := Lib.hid kd2
  obtain ⟨y, hy⟩ : ∃ y, y = dstSy n := ⟨_, rfl⟩
  rw [← hy]
  have HY := Lib.hid hy
  clear hy
  unfold dstSy at HY
  by_cases h : n < 1 ∨ 32768 < n
  · have hor : decide (n < 1) = true ∨ (decide (n < 1) = false ∧ decide (n > 32768) = true) := by
      by_cases h1 : n < 1
      · exact .inl (by simpa using h1)
      · exact .inr ⟨by simpa using h1, by rw [decide_eq_true_iff]; omega⟩
    rw [if_pos h] at HY
    clear h
    rcases hor with h | ⟨h1, h2⟩ <;>
    · go_enter Try.func97, Try.ntmps97
      go_wp2
      refine bodyPost_ret (results_tmp4 rfl _ _ _) rfl ?_
      exact ⟨by rw [HY.out]; rfl, (ex_ext (by repeat (first | exact Below.refl _ _ | assumption | refine b_drewN ?_ _ | refine Below.drew ?_ | refine b_ext' ?_ _ | refine b_alloc' ?_ _)))⟩
  · rw [if_neg h] at HY
    have h1 : decide (n < 1) = false := by rw [decide_eq_false_iff_not]; omega
    have h2 : decide (n > 32768) = false := by rw [decide_eq_false_iff_not]; omega
    obtain ⟨m, rfl⟩ : ∃ m : Nat, n = m := ⟨n.toNat, by omega⟩
    rw [Int.toNat_natCast] at HY
    have HSY := Lib.hid (fun W => symP2 m (by omega) (by omega) W)
    rw [← HY.out] at HSY
    have HE : Hid (y.e = 0) := Lib.hid (by rw [HY.out]; rfl)
    clear h HY
    go_enter Try.func97, Try.ntmps97
    go_wp2_with (first | (go_at_call 120; (with_reducible refine (HK.out _).mono ?_); rintro e w2 ⟨rfl, x2, rfl⟩) | (go_at_call 119; (with_reducible refine (HSY.out _).mono ?_); rintro e w3 ⟨rfl, x3, rfl⟩))
    refine bodyPost_ret (results_tmp4 rfl _ _ _) rfl ?_
    refine ⟨?_, (ex_ext (by repeat (first | exact Below.refl _ _ | assumption | refine b_drewN ?_ _ | refine Below.drew ?_ | refine b_ext' ?_ _ | refine b_alloc' ?_ _)))⟩
    unfold symV
    rw [HE.out]
    rfl
end Go.Cm

/- The walks of the program's coder: a symbol with its further bits; an op. Conditions: the coder is there, the lengths lie beside it. -/
namespace Go.Cm
open Go.RowKit Go.Proofs

/-- a symbol, and further bits, till one has no code -/
def cPut (l : List Int) (sym : Int) (bits v : Nat) (x : Nat × Nat × Nat) : Nat × Nat × Nat :=
  if x.1 ≠ 0 then x else if errW l sym ≠ 0 then (errW l sym, x.2) else (0, (numW l sym x.2).1 + v * 2 ^ (numW l sym x.2).2, (numW l sym x.2).2 + bits)
def cOp (l1 l2 : List Int) (o : OpN) (x : Nat × Nat × Nat) : Nat × Nat × Nat :=
  if o.len = 0 then cPut l1 o.lit 0 0 x else cPut l2 (dstSy o.dist).s (dstSy o.dist).b (dstSy o.dist).v (cPut l1 (lenSy o.len).s (lenSy o.len).b (lenSy o.len).v x)
def cOps (l1 l2 : List Int) (ops : List OpN) (x : Nat × Nat × Nat) : Nat × Nat × Nat := ops.foldl (fun x o => cOp l1 l2 o x) x
def cAll (l1 l2 : List Int) (ops : List OpN) (st : Nat × Nat) : Nat × Nat × Nat := cPut l1 256 0 0 (cOps l1 l2 ops (0, st))
theorem cPut_stuck {l : List Int} {sym : Int} {bits v : Nat} {x : Nat × Nat × Nat} (h : x.1 ≠ 0) : cPut l sym bits v x = x := if_pos h
theorem cOp_stuck {l1 l2 : List Int} {o : OpN} {x : Nat × Nat × Nat} (h : x.1 ≠ 0) : cOp l1 l2 o x = x := by
  unfold cOp; rw [cPut_stuck h, cPut_stuck h, cPut_stuck h]; split <;> rfl
theorem cOps_stuck {l1 l2 : List Int} {x : Nat × Nat × Nat} (h : x.1 ≠ 0) : ∀ ops, cOps l1 l2 ops x = x
  | [] => rfl
  | o :: ops => by unfold cOps; rw [List.foldl_cons, cOp_stuck h]; exact cOps_stuck h ops
theorem cOps_snoc {l1 l2 : List Int} {x : Nat × Nat × Nat} (ops : List OpN) (o : OpN) : cOps l1 l2 (ops ++ [o]) x = cOp l1 l2 o (cOps l1 l2 ops x) := by unfold cOps; rw [List.foldl_append]; rfl
theorem numW_len (l : List Int) (sym : Int) (st : Nat × Nat) : st.2 ≤ (numW l sym st).2 ∧ (numW l sym st).2 ≤ st.2 + 15 := by
  unfold numW
  by_cases h : errW l sym = 0
  · rw [if_pos h]
    refine ⟨Nat.le_add_right _ _, Nat.add_le_add_left ?_ _⟩
    have h0 : errI l = 0 := by
      apply Classical.byContradiction; intro hn
      rw [errW_codes hn] at h; exact hn h
    obtain ⟨L, rfl, -, h15, -⟩ := errI_zero h0
    rw [nls_getD, Int.toNat_natCast]
    rcases Nat.lt_or_ge sym.toNat L.length with h1 | h1
    · exact h15 _ (getD_mem L _ 0 h1)
    · rw [List.getD_eq_getElem?_getD, List.getElem?_eq_none h1]; exact Nat.zero_le _
  · rw [if_neg h]; exact ⟨Nat.le_refl _, Nat.le_add_right _ _⟩
theorem cPut_len (l : List Int) (sym : Int) (bits v : Nat) (x : Nat × Nat × Nat) : x.2.2 ≤ (cPut l sym bits v x).2.2 ∧ (cPut l sym bits v x).2.2 ≤ x.2.2 + 15 + bits := by
  have := numW_len l sym x.2
  unfold cPut
  split
  · exact ⟨Nat.le_refl _, by omega⟩
  · split
    · exact ⟨Nat.le_refl _, by simp only; omega⟩
    · simp only; omega
theorem lenSy_b (n : Int) : (lenSy n).b ≤ 5 ∧ (lenSy n).v < 2 ^ (lenSy n).b := by
  by_cases h : n < 3 ∨ 258 < n
  · unfold lenSy; rw [if_pos h]; exact ⟨Nat.zero_le _, by decide⟩
  · exact ⟨(lenSy_fits h).2.1, (lenSy_fits h).1⟩
theorem dstSy_b (n : Int) : (dstSy n).b ≤ 13 ∧ (dstSy n).v < 2 ^ (dstSy n).b := by
  by_cases h : n < 1 ∨ 32768 < n
  · unfold dstSy; rw [if_pos h]; exact ⟨Nat.zero_le _, by decide⟩
  · exact ⟨(dstSy_fits h).2.1, (dstSy_fits h).1⟩
theorem cOp_len (l1 l2 : List Int) (o : OpN) (x : Nat × Nat × Nat) : x.2.2 ≤ (cOp l1 l2 o x).2.2 ∧ (cOp l1 l2 o x).2.2 ≤ x.2.2 + 48 := by
  unfold cOp
  split
  · have := cPut_len l1 o.lit 0 0 x; omega
  · have h1 := cPut_len l1 (lenSy o.len).s (lenSy o.len).b (lenSy o.len).v x
    have h2 := cPut_len l2 (dstSy o.dist).s (dstSy o.dist).b (dstSy o.dist).v (cPut l1 (lenSy o.len).s (lenSy o.len).b (lenSy o.len).v x)
    have h3 := (lenSy_b o.len).1
    have h4 := (dstSy_b o.dist).1
    omega
theorem cOps_len (l1 l2 : List Int) : ∀ (ops : List OpN) (x : Nat × Nat × Nat), x.2.2 ≤ (cOps l1 l2 ops x).2.2 ∧ (cOps l1 l2 ops x).2.2 ≤ x.2.2 + 48 * ops.length
  | [], x => ⟨Nat.le_refl _, Nat.le_add_right _ _⟩
  | o :: ops, x => by
    have h1 := cOp_len l1 l2 o x
    have h2 := cOps_len l1 l2 ops (cOp l1 l2 o x)
    have e : cOps l1 l2 (o :: ops) x = cOps l1 l2 ops (cOp l1 l2 o x) := rfl
    rw [e, List.length_cons]
    omega
/-- what a coder in block gc over a writer in block g leaves alone -/
def FrC (g gc : Nat) (vb vb' : Value) (w w' : World) : Prop := (∀ k, k < w.heap.size → k ≠ g → k ≠ gc → vb.ownBlock ≠ some k → w'.heap[k]? = w.heap[k]?) ∧ (∀ k, vb'.ownBlock = some k → vb.ownBlock = some k ∨ w.heap.size ≤ k) ∧ w.heap.size ≤ w'.heap.size
theorem FrC.of {g gc : Nat} {vb vb' : Value} {w w' : World} (h : Fr g vb vb' w w') : FrC g gc vb vb' w w' := ⟨fun k hk h1 _ h3 => h.1 k hk h1 h3, h.2⟩
theorem FrC.refl (g gc : Nat) (vb : Value) (w : World) : FrC g gc vb vb w w := ⟨fun _ _ _ _ _ => rfl, fun _ h => .inl h, Nat.le_refl _⟩
theorem FrC.trans {g gc : Nat} {vb vb' vc : Value} {w w1 w2 : World} (h : FrC g gc vb vb' w w1) (k : FrC g gc vb' vc w1 w2) : FrC g gc vb vc w w2 := by
  refine ⟨fun q hq h1 h2 h3 => ?_, fun q hq => ?_, Nat.le_trans h.2.2 k.2.2⟩
  · rw [k.1 q (Nat.lt_of_lt_of_le hq h.2.2) h1 h2 ?_, h.1 q hq h1 h2 h3]
    intro e
    rcases h.2.1 q e with z | z
    · exact h3 z
    · omega
  · rcases k.2.1 q hq with z | z
    · exact h.2.1 q z
    · exact .inr (Nat.le_trans h.2.2 z)
theorem FrC.below {g gc : Nat} {vb vb' : Value} {w w1 w2 : World} (h : FrC g gc vb vb' w w1) (hb : Below w1.heap.size w1 w2) : FrC g gc vb vb' w w2 :=
  ⟨fun k hk h1 h2 h3 => by rw [hb.block k (Nat.lt_of_lt_of_le hk h.2.2), h.1 k hk h1 h2 h3], h.2.1, Nat.le_trans h.2.2 hb.size⟩
theorem FrC.cell {g gc : Nat} {vb : Value} {w : World} (c : Nat) (v : Value) : FrC g gc vb vb w (w.setCell ⟨gc, c, none⟩ v) :=
  ⟨fun k _ _ h2 _ => by rw [heap_setCell_other _ _ _ _ (by exact h2)], fun _ h => .inl h, by simp⟩
/-- a list of lengths that stays while the coder works -/
def Stay (g gc : Nat) (vb : Value) (w : World) (v : Value) (l : List Int) : Prop := ∀ W vb', FrC g gc vb vb' w W → IntsAt W v l
theorem Stay.next {g gc : Nat} {vb vb' : Value} {w w' : World} {v : Value} {l : List Int} (h : Stay g gc vb w v l) (hf : FrC g gc vb vb' w w') : Stay g gc vb' w' v l := fun W vc hc => h W vc (hf.trans hc)
/-- the coder, what is wrong and the bits -/
structure CdV (w : World) (B g gc : Nat) (vb vl vd : Value) (x : Nat × Nat × Nat) : Prop where
  wr : WrtV w B g x.2.1 x.2.2 vb
  cd : Own w B 118 (.slice (some ⟨gc, 0, none⟩) 4 4) [.pointer (some ⟨g, 0, none⟩), vl, vd, .int .i64 (x.1 : Nat)]
  ne : vb.ownBlock ≠ some gc
  gg : gc ≠ g
theorem CdV.up {w w' : World} {B g gc : Nat} {vb vl vd : Value} {x : Nat × Nat × Nat} (h : CdV w B g gc vb vl vd x) (hb : Below w.heap.size w w') : CdV w' B g gc vb vl vd x := ⟨h.wr.up hb, h.cd.up hb, h.ne, h.gg⟩
/-- the writer has written, the coder is told what is wrong -/
theorem CdV.told {w w1 : World} {B g gc N L : Nat} {vb vb1 vl vd : Value} {x : Nat × Nat × Nat} (h : CdV w B g gc vb vl vd x) (hw : WrtV w1 B g N L vb1) (hf : Fr g vb vb1 w w1) (hb : Below B w w1) (er : Nat) :
    CdV (w1.setCell ⟨gc, 3, none⟩ (.int .i64 (er : Nat))) B g gc vb1 vl vd (er, N, L) ∧ FrC g gc vb vb1 w (w1.setCell ⟨gc, 3, none⟩ (.int .i64 (er : Nat))) ∧ Below B w (w1.setCell ⟨gc, 3, none⟩ (.int .i64 (er : Nat))) := by
  have hcd : Own w1 B 118 (.slice (some ⟨gc, 0, none⟩) 4 4) [.pointer (some ⟨g, 0, none⟩), vl, vd, .int .i64 (x.1 : Nat)] := h.cd.of_blk fun k hk => by
    have e : some gc = some k := hk
    injection e with e
    subst e
    exact hf.1 gc h.cd.blk.2 h.gg h.ne
  have hne : vb1.ownBlock ≠ some gc := fun e => by
    rcases hf.2.1 gc e with q | q
    · exact h.ne q
    · have := h.cd.blk.2; omega
  have hst := hcd.store 3 (.int .i64 (er : Nat))
  refine ⟨⟨⟨hw.box.keep hst.2 (fun e => h.gg (Option.some.inj e)), hw.own.keep hst.2 (.inr hne), hw.ne, hw.ge, hw.lt⟩, hst.1, hne, h.gg⟩, (FrC.of hf).trans (FrC.cell 3 _), hb.grown hst.2 (Nat.le_trans (by have := h.wr.ge; have := h.wr.box.lt; omega) hb.size) (fun k e => by cases e; exact h.cd.blk.1)⟩
/-- the writer has written, the coder is as it was -/
theorem CdV.wrote {w w1 : World} {B g gc N L : Nat} {vb vb1 vl vd : Value} {x : Nat × Nat × Nat} (h : CdV w B g gc vb vl vd x) (hw : WrtV w1 B g N L vb1) (hf : Fr g vb vb1 w w1) : CdV w1 B g gc vb1 vl vd (x.1, N, L) := by
  refine ⟨hw, h.cd.of_blk fun k hk => ?_, fun e => ?_, h.gg⟩
  · have e : some gc = some k := hk
    injection e with e
    subst e
    exact hf.1 gc h.cd.blk.2 h.gg h.ne
  · rcases hf.2.1 gc e with q | q
    · exact h.ne q
    · have := h.cd.blk.2; omega
set_option maxRecDepth 100000 in
theorem putCP {w : World} {B g gc : Nat} {vb vl vd : Value} {x : Nat × Nat × Nat} (h : CdV w B g gc vb vl vd x) (v : Value) (l : List Int) (hs : Stay g gc vb w v l) (sym : Int) (bits z : Nat) (hz : z < 2 ^ bits) (hb : bits ≤ 13) (hL : x.2.2 ≤ 1000000000) :
    Calls Try.prog 73 #[.pointer (some ⟨gc, 0, none⟩), v, .int .i64 sym, .int .i64 bits, .int .i64 z] w fun e w' => e = .returned (.tuple #[]) ∧ ∃ vb', CdV w' B g gc vb' vl vd (cPut l sym bits z x) ∧ FrC g gc vb vb' w w' ∧ Below B w w' := by
  have c0 : w.cell? ⟨gc, 0, none⟩ = some (.pointer (some ⟨g, 0, none⟩)) := h.cd.cell (by simp)
  have c3 : w.cell? ⟨gc, 3, none⟩ = some (.int .i64 (x.1 : Nat)) := h.cd.cell (by simp)
  have f3 := h.cd.free 3
  have hgc := h.cd.blk.2
  have HW := Lib.hid (writeVF v l sym (hs w vb (FrC.refl _ _ _ _)) (fun W vb' hf => hs W vb' (FrC.of hf)) h.wr (by omega))
  have HH := Lib.hid h
  have HNL := Lib.hid (numW_len l sym x.2)
  obtain ⟨er, N, L⟩ := x
  simp only at hL c3 HW HNL
  unfold RetV at HW
  by_cases hx : er = 0
  · subst hx
    obtain ⟨y, hy⟩ : ∃ y, y = cPut l sym bits z (0, N, L) := ⟨_, rfl⟩
    rw [← hy]
    have HY := Lib.hid hy
    unfold cPut at HY
    rw [if_neg (fun h => h rfl)] at HY
    clear hy h hs
    generalize hnw : numW l sym (N, L) = nl at *
    obtain ⟨N1, L1⟩ := nl
    simp only at HW HNL HY
    by_cases he : errW l sym = 0
    · rw [he] at HW
      have HYE : Hid (y = (0, N1 + z * 2 ^ L1, L1 + bits)) := Lib.hid (by rw [HY.out, if_neg (by omega)])
      have HPT := Lib.hid (fun (W : World) (vb1 : Value) (hv : WrtV W B g N1 L1 vb1) => putV hv z bits hz (by omega) (by have := HNL.out; omega))
      have hgc2 := HH.out.gg
      clear HY hnw he
      go_enter Try.func73, Try.ntmps73
      go_wp2_with (first
        | (go_at_call 98; (with_reducible refine HW.out.mono ?_); rintro e w1 ⟨rfl, vb1, hq1, hq2, hf1⟩; obtain ⟨ht1, ht2, ht3⟩ := HH.out.told hq1 hf1 hq2 0; have HT1 := Lib.hid ht1; have HT2 := Lib.hid ht2; have HT3 := Lib.hid ht3; have hcd1 := HH.out.cd.of_blk (w' := w1) (fun k hk => by have e : some gc = some k := hk; injection e with e; subst e; exact hf1.1 gc HH.out.cd.blk.2 HH.out.gg HH.out.ne); have f31 := hcd1.free 3; have c31 : w1.cell? ⟨gc, 3, none⟩ = some (.int .i64 0) := hcd1.cell (by simp); have c01 : w1.cell? ⟨gc, 0, none⟩ = some (.pointer (some ⟨g, 0, none⟩)) := hcd1.cell (by simp); have hgc1 := hcd1.blk.2; rw [show ((0 : Nat) : Int) = 0 from rfl] at HT1 HT2 HT3; clear hq1 hq2 hf1 ht1 ht2 ht3 hcd1)
        | (go_at_call 65; (with_reducible refine (HPT.out _ _ HT1.out.wr).mono ?_); rintro e w2 ⟨rfl, vb2, hq1, hq2, hf1⟩; have HQ1 := Lib.hid hq1; have HQ2 := Lib.hid hq2; have HF1 := Lib.hid hf1; clear hq1 hq2 hf1))
      go_end0
      refine ⟨rfl, vb2, ?_, HT2.out.trans (FrC.of HF1.out), HT3.out.trans HQ2.out⟩
      rw [HYE.out]
      exact HT1.out.wrote HQ1.out HF1.out
    · have HYE : Hid (y = (errW l sym, N, L)) := Lib.hid (by rw [HY.out, if_pos he])
      have hnw2 : (N1, L1) = (N, L) := by rw [← hnw]; exact numW_bad he
      injection hnw2 with e1 e2
      subst e1 e2
      clear HY hnw HNL
      generalize errW l sym = q at *
      have hqi : ((q : Int) == 0) = false := by simpa using he
      clear he
      go_enter Try.func73, Try.ntmps73
      go_wp2_with (go_at_call 98; (with_reducible refine HW.out.mono ?_); rintro e w1 ⟨rfl, vb1, hq1, hq2, hf1⟩; obtain ⟨ht1, ht2, ht3⟩ := HH.out.told hq1 hf1 hq2 q; have HT1 := Lib.hid ht1; have HT2 := Lib.hid ht2; have HT3 := Lib.hid ht3; have hcd1 := HH.out.cd.of_blk (w' := w1) (fun k hk => by have e : some gc = some k := hk; injection e with e; subst e; exact hf1.1 gc HH.out.cd.blk.2 HH.out.gg HH.out.ne); have f31 := hcd1.free 3; have c31 : w1.cell? ⟨gc, 3, none⟩ = some (.int .i64 0) := hcd1.cell (by simp); have c01 : w1.cell? ⟨gc, 0, none⟩ = some (.pointer (some ⟨g, 0, none⟩)) := hcd1.cell (by simp); have hgc1 := hcd1.blk.2; clear hq1 hq2 hf1 ht1 ht2 ht3 hcd1)
      go_end0
      refine ⟨rfl, vb1, ?_, HT2.out, HT3.out⟩
      rw [HYE.out]
      exact HT1.out
  · have HE : Hid (cPut l sym bits z (er, N, L) = (er, N, L)) := Lib.hid (cPut_stuck hx)
    have hxi : ((er : Int) == 0) = false := by simpa using hx
    rw [HE.out]
    clear HW hx HNL h hs
    go_enter Try.func73, Try.ntmps73
    go_wp2
    go_end0
    exact ⟨rfl, vb, HH.out, FrC.refl _ _ _ _, Below.refl _ _⟩
set_option maxRecDepth 100000 in
theorem opCP {w : World} {B g gc : Nat} {vb vl vd : Value} {x : Nat × Nat × Nat} (h : CdV w B g gc vb vl vd x) (l1 l2 : List Int) (hs1 : Stay g gc vb w vl l1) (hs2 : Stay g gc vb w vd l2) (o : OpN) (ho : o.lit < 256) (hn1 : -9223372036854775808 ≤ o.len) (hn2 : o.len ≤ 9223372036854775807) (hd1 : -9223372036854775808 ≤ o.dist) (hd2 : o.dist ≤ 9223372036854775807) (hL : x.2.2 ≤ 900000000) :
    Calls Try.prog 72 #[.pointer (some ⟨gc, 0, none⟩), .agg #[.int .u8 o.lit, .int .i64 o.len, .int .i64 o.dist]] w fun e w' => e = .returned (.tuple #[]) ∧ ∃ vb', CdV w' B g gc vb' vl vd (cOp l1 l2 o x) ∧ FrC g gc vb vb' w w' ∧ Below B w w' := by
  obtain ⟨ol, on, od⟩ := o
  simp only at ho hn1 hn2 hd1 hd2
  obtain ⟨w1, hw1⟩ : ∃ w1, w1 = w.alloc (.cells #[.int .u8 (ol : Nat), .int .i64 on, .int .i64 od] 75) := ⟨_, rfl⟩
  have hb1 : Below w.heap.size w w1 := by rw [hw1]; exact below_alloc _ _
  have hop := op_box w ol on od
  rw [← hw1] at hop
  have HW1 := Lib.hid hw1
  have HH := Lib.hid (h.up hb1)
  have HF := Lib.hid ((FrC.refl g gc vb w).below hb1)
  have hBw : B ≤ w.heap.size := by have := h.cd.blk; omega
  have HBL := Lib.hid (hb1.mono hBw)
  have HOP := Lib.hid hop
  have p0 : w1.cell? ⟨w.heap.size, 0, none⟩ = some (.int .u8 (ol : Nat)) := hop.cell (by simp [opV])
  have p1 : w1.cell? ⟨w.heap.size, 1, none⟩ = some (.int .i64 on) := hop.cell (by simp [opV])
  have hp := hop.blk.2
  have hgc := HH.out.cd.blk.2
  have c1 : w1.cell? ⟨gc, 1, none⟩ = some vl := HH.out.cd.cell (by simp)
  obtain ⟨y, hy⟩ : ∃ y, y = cOp l1 l2 ⟨ol, on, od⟩ x := ⟨_, rfl⟩
  rw [← hy]
  have HY := Lib.hid hy
  unfold cOp at HY
  simp only at HY
  have HS1 := Lib.hid (hs1.next HF.out)
  have HS2 := Lib.hid (hs2.next HF.out)
  have hqb : w.heap.size ≠ g := by have := h.wr.box.lt; omega
  have hqc : w.heap.size ≠ gc := by have := h.cd.blk.2; omega
  have HVQ : Hid (vb.ownBlock ≠ some w.heap.size) := Lib.hid (fun e => by have := (h.wr.own.lt _ e).2; omega)
  clear hy hw1 hb1 hop h hs1 hs2
  by_cases hn : on = 0
  · rw [if_pos hn] at HY
    subst hn
    have HP := Lib.hid (fun (W : World) (hb : Below w1.heap.size w1 W) => putCP (HH.out.up hb) vl l1 (HS1.out.next ((FrC.refl g gc vb w1).below hb)) ol 0 0 (by decide) (by omega) (by omega))
    rw [show ((0 : Nat) : Int) = 0 from rfl, ← HY.out] at HP
    go_enter Try.func72, Try.ntmps72
    go_upto_region 1 with fail
    rw [← HW1.out]
    go_wp2
    refine wp_region_tailg [0,1,2,3,4,5,6,7] [] [8] (by kernel_rfl) (by kernel_rfl) ?_
    simp only [pick, List.map_cons, List.map_nil, List.getD_cons_zero, List.getD_cons_succ]
    repeat (go_big_quiet_step (fail))
    refine wpQuiet_nil ?_
    unfold wpAct
    unfold wpAct
    go_wp2_with (go_at_call 73; (with_reducible refine (HP.out _ (b_drew1 (Below.refl _ _))).mono ?_); rintro e w3 ⟨rfl, vb3, hq1, hq2, hq3⟩; have HQ1 := Lib.hid hq1; have HQ2 := Lib.hid hq2; have HQ3 := Lib.hid hq3; clear hq1 hq2 hq3)
    refine ⟨trivial, ?_⟩
    unfold wpAct
    go_wp2
    ((try simp only [Exit.inBlock, Exit.then]); refine bodyPost_ret (results_none rfl _ _ _) rfl ?_)
    exact ⟨rfl, vb3, HQ1.out, ((HF.out.below (below_drewN w1 1)).trans (World.drew_is_drewN w1 ▸ HQ2.out)), (HBL.out.trans ((below_drewN w1 1).mono (Nat.le_trans hBw (Nat.le_of_lt hp)))).trans (World.drew_is_drewN w1 ▸ HQ3.out)⟩
  · rw [if_neg hn] at HY
    have hni : (on == 0) = false := by simpa using hn
    obtain ⟨hlb, hlv⟩ := lenSy_b on
    obtain ⟨hdb, hdv⟩ := dstSy_b od
    have HOL := Lib.hid (ofLenP on hn1 hn2)
    have HOD := Lib.hid (ofDstP od hd1 hd2)
    obtain ⟨s, hs⟩ : ∃ s, s = lenSy on := ⟨_, rfl⟩
    obtain ⟨d, hd⟩ : ∃ d, d = dstSy od := ⟨_, rfl⟩
    rw [← hs] at hlb hlv HOL HY
    rw [← hd] at hdb hdv HOD HY
    clear hs hd hn
    obtain ⟨ss, sb, sv, se⟩ := s
    obtain ⟨ds, db, dv, de⟩ := d
    simp only at hlb hlv hdb hdv HY
    unfold symV at HOL HOD
    simp only at HOL HOD
    have HP1 := Lib.hid (fun (W : World) (hb : Below w1.heap.size w1 W) => putCP (HH.out.up hb) vl l1 (HS1.out.next ((FrC.refl g gc vb w1).below hb)) ss sb sv hlv (by omega) (by omega))
    have HLN := Lib.hid (cPut_len l1 ss sb sv x)
    generalize hx1 : cPut l1 ss sb sv x = x1 at *
    have HP2 : Hid (∀ (W : World) (vb1 : Value), CdV W B g gc vb1 vl vd x1 → FrC g gc vb vb1 w1 W → Calls Try.prog 73 #[.pointer (some ⟨gc, 0, none⟩), vd, .int .i64 ds, .int .i64 db, .int .i64 dv] W fun e w' => e = .returned (.tuple #[]) ∧ ∃ vb', CdV w' B g gc vb' vl vd y ∧ FrC g gc vb1 vb' W w' ∧ Below B W w') := Lib.hid (fun W vb1 hc hf => by
      rw [HY.out]
      exact putCP hc vd l2 (HS2.out.next hf) ds db dv hdv (by omega) (by have := HLN.out; omega))
    clear hx1 HY HLN
    go_enter Try.func72, Try.ntmps72
    go_upto_region 1 with fail
    rw [← HW1.out]
    go_upto_region 4 with (go_at_call 96; (with_reducible refine (HOL.out _).mono ?_); rintro e w2 ⟨rfl, x2, rfl⟩)
    have hX2 := ext_below w1 x2
    have HX2 := Lib.hid hX2
    have c12 : (ext w1 x2).cell? ⟨gc, 1, none⟩ = some vl := (hX2.cell (p := ⟨gc, 1, none⟩) hgc).trans c1
    have hgc2 : gc < (ext w1 x2).heap.size := Nat.lt_of_lt_of_le hgc hX2.size
    clear hX2 c1 p0 p1 hgc
    generalize ext w1 x2 = w2 at *
    go_upto_region 5 with (go_at_call 73; (with_reducible refine (HP1.out _ HX2.out).mono ?_); rintro e w3 ⟨rfl, vb3, hq1, hq2, hq3⟩; have HQ1 := Lib.hid hq1; have HQ2 := Lib.hid (((FrC.refl g gc vb w1).below HX2.out).trans hq2); have HQ3 := Lib.hid ((HBL.out.trans (HX2.out.mono (Nat.le_trans hBw (Nat.le_of_lt hp)))).trans hq3); clear hq1 hq2 hq3)
    have hop3 : Own w3 w.heap.size 75 (.slice (some ⟨w.heap.size, 0, none⟩) 3 3) (opV ⟨ol, on, od⟩) := HOP.out.of_blk fun k hk => by
      have e : some w.heap.size = some k := hk
      injection e with e
      subst e
      exact HQ2.out.1 _ hp hqb hqc HVQ.out
    have p2 : w3.cell? ⟨w.heap.size, 2, none⟩ = some (.int .i64 od) := hop3.cell (by simp [opV])
    have hp3 := hop3.blk.2
    clear hop3 c12 hgc2
    go_upto_region 6 with (go_at_call 97; (with_reducible refine (HOD.out _).mono ?_); rintro e w4 ⟨rfl, x4, rfl⟩)
    have hX4 := ext_below w3 x4
    have HX4 := Lib.hid hX4
    have c2 : (ext w3 x4).cell? ⟨gc, 2, none⟩ = some vd := (HQ1.out.up hX4).cd.cell (by simp)
    have hgc4 := (HQ1.out.up hX4).cd.blk.2
    clear hX4 p2
    generalize ext w3 x4 = w4 at *
    go_wp2_with (go_at_call 73; (with_reducible refine (HP2.out _ _ (HQ1.out.up HX4.out) (HQ2.out.below HX4.out)).mono ?_); rintro e w5 ⟨rfl, vb5, hq1, hq2, hq3⟩; have HR1 := Lib.hid hq1; have HR2 := Lib.hid hq2; have HR3 := Lib.hid hq3; clear hq1 hq2 hq3)
    go_end0
    exact ⟨rfl, vb5, HR1.out, (HF.out.trans (HQ2.out.below HX4.out)).trans HR2.out, (HQ3.out.trans (HX4.out.mono (Nat.le_trans hBw (Nat.le_of_lt hp3)))).trans HR3.out⟩
end Go.Cm

/- The walk of a coded block's writing. Conditions: the writer is there, the part lies below it. -/
namespace Go.Cm
open Go.RowKit Go.Proofs

theorem sl_heap {w W : World} {v : Value} {l : List Value} (h : Sl w v l) (hb : ∀ k, k < w.heap.size → W.heap[k]? = w.heap[k]?) (hs : w.heap.size ≤ W.heap.size) : Sl W v l := by
  obtain ⟨oa, cap, b, off, rfl, hd, hc⟩ := h
  refine ⟨oa, cap, b, off, rfl, ⟨hd.hat, hd.hcap, hd.hmax, hd.hsml, fun h => Nat.lt_of_lt_of_le (hd.hblk h) hs⟩, fun i hi => ?_⟩
  rw [World.cell?_of_block (w := w) (w' := W) (hb b (hd.hblk (by omega)))]
  exact hc i hi
theorem slK_heap {k : Nat} {w W : World} {v : Value} {l : List (List Value)} (h : SlK k w v l) (hb : ∀ k, k < w.heap.size → W.heap[k]? = w.heap[k]?) (hs : w.heap.size ≤ W.heap.size) : SlK k W v l := by
  obtain ⟨oa, cap, b, off, rfl, hd, hc⟩ := h
  refine ⟨oa, cap, b, off, rfl, ⟨hd.hat, hd.hcap, hd.hmax, hd.hsml, fun h => Nat.lt_of_lt_of_le (hd.hblk h) hs⟩, fun i hi c hcl => ?_⟩
  rw [World.cell?_of_block (w := w) (w' := W) (hb b (hd.hblk (by omega)))]
  exact hc i hi c hcl
/-- what lies below the writer stays -/
theorem FrC.low {w0 w W : World} {B g gc N L : Nat} {vb vb' : Value} (hf : FrC g gc vb vb' w W) (hw : WrtV w B g N L vb) (hgc : B ≤ gc) (hB0 : w0.heap.size ≤ B) (hb0 : Below w0.heap.size w0 w) : (∀ k, k < w0.heap.size → W.heap[k]? = w0.heap[k]?) ∧ w0.heap.size ≤ W.heap.size := by
  refine ⟨fun k hk => ?_, Nat.le_trans hb0.size hf.2.2⟩
  rw [hf.1 k (Nat.lt_of_lt_of_le hk hb0.size) (by have := hw.ge; omega) (by omega) (fun e => by have := (hw.own.lt k e).1; omega), hb0.block k hk]
theorem Stay.low {w0 w : World} {B g gc N L : Nat} {vb v : Value} {l : List Int} (h : IntsAt w0 v l) (hw : WrtV w B g N L vb) (hgc : B ≤ gc) (hB0 : w0.heap.size ≤ B) (hb0 : Below w0.heap.size w0 w) : Stay g gc vb w v l := fun W vb' hf => by
  obtain ⟨h1, h2⟩ := hf.low hw hgc hB0 hb0
  exact sl_heap h h1 h2
theorem Stay.own {w : World} {B' g gc : Nat} {vb v : Value} {l : List Int} (h : Own w B' 3 v (ints l)) (hk : ∀ k, v.ownBlock = some k → k ≠ g ∧ k ≠ gc ∧ vb.ownBlock ≠ some k) : Stay g gc vb w v l := fun W _vb' hf =>
  (h.of_blk (w' := W) fun k e => hf.1 k (h.lt k e).2 (hk k e).1 (hk k e).2.1 (hk k e).2.2).sl
theorem CdV.setl {w : World} {B g gc : Nat} {vb vl vd : Value} {x : Nat × Nat × Nat} (h : CdV w B g gc vb vl vd x) (v : Value) : CdV (w.setCell ⟨gc, 1, none⟩ v) B g gc vb v vd x ∧ w.grownBy (w.setCell ⟨gc, 1, none⟩ v) (some gc) := by
  have hst := h.cd.store 1 v
  exact ⟨⟨⟨h.wr.box.keep hst.2 (fun e => h.gg (Option.some.inj e)), h.wr.own.keep hst.2 (.inr h.ne), h.wr.ne, h.wr.ge, h.wr.lt⟩, hst.1, h.ne, h.gg⟩, hst.2⟩
theorem CdV.setd {w : World} {B g gc : Nat} {vb vl vd : Value} {x : Nat × Nat × Nat} (h : CdV w B g gc vb vl vd x) (v : Value) : CdV (w.setCell ⟨gc, 2, none⟩ v) B g gc vb vl v x ∧ w.grownBy (w.setCell ⟨gc, 2, none⟩ v) (some gc) := by
  have hst := h.cd.store 2 v
  exact ⟨⟨⟨h.wr.box.keep hst.2 (fun e => h.gg (Option.some.inj e)), h.wr.own.keep hst.2 (.inr h.ne), h.wr.ne, h.wr.ge, h.wr.lt⟩, hst.1, h.ne, h.gg⟩, hst.2⟩
def litsN (p : PtN) : List Int := if p.kind = 1 then nls fixL else p.lits
def distsN (p : PtN) : List Int := if p.kind = 1 then nls fixD else p.dists
/-- what an op may hold -/
structure OpOk (o : OpN) : Prop where
  lit : o.lit < 256
  n1 : -9223372036854775808 ≤ o.len
  n2 : o.len ≤ 9223372036854775807
  d1 : -9223372036854775808 ≤ o.dist
  d2 : o.dist ≤ 9223372036854775807
set_option maxRecDepth 100000 in
set_option maxHeartbeats 4000000 in
theorem codedP {w0 w : World} {B g N L : Nat} {vb : Value} (h : WrtV w B g N L vb) (hB0 : w0.heap.size ≤ B) (hb0 : Below w0.heap.size w0 w) (p : PtN) (oo o1 o2 : Option Addr) (oc c1 c2 : Nat)
    (hvo : SlK 3 w0 (.slice oo p.ops.length oc) (p.ops.map opV)) (hv1 : IntsAt w0 (.slice o1 p.lits.length c1) p.lits) (hv2 : IntsAt w0 (.slice o2 p.dists.length c2) p.dists) (hok : ∀ o ∈ p.ops, OpOk o) (hL : L + 48 * p.ops.length ≤ 800000000) :
    Calls Try.prog 45 #[.pointer (some ⟨g, 0, none⟩), .agg #[.int .i64 p.kind, .string p.text, .slice oo p.ops.length oc, .slice o1 p.lits.length c1, .slice o2 p.dists.length c2]] w fun e w' =>
      e = .returned (.int .i64 ((cAll (litsN p) (distsN p) p.ops (N, L)).1 : Nat)) ∧ WSt w B g vb (cAll (litsN p) (distsN p) p.ops (N, L)).2 w' := by
  obtain ⟨kd, tx, ops, lits, dists⟩ := p
  simp only at hvo hv1 hv2 hok hL
  unfold litsN distsN
  simp only
  have hBw : B ≤ w.heap.size := by have := h.ge; have := h.box.lt; omega
  have hgw := h.box.lt
  have hge := h.ge
  obtain ⟨q, hq⟩ : ∃ q, q = w.heap.size := ⟨_, rfl⟩
  obtain ⟨w1, hw1⟩ : ∃ w1, w1 = w.alloc (.cells #[.int .i64 kd, .string tx, .slice oo ops.length oc, .slice o1 lits.length c1, .slice o2 dists.length c2] 41) := ⟨_, rfl⟩
  have hb1 : Below w.heap.size w w1 := by rw [hw1]; exact below_alloc _ _
  have hs1 : w1.heap.size = w.heap.size + 1 := by rw [hw1]; simp
  have hpt := own_lit w w.heap.size #[.int .i64 kd, .string tx, .slice oo ops.length oc, .slice o1 lits.length c1, .slice o2 dists.length c2] 41 (by simp) (Nat.le_refl _)
  rw [← hw1] at hpt
  obtain ⟨w2, hw2⟩ : ∃ w2, w2 = w1.alloc (.cells #[.pointer (some ⟨g, 0, none⟩), .slice o1 lits.length c1, .slice o2 dists.length c2, .int .i64 0] 118) := ⟨_, rfl⟩
  have hb2 : Below w1.heap.size w1 w2 := by rw [hw2]; exact below_alloc _ _
  have hcd := own_lit w1 B #[.pointer (some ⟨g, 0, none⟩), .slice o1 lits.length c1, .slice o2 dists.length c2, .int .i64 0] 118 (by simp) (by omega)
  rw [← hw2, hs1] at hcd
  have hb12 : Below w.heap.size w w2 := hb1.trans (hb2.mono hb1.size)
  have hbk2 : ∀ k, vb.ownBlock = some k → k < w.heap.size := fun k e => (h.own.lt k e).2
  have hcv : CdV w2 B g (w.heap.size + 1) vb (.slice o1 lits.length c1) (.slice o2 dists.length c2) (0, N, L) := ⟨h.up hb12, hcd, fun e => by have := hbk2 _ e; omega, by omega⟩
  have HCV := Lib.hid hcv
  have HF2 : Hid (FrC g (w.heap.size + 1) vb vb w w2) := Lib.hid ((FrC.refl g (w.heap.size + 1) vb w).below hb12)
  have HB2 := Lib.hid (hb12.mono hBw)
  have HW1 := Lib.hid hw1
  have HW2 := Lib.hid hw2
  have HPT := Lib.hid (hpt.up hb2)
  have HVB := Lib.hid hbk2
  have HLOW : Hid (∀ W vb', FrC g (w.heap.size + 1) vb vb' w2 W → SlK 3 W (.slice oo ops.length oc) (ops.map opV)) := Lib.hid (fun W vb' hf => by
    obtain ⟨h1, h2⟩ := hf.low hcv.wr (by omega) hB0 (hb0.trans (hb12.mono hb0.size))
    exact slK_heap hvo h1 h2)
  have HST1 := Lib.hid (Stay.low hv1 hcv.wr (gc := w.heap.size + 1) (by omega) hB0 (hb0.trans (hb12.mono hb0.size)))
  have HST2 := Lib.hid (Stay.low hv2 hcv.wr (gc := w.heap.size + 1) (by omega) hB0 (hb0.trans (hb12.mono hb0.size)))
  have hno : ops.length ≤ 9223372036854775807 := by omega
  have p0 : w1.cell? ⟨w.heap.size, 0, none⟩ = some (.int .i64 kd) := hpt.cell (by simp)
  have p3 : w1.cell? ⟨w.heap.size, 3, none⟩ = some (.slice o1 lits.length c1) := hpt.cell (by simp)
  have p4 : w1.cell? ⟨w.heap.size, 4, none⟩ = some (.slice o2 dists.length c2) := hpt.cell (by simp)
  have hp1 := hpt.blk.2
  have q0 : w2.cell? ⟨w.heap.size, 0, none⟩ = some (.int .i64 kd) := HPT.out.cell (by simp)
  have q2 : w2.cell? ⟨w.heap.size, 2, none⟩ = some (.slice oo ops.length oc) := HPT.out.cell (by simp)
  have hq2 := HPT.out.blk.2
  have HS1 := Lib.hid hs1
  clear hq h hvo hv1 hv2 hw1 hw2 hb1 hb2 hb12 hpt hcd hcv hbk2 hs1 hB0 hb0
  obtain ⟨ya, hya⟩ : ∃ ya, ya = cAll (if kd = 1 then nls fixL else lits) (if kd = 1 then nls fixD else dists) ops (N, L) := ⟨_, rfl⟩
  rw [← hya]
  have HYA := Lib.hid hya
  clear hya
  by_cases hk : kd = 1
  · rw [if_pos hk, if_pos hk] at HYA
    subst hk
    clear HST1 HST2
    go_enter Try.func45, Try.ntmps45
    go_upto_region 1 with fail
    rw [← HW1.out]
    go_upto_region 2 with fail
    rw [← HW2.out, HS1.out]
    clear p0 p3 p4 hp1
    have hc0 : w2.cell? ⟨w.heap.size + 1, 0, none⟩ = some (.pointer (some ⟨g, 0, none⟩)) := HCV.out.cd.cell (by simp)
    have hgc2 := HCV.out.cd.blk.2
    go_upto_region 4 with (first
      | (go_at_call 70; (with_reducible refine (fixLP _).mono ?_); rintro e w3 ⟨v3, rfl, ho3, hb3⟩; have HO3 := Lib.hid ho3; have HB3 := Lib.hid hb3; obtain ⟨oa3, ca3, ga3, hv3, -⟩ := ho3.cases; subst hv3; generalize (ints (nls fixL)).length = n3 at *; clear ho3 hb3)
      | (go_at_call 71; (with_reducible refine (fixDP _).mono ?_); rintro e w4 ⟨v4, rfl, ho4, hb4⟩; have HO4 := Lib.hid ho4; have HB4 := Lib.hid hb4; obtain ⟨oa4, ca4, ga4, hv4, -⟩ := ho4.cases; subst hv4; generalize (ints (nls fixD)).length = n4 at *; have HC4 := Lib.hid ((HCV.out.up HB3.out).up HB4.out); have f41 := HC4.out.cd.free 1; have f42 := HC4.out.cd.free 2; have c41 : w4.cell? ⟨w.heap.size + 1, 1, none⟩ = some (.slice o1 lits.length c1) := HC4.out.cd.cell (by simp); have c42 : w4.cell? ⟨w.heap.size + 1, 2, none⟩ = some (.slice o2 dists.length c2) := HC4.out.cd.cell (by simp); have hg4 := HC4.out.cd.blk.2; clear ho4 hb4))
    have hC5 := HC4.out.setl (.slice oa3 n3 ca3)
    have hC6 := hC5.1.setd (.slice oa4 n4 ca4)
    have HC5 := Lib.hid hC6.1
    have hgr := grown_trans hC5.2 hC6.2
    have hl3 : ∀ k, (Value.slice oa3 n3 ca3).ownBlock = some k → w2.heap.size ≤ k ∧ k < w3.heap.size := fun k e => HO3.out.lt k e
    have hl4 : ∀ k, (Value.slice oa4 n4 ca4).ownBlock = some k → w3.heap.size ≤ k ∧ k < w4.heap.size := fun k e => HO4.out.lt k e
    have h23 := HB3.out.size
    have h34 := HB4.out.size
    have ho3 := (HO3.out.up HB4.out).keep hgr (by cases h : (Value.slice oa3 n3 ca3).ownBlock with
      | none => exact .inl rfl
      | some k => exact .inr (by intro e; injection e with e; have := hl3 k h; omega))
    have ho4 := HO4.out.keep hgr (by cases h : (Value.slice oa4 n4 ca4).ownBlock with
      | none => exact .inl rfl
      | some k => exact .inr (by intro e; injection e with e; have := hl4 k h; omega))
    have hF25 : FrC g (w.heap.size + 1) vb vb w2 ((w4.setCell ⟨w.heap.size + 1, 1, none⟩ (.slice oa3 n3 ca3)).setCell ⟨w.heap.size + 1, 2, none⟩ (.slice oa4 n4 ca4)) := (((FrC.refl g (w.heap.size + 1) vb w2).below (HB3.out.trans (HB4.out.mono h23))).trans (FrC.cell 1 _)).trans (FrC.cell 2 _)
    have HF5 := Lib.hid (HF2.out.trans hF25)
    have HB5 : Hid (Below B w ((w4.setCell ⟨w.heap.size + 1, 1, none⟩ (.slice oa3 n3 ca3)).setCell ⟨w.heap.size + 1, 2, none⟩ (.slice oa4 n4 ca4))) := Lib.hid (((HB2.out.trans (HB3.out.mono (Nat.le_trans hBw HF2.out.2.2))).trans (HB4.out.mono (by omega))).grown hgr (by omega) (fun k e => by cases e; omega))
    have hst1 := Stay.own (g := g) (gc := w.heap.size + 1) (vb := vb) ho3 (fun k e => by have := hl3 k e; refine ⟨by omega, by omega, fun e2 => ?_⟩; have := HVB.out k e2; omega)
    have hst2 := Stay.own (g := g) (gc := w.heap.size + 1) (vb := vb) ho4 (fun k e => by have := hl4 k e; refine ⟨by omega, by omega, fun e2 => ?_⟩; have := HVB.out k e2; omega)
    have HT1 := Lib.hid hst1
    have HT2 := Lib.hid hst2
    have hp5 := ((HPT.out.up HB3.out).up HB4.out).keep hgr (.inr (by intro e; have e2 : some w.heap.size = some (w.heap.size + 1) := e; injection e2 with e2; omega))
    have HP5 := Lib.hid hp5
    have HLO5 : Hid (∀ W vb', FrC g (w.heap.size + 1) vb vb' ((w4.setCell ⟨w.heap.size + 1, 1, none⟩ (.slice oa3 n3 ca3)).setCell ⟨w.heap.size + 1, 2, none⟩ (.slice oa4 n4 ca4)) W → SlK 3 W (.slice oo ops.length oc) (ops.map opV)) := Lib.hid (fun W vb' hf => HLOW.out W vb' (hF25.trans hf))
    clear hC5 hC6 hgr hl3 hl4 ho3 ho4 hF25 hst1 hst2 hp5 HC4 HO3 HO4 HB3 HB4 HCV HF2 HB2 HPT HLOW hc0 hgc2 f41 f42 c41 c42 hg4 q0 q2 hq2
    generalize (w4.setCell ⟨w.heap.size + 1, 1, none⟩ (.slice oa3 n3 ca3)).setCell ⟨w.heap.size + 1, 2, none⟩ (.slice oa4 n4 ca4) = w5 at *
    have q2 : w5.cell? ⟨w.heap.size, 2, none⟩ = some (.slice oo ops.length oc) := HP5.out.cell (by simp)
    have hq2 := HP5.out.blk.2
    obtain ⟨l1, hl1⟩ : ∃ l1, l1 = nls fixL := ⟨_, rfl⟩
    obtain ⟨l2, hl2⟩ : ∃ l2, l2 = nls fixD := ⟨_, rfl⟩
    rw [← hl1] at HYA HT1
    rw [← hl2] at HYA HT2
    obtain ⟨vl, hvl⟩ : ∃ vl, vl = Value.slice oa3 n3 ca3 := ⟨_, rfl⟩
    obtain ⟨vd, hvd⟩ : ∃ vd, vd = Value.slice oa4 n4 ca4 := ⟨_, rfl⟩
    rw [← hvl] at HC5 HT1
    rw [← hvd] at HC5 HT2
    clear hl1 hl2 hvl hvd
    have HTK : Hid (∀ k, (hk : k < ops.length) → cOps l1 l2 (ops.take (k + 1)) (0, N, L) = cOp l1 l2 ops[k] (cOps l1 l2 (ops.take k) (0, N, L))) := Lib.hid (fun k hk => by rw [List.take_succ_eq_append_getElem hk, cOps_snoc])
    have HLN : Hid (∀ k, k ≤ ops.length → (cOps l1 l2 (ops.take k) (0, N, L)).2.2 ≤ 800000000) := Lib.hid (fun k hk => by
      have := (cOps_len l1 l2 (ops.take k) (0, N, L)).2
      rw [List.length_take] at this
      have h2 : min k ops.length ≤ ops.length := Nat.min_le_right _ _
      have h3 : 48 * min k ops.length ≤ 48 * ops.length := Nat.mul_le_mul_left _ h2
      simp only at this
      omega)
    have HOKS : Hid (∀ k, (hk : k < ops.length) → OpOk ops[k]) := Lib.hid (fun k hk => hok _ (List.getElem_mem hk))
    have HQC : Hid (∀ (W : World) (vb1 : Value) (x : Nat × Nat × Nat) (o : OpN), CdV W B g (w.heap.size + 1) vb1 vl vd x → FrC g (w.heap.size + 1) vb vb1 w5 W → OpOk o → x.2.2 ≤ 800000000 → Calls Try.prog 72 #[.pointer (some ⟨w.heap.size + 1, 0, none⟩), .agg #[.int .u8 o.lit, .int .i64 o.len, .int .i64 o.dist]] W fun e w' => e = .returned (.tuple #[]) ∧ ∃ vb', CdV w' B g (w.heap.size + 1) vb' vl vd (cOp l1 l2 o x) ∧ FrC g (w.heap.size + 1) vb1 vb' W w' ∧ Below B W w') := Lib.hid (fun W vb1 x o hc hf ho hl => opCP hc l1 l2 (HT1.out.next hf) (HT2.out.next hf) o ho.lit ho.n1 ho.n2 ho.d1 ho.d2 (by omega))
    have HPC : Hid (∀ (W : World) (vb1 : Value) (x : Nat × Nat × Nat), CdV W B g (w.heap.size + 1) vb1 vl vd x → FrC g (w.heap.size + 1) vb vb1 w5 W → x.2.2 ≤ 800000000 → Calls Try.prog 73 #[.pointer (some ⟨w.heap.size + 1, 0, none⟩), vl, .int .i64 256, .int .i64 0, .int .i64 0] W fun e w' => e = .returned (.tuple #[]) ∧ ∃ vb', CdV w' B g (w.heap.size + 1) vb' vl vd (cPut l1 256 0 0 x) ∧ FrC g (w.heap.size + 1) vb1 vb' W w' ∧ Below B W w') := Lib.hid (fun W vb1 x hc hf hl => putCP hc vl l1 (HT1.out.next hf) 256 0 0 (by decide) (by omega) (by omega))
    clear HT1 HT2 hok
    go_wp2
    go_loopg [29] (ops.length + 1) (fun gk iv wr => ∃ (k : Nat) (vb1 : Value), iv = .int .i64 k ∧ k ≤ ops.length ∧ CdV wr B g (w.heap.size + 1) vb1 vl vd (cOps l1 l2 (ops.take k) (0, N, L)) ∧ FrC g (w.heap.size + 1) vb vb1 w5 wr ∧ Below B w wr ∧ gk = ops.length + 1 - k)
    case atStart => exact ⟨0, vb, rfl, Nat.zero_le _, HC5.out, FrC.refl _ _ _ _, HB5.out, rfl⟩
    case round =>
      clear HC5 HB5 HP5 q2 hq2
      obtain ⟨k, vb1, rfl, hk, hc, hf, hbl, rfl⟩ := hrel
      have HC := Lib.hid hc
      have HF := Lib.hid hf
      have HBL := Lib.hid hbl
      have hsz := hbl.size
      have hln := HLN.out k hk
      clear hc hf hbl
      by_cases hlt : k < ops.length
      · obtain ⟨oo', oc', ob', off', hv', hdo, hco⟩ := ops_open (HLO5.out wr vb1 HF.out)
        obtain ⟨rfl, -, rfl⟩ : oo = oo' ∧ ops.length = ops.length ∧ oc = oc' := by
          injection hv' with e1 e2 e3; exact ⟨e1, rfl, e3⟩
        have hix := index_anyK (P := Try.prog) 3 32 75 Try.underlying32 (by kernel_rfl) hdo
        have hix2 := fun W kd => hix W kd (k : Int) (by omega) (by omega)
        simp only [Int.toNat_natCast] at hix2
        have hcc := hco k hlt
        have hbb := hdo.hblk (by omega)
        have HTK2 := Lib.hid (HTK.out k hlt)
        have hal := below_alloc wr (.cells #[.int .u8 (ops[k].lit : Nat), .int .i64 ops[k].len, .int .i64 ops[k].dist] 75)
        have HQ := Lib.hid (HQC.out _ _ _ ops[k] (HC.out.up hal) (HF.out.below hal) (HOKS.out k hlt) hln)
        have HF6 := Lib.hid (HF.out.below hal)
        have HB6 := Lib.hid (HBL.out.trans (hal.mono (Nat.le_trans hBw hsz)))
        generalize ops[k] = o at *
        obtain ⟨ol, on, od⟩ := o
        simp only at HQ HF6 HB6
        have HC3 : Hid (∀ c, c < 3 → wr.cell? ⟨ob', off' + k * 3 + c, none⟩ = some ((#[.int .u8 (ol : Nat), .int .i64 on, .int .i64 od] : Array Value).getD c undef)) := Lib.hid (fun c hc => by
          rw [hcc c hc]
          match c, hc with
          | 0, _ => rfl
          | 1, _ => rfl
          | 2, _ => rfl)
        clear hco hix hdo hv' hcc HTK HLN HOKS HQC HPC hal HC
        go_wp2_with (first
          | (refine wpList_load_cells rfl 75 _ rfl ob' (off' + k * 3) 3 rfl #[.int .u8 (ol : Nat), .int .i64 on, .int .i64 od] _ HC3.out rfl Try.underlying75 rfl (by kernel_rfl) ?_)
          | (go_at_call 72; (with_reducible refine HQ.out.mono ?_); rintro e w6 ⟨rfl, vb6, hq1, hq2, hq3⟩; have HR1 := Lib.hid hq1; have HR2 := Lib.hid hq2; have HR3 := Lib.hid hq3; clear hq1 hq2 hq3))
        go_roundg (ops.length + 1 - (k + 1))
        case measure => omega
        case rel => exact ⟨k + 1, vb6, by go_num, by omega, by rw [HTK2.out]; exact HR1.out, HF6.out.trans HR2.out, HB6.out.trans HR3.out, rfl⟩
      · obtain rfl : k = ops.length := by omega
        have HX := Lib.hid (HPC.out _ _ _ HC.out HF.out hln)
        rw [List.take_length] at HX
        have HYB : Hid (cPut l1 256 0 0 (cOps l1 l2 ops (0, N, L)) = ya) := Lib.hid HYA.out.symm
        rw [HYB.out] at HX
        have hcl : wr.cell? ⟨w.heap.size + 1, 1, none⟩ = some vl := HC.out.cd.cell (by simp)
        have hgc := HC.out.cd.blk.2
        clear hlt HTK HLN HOKS HQC HPC HYB HC
        go_wp2_with (go_at_call 73; (with_reducible refine HX.out.mono ?_); rintro e w6 ⟨rfl, vb6, hq1, hq2, hq3⟩; have HR1 := Lib.hid hq1; have HR2 := Lib.hid hq2; have HR3 := Lib.hid hq3; have c63 : w6.cell? ⟨w.heap.size + 1, 3, none⟩ = some (.int .i64 (ya.1 : Nat)) := hq1.cd.cell (by simp); have hg6 := hq1.cd.blk.2; clear hq1 hq2 hq3)
        go_ret
        have hfr := (HF5.out.trans HF.out).trans HR2.out
        refine ⟨rfl, vb6, HR1.out.wr, HBL.out.trans HR3.out, ⟨fun q hq h1 h2 => hfr.1 q hq h1 (by omega) h2, hfr.2⟩⟩
  · rw [if_neg hk, if_neg hk] at HYA
    have hki : (kd == 1) = false := by simpa using hk
    have HLO5 := HLOW
    have HC5 := HCV
    have HF5 := HF2
    have HB5 := HB2
    have HP5 := HPT
    have HT1 := HST1
    have HT2 := HST2
    clear hk HLOW HCV HF2 HB2 HPT HST1 HST2
    go_enter Try.func45, Try.ntmps45
    go_upto_region 1 with fail
    rw [← HW1.out]
    go_upto_region 2 with fail
    rw [← HW2.out, HS1.out]
    go_upto_region 4 with fail
    clear p0 p3 p4 hp1 q0
    generalize w2 = w5 at *
    obtain ⟨l1, hl1⟩ : ∃ l1, l1 = lits := ⟨_, rfl⟩
    obtain ⟨l2, hl2⟩ : ∃ l2, l2 = dists := ⟨_, rfl⟩
    rw [← hl1] at HYA
    rw [← hl2] at HYA
    obtain ⟨vl, hvl⟩ : ∃ vl, vl = Value.slice o1 lits.length c1 := ⟨_, rfl⟩
    obtain ⟨vd, hvd⟩ : ∃ vd, vd = Value.slice o2 dists.length c2 := ⟨_, rfl⟩
    rw [← hvl, ← hl1] at HT1
    rw [← hvd, ← hl2] at HT2
    rw [← hvl, ← hvd] at HC5
    clear hl1 hl2 hvl hvd
    have HTK : Hid (∀ k, (hk : k < ops.length) → cOps l1 l2 (ops.take (k + 1)) (0, N, L) = cOp l1 l2 ops[k] (cOps l1 l2 (ops.take k) (0, N, L))) := Lib.hid (fun k hk => by rw [List.take_succ_eq_append_getElem hk, cOps_snoc])
    have HLN : Hid (∀ k, k ≤ ops.length → (cOps l1 l2 (ops.take k) (0, N, L)).2.2 ≤ 800000000) := Lib.hid (fun k hk => by
      have := (cOps_len l1 l2 (ops.take k) (0, N, L)).2
      rw [List.length_take] at this
      have h2 : min k ops.length ≤ ops.length := Nat.min_le_right _ _
      have h3 : 48 * min k ops.length ≤ 48 * ops.length := Nat.mul_le_mul_left _ h2
      simp only at this
      omega)
    have HOKS : Hid (∀ k, (hk : k < ops.length) → OpOk ops[k]) := Lib.hid (fun k hk => hok _ (List.getElem_mem hk))
    have HQC : Hid (∀ (W : World) (vb1 : Value) (x : Nat × Nat × Nat) (o : OpN), CdV W B g (w.heap.size + 1) vb1 vl vd x → FrC g (w.heap.size + 1) vb vb1 w5 W → OpOk o → x.2.2 ≤ 800000000 → Calls Try.prog 72 #[.pointer (some ⟨w.heap.size + 1, 0, none⟩), .agg #[.int .u8 o.lit, .int .i64 o.len, .int .i64 o.dist]] W fun e w' => e = .returned (.tuple #[]) ∧ ∃ vb', CdV w' B g (w.heap.size + 1) vb' vl vd (cOp l1 l2 o x) ∧ FrC g (w.heap.size + 1) vb1 vb' W w' ∧ Below B W w') := Lib.hid (fun W vb1 x o hc hf ho hl => opCP hc l1 l2 (HT1.out.next hf) (HT2.out.next hf) o ho.lit ho.n1 ho.n2 ho.d1 ho.d2 (by omega))
    have HPC : Hid (∀ (W : World) (vb1 : Value) (x : Nat × Nat × Nat), CdV W B g (w.heap.size + 1) vb1 vl vd x → FrC g (w.heap.size + 1) vb vb1 w5 W → x.2.2 ≤ 800000000 → Calls Try.prog 73 #[.pointer (some ⟨w.heap.size + 1, 0, none⟩), vl, .int .i64 256, .int .i64 0, .int .i64 0] W fun e w' => e = .returned (.tuple #[]) ∧ ∃ vb', CdV w' B g (w.heap.size + 1) vb' vl vd (cPut l1 256 0 0 x) ∧ FrC g (w.heap.size + 1) vb1 vb' W w' ∧ Below B W w') := Lib.hid (fun W vb1 x hc hf hl => putCP hc vl l1 (HT1.out.next hf) 256 0 0 (by decide) (by omega) (by omega))
    clear HT1 HT2 hok
    go_wp2
    go_loopg [29] (ops.length + 1) (fun gk iv wr => ∃ (k : Nat) (vb1 : Value), iv = .int .i64 k ∧ k ≤ ops.length ∧ CdV wr B g (w.heap.size + 1) vb1 vl vd (cOps l1 l2 (ops.take k) (0, N, L)) ∧ FrC g (w.heap.size + 1) vb vb1 w5 wr ∧ Below B w wr ∧ gk = ops.length + 1 - k)
    case atStart => exact ⟨0, vb, rfl, Nat.zero_le _, HC5.out, FrC.refl _ _ _ _, HB5.out, rfl⟩
    case round =>
      clear HC5 HB5 HP5 q2 hq2
      obtain ⟨k, vb1, rfl, hk, hc, hf, hbl, rfl⟩ := hrel
      have HC := Lib.hid hc
      have HF := Lib.hid hf
      have HBL := Lib.hid hbl
      have hsz := hbl.size
      have hln := HLN.out k hk
      clear hc hf hbl
      by_cases hlt : k < ops.length
      · obtain ⟨oo', oc', ob', off', hv', hdo, hco⟩ := ops_open (HLO5.out wr vb1 HF.out)
        obtain ⟨rfl, -, rfl⟩ : oo = oo' ∧ ops.length = ops.length ∧ oc = oc' := by
          injection hv' with e1 e2 e3; exact ⟨e1, rfl, e3⟩
        have hix := index_anyK (P := Try.prog) 3 32 75 Try.underlying32 (by kernel_rfl) hdo
        have hix2 := fun W kd => hix W kd (k : Int) (by omega) (by omega)
        simp only [Int.toNat_natCast] at hix2
        have hcc := hco k hlt
        have hbb := hdo.hblk (by omega)
        have HTK2 := Lib.hid (HTK.out k hlt)
        have hal := below_alloc wr (.cells #[.int .u8 (ops[k].lit : Nat), .int .i64 ops[k].len, .int .i64 ops[k].dist] 75)
        have HQ := Lib.hid (HQC.out _ _ _ ops[k] (HC.out.up hal) (HF.out.below hal) (HOKS.out k hlt) hln)
        have HF6 := Lib.hid (HF.out.below hal)
        have HB6 := Lib.hid (HBL.out.trans (hal.mono (Nat.le_trans hBw hsz)))
        generalize ops[k] = o at *
        obtain ⟨ol, on, od⟩ := o
        simp only at HQ HF6 HB6
        have HC3 : Hid (∀ c, c < 3 → wr.cell? ⟨ob', off' + k * 3 + c, none⟩ = some ((#[.int .u8 (ol : Nat), .int .i64 on, .int .i64 od] : Array Value).getD c undef)) := Lib.hid (fun c hc => by
          rw [hcc c hc]
          match c, hc with
          | 0, _ => rfl
          | 1, _ => rfl
          | 2, _ => rfl)
        clear hco hix hdo hv' hcc HTK HLN HOKS HQC HPC hal HC
        go_wp2_with (first
          | (refine wpList_load_cells rfl 75 _ rfl ob' (off' + k * 3) 3 rfl #[.int .u8 (ol : Nat), .int .i64 on, .int .i64 od] _ HC3.out rfl Try.underlying75 rfl (by kernel_rfl) ?_)
          | (go_at_call 72; (with_reducible refine HQ.out.mono ?_); rintro e w6 ⟨rfl, vb6, hq1, hq2, hq3⟩; have HR1 := Lib.hid hq1; have HR2 := Lib.hid hq2; have HR3 := Lib.hid hq3; clear hq1 hq2 hq3))
        go_roundg (ops.length + 1 - (k + 1))
        case measure => omega
        case rel => exact ⟨k + 1, vb6, by go_num, by omega, by rw [HTK2.out]; exact HR1.out, HF6.out.trans HR2.out, HB6.out.trans HR3.out, rfl⟩
      · obtain rfl : k = ops.length := by omega
        have HX := Lib.hid (HPC.out _ _ _ HC.out HF.out hln)
        rw [List.take_length] at HX
        have HYB : Hid (cPut l1 256 0 0 (cOps l1 l2 ops (0, N, L)) = ya) := Lib.hid HYA.out.symm
        rw [HYB.out] at HX
        have hcl : wr.cell? ⟨w.heap.size + 1, 1, none⟩ = some vl := HC.out.cd.cell (by simp)
        have hgc := HC.out.cd.blk.2
        clear hlt HTK HLN HOKS HQC HPC HYB HC
        go_wp2_with (go_at_call 73; (with_reducible refine HX.out.mono ?_); rintro e w6 ⟨rfl, vb6, hq1, hq2, hq3⟩; have HR1 := Lib.hid hq1; have HR2 := Lib.hid hq2; have HR3 := Lib.hid hq3; have c63 : w6.cell? ⟨w.heap.size + 1, 3, none⟩ = some (.int .i64 (ya.1 : Nat)) := hq1.cd.cell (by simp); have hg6 := hq1.cd.blk.2; clear hq1 hq2 hq3)
        go_ret
        have hfr := (HF5.out.trans HF.out).trans HR2.out
        refine ⟨rfl, vb6, HR1.out.wr, HBL.out.trans HR3.out, ⟨fun q hq h1 h2 => hfr.1 q hq h1 (by omega) h2, hfr.2⟩⟩
end Go.Cm
