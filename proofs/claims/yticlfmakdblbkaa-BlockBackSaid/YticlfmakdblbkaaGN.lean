/- Texts of this claim, joined: walks of small functions and plain facts about them. Conditions: as each says. -/
import Derived.Test.YticlfmakdblbkaaGL
import Derived.Test.YticlfmakdblbkaaGM
import Derived.Test.YticlfmakdblbkaaGK
import Derived.Test.YticlfmakdblbkaaGC
import Derived.Test.YticlfmakdblbkaaGE
/- The walk of the document's Write of a head. Conditions: the writer is there, the lists read as lists. -/
namespace Go.Cm
open Go.RowKit Go.Proofs

/-- heads that are refused for their kind, size or numbers of lengths -/
def bad1 (k z : Int) (n1 n2 : Nat) : Prop := k < 0 ∨ 2 < k ∨ (k = 0 ∧ (z < 0 ∨ 65535 < z)) ∨ (k = 2 ∧ (n1 < 257 ∨ 286 < n1 ∨ n2 < 1 ∨ 30 < n2))
set_option maxRecDepth 100000 in
set_option maxHeartbeats 4000000 in
theorem writeHRe {w : World} {B g N L : Nat} {vb0 : Value} (h : WrtRV w B g N L vb0) (f : Bool) (k z : Int) (o1 o2 : Option Addr) (n1 n2 c1 c2 : Nat) (hm1 : n1 ≤ 9223372036854775807) (hm2 : n2 ≤ 9223372036854775807) (hbad : bad1 k z n1 n2) :
    Calls Try.prog 23 #[.pointer (some ⟨g, 0, none⟩), .agg #[.bool f, .int .i64 k, .int .i64 z, .slice o1 n1 c1, .slice o2 n2 c2]] w fun e w' => e = .returned (.int .i64 1) ∧ RSt w B g vb0 (N, L) w' := by
  have hBw : B ≤ w.heap.size := by have := h.ge; have := h.box.blk.2; omega
  obtain ⟨w1, hw1⟩ : ∃ w1, w1 = w.alloc (.cells #[.bool f, .int .i64 k, .int .i64 z, .slice o1 n1 c1, .slice o2 n2 c2] 36) := ⟨_, rfl⟩
  have hb1 : Below w.heap.size w w1 := by rw [hw1]; exact below_alloc _ _
  have HB1 := Lib.hid hb1
  have HS1 := Lib.hid (RSt.start (h.up hb1))
  have HW1 := Lib.hid hw1
  clear h hw1 hb1
  have hbad' := hbad
  unfold bad1 at hbad'
  by_cases hk0 : k < 0
  · clear hbad hbad'
    go_enter Try.func23, Try.ntmps23
    go_wp2
    go_ret
    rw [← HW1.out]
    exact ⟨rfl, HS1.out.from1 HB1.out hBw⟩
  · by_cases hk2 : k > 2
    · clear hbad hbad'
      go_enter Try.func23, Try.ntmps23
      go_wp2
      go_ret
      rw [← HW1.out]
      exact ⟨rfl, HS1.out.from1 HB1.out hBw⟩
    · by_cases hz0 : k = 0
      · subst hz0
        by_cases hz1 : z < 0
        · clear hbad hbad'
          go_enter Try.func23, Try.ntmps23
          go_wp2
          go_ret
          rw [← HW1.out]
          exact ⟨rfl, HS1.out.from1 HB1.out hBw⟩
        · have hz2 : z > 65535 := by omega
          clear hbad hbad'
          go_enter Try.func23, Try.ntmps23
          go_wp2
          go_ret
          rw [← HW1.out]
          exact ⟨rfl, HS1.out.from1 HB1.out hBw⟩
      · obtain rfl : k = 2 := by omega
        by_cases ha : n1 < 257
        · have hai : (n1 : Int) < 257 := by omega
          clear hbad hbad'
          go_enter Try.func23, Try.ntmps23
          go_wp2
          go_ret
          rw [← HW1.out]
          exact ⟨rfl, HS1.out.from1 HB1.out hBw⟩
        · have hai : ¬ (n1 : Int) < 257 := by omega
          by_cases hb : 286 < n1
          · have hbi : (n1 : Int) > 286 := by omega
            clear hbad hbad'
            go_enter Try.func23, Try.ntmps23
            go_wp2
            go_ret
            rw [← HW1.out]
            exact ⟨rfl, HS1.out.from1 HB1.out hBw⟩
          · have hbi : ¬ (n1 : Int) > 286 := by omega
            by_cases hc : n2 < 1
            · have hci : (n2 : Int) < 1 := by omega
              clear hbad hbad'
              go_enter Try.func23, Try.ntmps23
              go_wp2
              go_ret
              rw [← HW1.out]
              exact ⟨rfl, HS1.out.from1 HB1.out hBw⟩
            · have hci : ¬ (n2 : Int) < 1 := by omega
              have hdi : (n2 : Int) > 30 := by omega
              clear hbad hbad'
              go_enter Try.func23, Try.ntmps23
              go_wp2
              go_ret
              rw [← HW1.out]
              exact ⟨rfl, HS1.out.from1 HB1.out hBw⟩

set_option maxRecDepth 100000 in
theorem writeHRf {w : World} {B g N L : Nat} {vb0 : Value} (h : WrtRV w B g N L vb0) (f : Bool) (z : Int) (o1 o2 : Option Addr) (n1 n2 c1 c2 : Nat) (l1 l2 : List Int) (hu1 : ∀ W, Below B w W → IntsAt W (.slice o1 n1 c1) l1) (hu2 : ∀ W, Below B w W → IntsAt W (.slice o2 n2 c2) l2)
    (he1 : n1 = l1.length) (hn1 : 257 ≤ n1) (hn1' : n1 ≤ 286) (hn2 : 1 ≤ n2) (hn2' : n2 ≤ 30) (hr : fits2I l1 l2 ≠ 0) :
    Calls Try.prog 23 #[.pointer (some ⟨g, 0, none⟩), .agg #[.bool f, .int .i64 2, .int .i64 z, .slice o1 n1 c1, .slice o2 n2 c2]] w fun e w' => e = .returned (.int .i64 (fits2I l1 l2 : Nat)) ∧ RSt w B g vb0 (N, L) w' := by
  have hBw : B ≤ w.heap.size := by have := h.ge; have := h.box.blk.2; omega
  obtain ⟨w1, hw1⟩ : ∃ w1, w1 = w.alloc (.cells #[.bool f, .int .i64 2, .int .i64 z, .slice o1 n1 c1, .slice o2 n2 c2] 36) := ⟨_, rfl⟩
  have hb1 : Below w.heap.size w w1 := by rw [hw1]; exact below_alloc _ _
  have HB1 := Lib.hid hb1
  have HS1 := Lib.hid (RSt.start (h.up hb1))
  have HW1 := Lib.hid hw1
  have HFC := Lib.hid (fits2RI _ _ l1 l2 w1 (hu1 w1 (hb1.mono hBw)) (hu2 w1 (hb1.mono hBw)) (by omega))
  have i1 : ¬ (n1 : Int) < 257 := by omega
  have i2 : ¬ (n1 : Int) > 286 := by omega
  have i3 : ¬ (n2 : Int) < 1 := by omega
  have i4 : ¬ (n2 : Int) > 30 := by omega
  have hr' : ((fits2I l1 l2 : Int) != 0) = true := by simpa using hr
  clear h hw1 hb1 hu1 hu2 he1 hr
  generalize fits2I l1 l2 = r at *
  go_enter Try.func23, Try.ntmps23
  go_wp2_with (go_at_call 45; rw [← HW1.out]; (with_reducible refine HFC.out.mono ?_); rintro e w2 ⟨rfl, hb2⟩; (have HS2 := Lib.hid (HS1.out.up hb2 (Nat.le_trans hBw HB1.out.size)); clear hb2))
  go_ret
  exact ⟨rfl, HS2.out.from1 HB1.out hBw⟩

theorem writeHR {w : World} {B g N L : Nat} {vb0 : Value} (h : WrtRV w B g N L vb0) (f : Bool) (k z : Int) (u1 u2 : Value) (l1 l2 : List Int) (hu1 : ∀ W, Below B w W → IntsAt W u1 l1) (hu2 : ∀ W, Below B w W → IntsAt W u2 l2) (hL : L ≤ 1000) :
    Calls Try.prog 23 #[.pointer (some ⟨g, 0, none⟩), .agg #[.bool f, .int .i64 k, .int .i64 z, u1, u2]] w fun e w' => e = .returned (.int .i64 (mayI k z l1 l2 : Nat)) ∧ RSt w B g vb0 (if mayI k z l1 l2 = 0 then wrI f k z l1 l2 (N, L) else (N, L)) w' := by
  obtain ⟨o1, c1, b1, f1, hv1, hd1, -⟩ := (hu1 w (Below.refl _ _)).open
  obtain ⟨o2, c2, b2, f2, hv2, hd2, -⟩ := (hu2 w (Below.refl _ _)).open
  have hm1 := hd1.len
  have hm2 := hd2.len
  subst hv1 hv2
  by_cases hbad : bad1 k z l1.length l2.length
  · have hm : mayI k z l1 l2 = 1 := by
      unfold bad1 at hbad
      unfold mayI
      by_cases k0 : k = 0
      · rw [if_pos k0, if_pos (by omega)]
      · rw [if_neg k0, if_neg (by omega)]
        by_cases k2 : k = 2
        · rw [if_pos k2, if_pos (by omega)]
        · rw [if_neg k2]
    rw [hm]
    exact writeHRe h f k z o1 o2 _ _ c1 c2 hm1 hm2 hbad
  · have hb := hbad
    unfold bad1 at hb
    by_cases k0 : k = 0
    · subst k0
      have hm : mayI 0 z l1 l2 = 0 := by unfold mayI; rw [if_pos rfl, if_neg (by omega)]
      obtain ⟨zn, rfl⟩ : ∃ zn : Nat, z = (zn : Int) := ⟨z.toNat, by omega⟩
      rw [hm, if_pos rfl]
      unfold wrI
      rw [if_pos rfl, Int.toNat_natCast]
      cases f with
      | false => exact writeHR0false h zn (by omega) o1 o2 _ _ c1 c2 hL
      | true => exact writeHR0true h zn (by omega) o1 o2 _ _ c1 c2 hL
    · by_cases k1 : k = 1
      · subst k1
        have hm : mayI 1 z l1 l2 = 0 := by unfold mayI; rw [if_neg (by decide), if_pos rfl]
        rw [hm, if_pos rfl]
        unfold wrI
        rw [if_neg (by decide), if_pos rfl]
        cases f with
        | false => exact writeHR1false h z o1 o2 _ _ c1 c2 hL
        | true => exact writeHR1true h z o1 o2 _ _ c1 c2 hL
      · obtain rfl : k = 2 := by omega
        have hm : mayI 2 z l1 l2 = fits2I l1 l2 := by unfold mayI; rw [if_neg (by decide), if_neg (by decide), if_pos rfl, if_neg (by omega)]
        by_cases hr : fits2I l1 l2 = 0
        · obtain ⟨m1, m2, m3, m4, m5, m6, m7, m8, m9⟩ := mayI_dyn (hm.trans hr)
          rw [hm, hr, if_pos rfl]
          unfold wrI
          rw [if_neg (by decide), if_neg (by decide)]
          have hf0 : fits2 (l1.map Int.toNat) (l2.map Int.toNat) = 0 := by rw [← fits2_nls, ← m5, ← m6]; exact hr
          cases f with
          | false => exact writeHR2false h z o1 o2 _ _ c1 c2 (l1.map Int.toNat) (l2.map Int.toNat) (fun W hb => by rw [← m5]; exact hu1 W hb) (fun W hb => by rw [← m6]; exact hu2 W hb) (by simp) (by simp) m1 m2 m3 m4 m7 m8 hf0 hL
          | true => exact writeHR2true h z o1 o2 _ _ c1 c2 (l1.map Int.toNat) (l2.map Int.toNat) (fun W hb => by rw [← m5]; exact hu1 W hb) (fun W hb => by rw [← m6]; exact hu2 W hb) (by simp) (by simp) m1 m2 m3 m4 m7 m8 hf0 hL
        · rw [hm, if_neg hr]
          exact writeHRf h f z o1 o2 _ _ c1 c2 l1 l2 hu1 hu2 rfl (by omega) (by omega) (by omega) (by omega) hr
end Go.Cm

/- The walk of the law BlockWrites. Conditions: the argument's lists read as lists. -/
namespace Go.Cm
open Go.RowKit Go.Proofs

/-- two writers that share nothing -/
structure Dj (g g' : Nat) (vb vr : Value) : Prop where
  a : g ≠ g'
  b : vb.ownBlock ≠ some g'
  c : vr.ownBlock ≠ some g
  d : ∀ k, vb.ownBlock = some k → vr.ownBlock ≠ some k
theorem WrtRV.other {w w' : World} {B g g' N L : Nat} {vb vb' vr : Value} (h : WrtRV w B g' N L vr) (hf : Fr g vb vb' w w') (hd : Dj g g' vb vr) : WrtRV w' B g' N L vr :=
  ⟨h.box.of_blk (fun k hk => by cases hk; exact hf.1 _ h.box.blk.2 (fun e => hd.a e.symm) hd.b), h.own.of_blk (fun k hk => hf.1 k (h.own.lt k hk).2 (fun e => hd.c (by rw [hk, e])) (fun e => hd.d k e hk)), h.ne, h.ge, h.lt⟩
theorem WrtV.other {w w' : World} {B g g' N L : Nat} {vb vr vr' : Value} (h : WrtV w B g N L vb) (hf : Fr g' vr vr' w w') (hd : Dj g g' vb vr) : WrtV w' B g N L vb :=
  ⟨⟨h.box.own.of_blk (fun k hk => by cases hk; exact hf.1 _ h.box.lt hd.a hd.c)⟩, h.own.of_blk (fun k hk => hf.1 k (h.own.lt k hk).2 (fun e => hd.b (by rw [hk, e])) (fun e => hd.d k hk e)), h.ne, h.ge, h.lt⟩
theorem Dj.left {w w' : World} {B g g' N L : Nat} {vb vb' vr : Value} (hd : Dj g g' vb vr) (hf : Fr g vb vb' w w') (h : WrtRV w B g' N L vr) : Dj g g' vb' vr :=
  ⟨hd.a, fun e => by rcases hf.2.1 _ e with q | q
                     · exact hd.b q
                     · have := h.box.blk.2; omega, hd.c, fun k hk => by rcases hf.2.1 _ hk with q | q
                                                                        · exact hd.d k q
                                                                        · intro e; have := (h.own.lt k e).2; omega⟩
theorem Dj.right {w w' : World} {B g g' N L : Nat} {vb vr vr' : Value} (hd : Dj g g' vb vr) (hf : Fr g' vr vr' w w') (h : WrtV w B g N L vb) : Dj g g' vb vr' :=
  ⟨hd.a, hd.b, fun e => by rcases hf.2.1 _ e with q | q
                           · exact hd.c q
                           · have := h.box.lt; omega, fun k hk e => by rcases hf.2.1 _ e with q | q
                                                                       · exact hd.d k hk q
                                                                       · have := (h.own.lt k hk).2; omega⟩

theorem wrI_len {f : Bool} {k z : Int} {l1 l2 : List Int} {st : Nat × Nat} (hm : mayI k z l1 l2 = 0) (hL : st.2 ≤ 1000) : (wrI f k z l1 l2 st).2 ≤ 10000 := by
  unfold wrI
  by_cases k0 : k = 0
  · rw [if_pos k0, putS_len]
    have h1 := putS_len [(finN f, 1), (0, 2)] st
    have e : (alignW (putS [(finN f, 1), (0, 2)] st)).2 = alignN (putS [(finN f, 1), (0, 2)] st).2 := rfl
    rw [e, h1]
    simp only [List.map_cons, List.map_nil, List.sum_cons, List.sum_nil]
    unfold alignN
    omega
  · rw [if_neg k0]
    by_cases k1 : k = 1
    · rw [if_pos k1, putS_len]
      simp only [List.map_cons, List.map_nil, List.sum_cons, List.sum_nil]
      omega
    · rw [if_neg k1]
      have hk : k = 2 := by
        unfold mayI at hm
        rw [if_neg k0, if_neg k1] at hm
        apply Classical.byContradiction; intro hn
        rw [if_neg hn] at hm
        cases hm
      subst hk
      obtain ⟨m1, m2, m3, m4, -⟩ := mayI_dyn hm
      unfold dynS
      rw [putS_append, putS_append, putS_append, codS_len, codS_len, putS_len ordS, putS_len (lenS _ _), putS_len [(finN f, 1), (2, 2)]]
      have e1 : (ordS.map Prod.snd).sum = 57 := by decide
      rw [e1]
      unfold lenS
      simp only [List.map_cons, List.map_nil, List.sum_cons, List.sum_nil, List.length_map]
      omega

set_option maxRecDepth 100000 in
set_option maxHeartbeats 4000000 in
theorem blockWrites (f : Bool) (k z : Int) (u1 u2 : Value) (l1 l2 : List Int) (a : Nat) (ha : a < 256) (w : World) (h1 : IntsAt w u1 l1) (h2 : IntsAt w u2 l2) : Calls Try.prog 6 #[.agg #[.bool f, .int .i64 k, .int .i64 z, u1, u2], .int .u8 (a : Nat)] w fun e w' => e = .returned (.bool true) ∧ ∃ x, w' = ext w x := by
  have HLI := Lib.hid (fun (W : World) (hb : Below w.heap.size w W) => lightP f k z u1 u2 l1 l2 W (h1.up hb) (h2.up hb))
  have HI1 := Lib.hid h1
  have HI2 := Lib.hid h2
  obtain ⟨o1, c1, b1, f1, rfl, -⟩ := h1.open
  obtain ⟨o2, c2, b2, f2, rfl, -⟩ := h2.open
  clear h1 h2
  generalize l1.length = n1 at *
  generalize l2.length = n2 at *
  by_cases hl : n1 ≤ 400 ∧ n2 ≤ 400
  · rw [decide_eq_true hl] at HLI
    have HGV := Lib.hid (fun (W : World) => givenP f k z o1 o2 n1 n2 c1 c2 W)
    have hmod : (a : Int) % 9 = ((a % 9 : Nat) : Int) := by omega
    have hmod2 : (a : Int).tmod 9 = ((a % 9 : Nat) : Int) := by norm_cast
    have hn9 : a % 9 ≤ 8 := by omega
    clear hl
    generalize a % 9 = n at *
    go_enter Try.func6, Try.ntmps6
    go_upto_region 3 with (go_at_call 17; (with_reducible refine (HLI.out _ (by repeat (first | exact Below.refl _ _ | assumption | refine b_drewN ?_ _ | refine Below.drew ?_ | refine b_ext' ?_ _ | refine b_alloc' ?_ _))).mono ?_); rintro e w1 ⟨rfl, x1, rfl⟩)
    have hA := (ownH w f k z o1 o2 n1 n2 c1 c2 36).up (ext_below _ x1)
    have HA := Lib.hid hA
    have hB1 : Below w.heap.size w (ext (w.alloc (.cells #[.bool f, .int .i64 k, .int .i64 z, .slice o1 n1 c1, .slice o2 n2 c2] 36)) x1) := (by repeat (first | exact Below.refl _ _ | assumption | refine b_drewN ?_ _ | refine Below.drew ?_ | refine b_ext' ?_ _ | refine b_alloc' ?_ _))
    have HB1 := Lib.hid hB1
    clear hA HLI hB1
    generalize ext (w.alloc (.cells #[.bool f, .int .i64 k, .int .i64 z, .slice o1 n1 c1, .slice o2 n2 c2] 36)) x1 = w1 at *
    obtain ⟨B, hB⟩ : ∃ B, B = w1.heap.size := ⟨_, rfl⟩
    have HOP := Lib.hid (openP w1)
    rw [← hB] at HOP
    have HBW : Hid (∀ W, Below B w1 W → Below w.heap.size w W) := Lib.hid (fun W hb => HB1.out.trans (hb.mono (by rw [hB]; exact HB1.out.size)))
    have HAC : Hid (∀ W, Below B w1 W → Own W w.heap.size 36 (.slice (some ⟨w.heap.size, 0, none⟩) 5 5) [.bool f, .int .i64 k, .int .i64 z, .slice o1 n1 c1, .slice o2 n2 c2]) := Lib.hid (fun W hb => HA.out.up (by rw [← hB]; exact hb))
    go_upto_region 6 with (go_at_call 20; (with_reducible refine HOP.out.mono ?_); rintro e w2 ⟨gw, rfl, hw, hb2⟩; (have HW2 := Lib.hid hw; have HB2 := Lib.hid hb2; clear hw hb2))
    obtain ⟨vb2, hv2⟩ := HW2.out.v
    have hgw2 := hv2.box.lt
    have hs2 := HB2.out.size
    have HV3 := Lib.hid (hv2.up (below_alloc w2 (.cells #[Value.slice none 0 0] 55)))
    have HR3 : Hid (WrtRV (w2.alloc (.cells #[Value.slice none 0 0] 55)) B w2.heap.size 0 0 (.slice none 0 0)) := Lib.hid ⟨own_lit w2 w2.heap.size #[Value.slice none 0 0] 55 (by simp) (Nat.le_refl _), by simpa [bitsN] using Own.nil _ _ _, by simp [Value.ownBlock], by omega, by decide⟩
    have HD3 : Hid (Dj gw w2.heap.size vb2 (.slice none 0 0)) := Lib.hid ⟨by omega, fun e => by have := (hv2.own.lt _ e).2; omega, by simp [Value.ownBlock], fun q _ => by simp [Value.ownBlock]⟩
    have HB3 : Hid (Below B w1 (w2.alloc (.cells #[Value.slice none 0 0] 55))) := Lib.hid (HB2.out.alloc (by omega) _)
    clear hv2 HW2 HB2 HOP
    go_upto_region 8 with fail
    generalize w2.alloc (.cells #[Value.slice none 0 0] 55) = w3 at *
    generalize w2.heap.size = gv at *
    have HP4 := Lib.hid (putV HV3.out 0 n (Nat.two_pow_pos n) (by omega) (by omega))
    rw [show ((0 : Nat) : Int) = 0 from rfl] at HP4
    go_upto_region 9 with (go_at_call 21; (with_reducible refine HP4.out.mono ?_); rintro e w4 ⟨rfl, vb4, hq1, hq2, hq3⟩; (have HV4 := Lib.hid hq1; have HB4 := Lib.hid (HB3.out.trans hq2); have HR4 := Lib.hid (HR3.out.other hq3 HD3.out); have HD4 := Lib.hid (HD3.out.left hq3 HR3.out); clear hq1 hq2 hq3))
    clear HV3 HR3 HD3 HB3 HP4
    have HP5 := Lib.hid (putRV HR4.out 0 n (Nat.two_pow_pos n) (by omega) (by omega))
    rw [show ((0 : Nat) : Int) = 0 from rfl] at HP5
    go_upto_region 10 with (go_at_call 22; (with_reducible refine HP5.out.mono ?_); rintro e w5 ⟨rfl, vr5, hq1, hq2, hq3⟩; (have HR5 := Lib.hid hq1; have HB5 := Lib.hid (HB4.out.trans hq2); have HV5 := Lib.hid (HV4.out.other hq3 HD4.out); have HD5 := Lib.hid (HD4.out.right hq3 HV4.out); clear hq1 hq2 hq3))
    clear HV4 HR4 HD4 HB4 HP5
    have hle : 0 + n ≤ 1000 := by omega
    generalize 0 + 0 * 2 ^ 0 = N5 at *
    generalize 0 + n = L5 at *
    obtain ⟨st, hst⟩ : ∃ st, st = (if mayI k z l1 l2 = 0 then wrI f k z l1 l2 (N5, L5) else (N5, L5)) := ⟨_, rfl⟩
    have hstl : st.2 ≤ 10000 := by
      rw [hst]
      by_cases hm : mayI k z l1 l2 = 0
      · rw [if_pos hm]; exact wrI_len hm hle
      · rw [if_neg hm]; have h : L5 ≤ 10000 := (by omega); exact h
    obtain ⟨m, hm⟩ : ∃ m, m = mayI k z l1 l2 := ⟨_, rfl⟩
    have HWP : Hid (∀ x, Calls Try.prog 18 #[.pointer (some ⟨gw, 0, none⟩), .agg #[.bool f, .int .i64 k, .int .i64 z, .slice o1 n1 c1, .slice o2 n2 c2]] (ext w5 x) fun e w' => e = .returned (.int .i64 (m : Nat)) ∧ WSt (ext w5 x) B gw vb4 st w') := Lib.hid (by
      intro x
      have hb := HB5.out.trans ((ext_below w5 x).mono (by have := HB5.out.size; omega))
      have h := writeHP (HV5.out.up (ext_below w5 x)) f k z _ _ l1 l2 (fun W q => HI1.out.up (HBW.out W (hb.trans q))) (fun W q => HI2.out.up (HBW.out W (hb.trans q))) hle
      rw [← hst, ← hm] at h; exact h)
    have HRP : Hid (∀ W vr, WrtRV W B gv N5 L5 vr → Below B w1 W → Calls Try.prog 23 #[.pointer (some ⟨gv, 0, none⟩), .agg #[.bool f, .int .i64 k, .int .i64 z, .slice o1 n1 c1, .slice o2 n2 c2]] W fun e w' => e = .returned (.int .i64 (m : Nat)) ∧ RSt W B gv vr st w') := Lib.hid (by
      intro W vr hr hb
      have h := writeHR hr f k z _ _ l1 l2 (fun W q => HI1.out.up (HBW.out W (hb.trans q))) (fun W q => HI2.out.up (HBW.out W (hb.trans q))) hle
      rw [← hst, ← hm] at h; exact h)
    clear hst hm hle HI1 HI2
    obtain ⟨N', L'⟩ := st
    have hL' : L' ≤ 10000 := hstl
    clear hstl
    obtain ⟨A5, hA5, hs5, hl5⟩ := (HAC.out _ HB5.out).whole
    have he5 : A5 = #[.bool f, .int .i64 k, .int .i64 z, .slice o1 n1 c1, .slice o2 n2 c2] := by rw [← Array.toArray_toList (xs := A5), hl5]
    subst he5
    clear hs5 hl5
    go_upto_region 11 with (first | (refine load_box rfl 36 5 _ rfl w.heap.size rfl #[.bool f, .int .i64 k, .int .i64 z, .slice o1 n1 c1, .slice o2 n2 c2] rfl hA5 _ Try.underlying36 rfl (by kernel_rfl) ?_) | (go_at_call 19; (with_reducible refine (HGV.out _).mono ?_); rintro e w6 ⟨rfl, x6, rfl⟩; have HX6 := Lib.hid (ext_below w5 x6)) | (go_at_call 18; (with_reducible refine (HWP.out _).mono ?_); rintro e w7 ⟨rfl, vb7, hq1, hq2, hq3⟩; (have HV7 := Lib.hid hq1; have HB7 := Lib.hid ((HB5.out.trans (HX6.out.mono (by have := HB5.out.size; omega))).trans hq2); have HR7 := Lib.hid ((HR5.out.up HX6.out).other hq3 HD5.out); have HD7 := Lib.hid (HD5.out.left hq3 (HR5.out.up HX6.out)); clear hq1 hq2 hq3)))
    try dsimp only at HV7
    clear HWP HX6 hA5 HV5 HR5 HD5 HB5 HGV
    generalize ext w5 x6 = w6 at *
    obtain ⟨A7, hA7, hs7, hl7⟩ := (HAC.out _ HB7.out).whole
    have he7 : A7 = #[.bool f, .int .i64 k, .int .i64 z, .slice o1 n1 c1, .slice o2 n2 c2] := by rw [← Array.toArray_toList (xs := A7), hl7]
    subst he7
    clear hs7 hl7
    have HR8 := Lib.hid (HRP.out _ _ HR7.out HB7.out)
    go_upto_region 12 with (first | (refine load_box rfl 36 5 _ rfl w.heap.size rfl #[.bool f, .int .i64 k, .int .i64 z, .slice o1 n1 c1, .slice o2 n2 c2] rfl hA7 _ Try.underlying36 rfl (by kernel_rfl) ?_) | (go_at_call 23; (with_reducible refine HR8.out.mono ?_); rintro e w8 ⟨rfl, vr8, hq1, hq2, hq3⟩; (have HRR := Lib.hid hq1; have HB8 := Lib.hid (HB7.out.trans hq2); have HV8 := Lib.hid (HV7.out.other hq3 HD7.out); clear hq1 hq2 hq3)))
    try dsimp only at HRR
    clear HRP HR8 hA7 HR7 HD7 HB7 HAC HA
    obtain ⟨oR, cR, gRb, hvR, -⟩ := HRR.out.own.cases
    rw [bitsN_length] at hvR
    subst hvR
    have hcR : w8.cell? ⟨gv, 0, none⟩ = some (.slice oR L' cR) := HRR.out.box.cell (by simp)
    have hgR : gv < w8.heap.size := HRR.out.box.blk.2
    have HLN := Lib.hid (fun W (hb : Below w8.heap.size w8 W) => lenP (HV8.out.p.up hb) (by omega))
    have HT1 := Lib.hid (fun W (hb : Below w8.heap.size w8 W) => textP (HV8.out.p.up hb) (by omega))
    have HT2 := Lib.hid (fun W (hb : Below w8.heap.size w8 W) => textR (HRR.out.p.up hb) (by omega))
    have HZW : Hid (∀ W, Below w8.heap.size w8 W → ∃ x, W = ext w x) := Lib.hid (fun W hb => ex_ext (HBW.out W (HB8.out.trans (hb.mono (by have := HB8.out.size; omega)))))
    have HSM := Lib.hid (fun (W : World) (u1 u2 v1 v2 : Value) (h1 : IntsAt W u1 (nls fixL)) (h2 : IntsAt W u2 (nls fixD)) (h3 : IntsAt W v1 (nls fixL)) (h4 : IntsAt W v2 (nls fixD)) => sameT false 0 0 u1 u2 v1 v2 (nls fixL) (nls fixD) W h1 h2 h3 h4)
    clear HV8 HRR HB8 HV7 HBW HB1
    refine wp_region_scr (C := fun w' => ∃ x, w' = ext w x) (.q 0 (.q 1 (.q 2 (.q 3 (.q 4 (.q 6 (.q 7 (.q 8 (.br 5 (.br 9 (.q 10 (.q 11 (.q 12 (.q 13 (.q 14 (.q 16 (.br 15 (.br 17 (.q 18 (.q 19 (.q 20 (.br 21 (.br 22 (.q 23 (.br 24 (.br 25 (.q 26 (.br 27 (.q 28 (.q 29 (.br 30 (.q 31 (.q 32 .done)) .no))) .no)) .no) .no)) .no) .no)))) .no) .no))))))) .no) (.br 9 (.q 10 (.br 5 (.q 11 (.q 12 (.q 13 (.q 14 (.q 16 (.br 15 (.br 17 (.q 18 (.q 19 (.q 20 (.br 21 (.br 22 (.q 23 (.br 24 (.br 25 (.q 26 (.br 27 (.q 28 (.q 29 (.br 30 (.q 31 (.q 32 .done)) .no))) .no)) .no) .no)) .no) .no)))) .no) .no)))))) .no)) .no)))))))))) (by kernel_rfl) (by kernel_rfl) (HZW.out _ (b_drew1 (Below.refl _ _))) ?_
    have HB9 : Hid (Below w8.heap.size w8 w8.drew) := Lib.hid (b_drew1 (Below.refl _ _))
    have hcR9 : w8.drew.cell? ⟨gv, 0, none⟩ = some (.slice oR L' cR) := hcR
    have hgR9 : gv < w8.drew.heap.size := hgR
    clear hcR hgR hB hgw2 hs2
    generalize w8.drew = w9 at *
    (repeat ((unfold wpScr; simp only [pick, List.map_cons, List.map_nil, List.getD_cons_zero, List.getD_cons_succ]); go_big_quiet_step (fail); refine wpQuiet_nil ?_))
    (unfold wpScr; simp only [pick, List.map_cons, List.map_nil, List.getD_cons_zero, List.getD_cons_succ])
    refine ⟨?_, ?_⟩
    · unfold wpAct
      go_wp2_with (go_at_call 24; (with_reducible refine (HLN.out _ HB9.out).mono ?_); rintro e w10 ⟨rfl, x10, rfl⟩)
      have HB10 : Hid (Below w8.heap.size w8 (ext w9 x10)) := Lib.hid (HB9.out.trans ((ext_below w9 x10).mono HB9.out.size))
      refine ⟨HZW.out _ HB10.out, ?_⟩
      have hcR10 := (cell?_ext w9 x10 gv 0 hgR9).trans hcR9
      have hgR10 : gv < (ext w9 x10).heap.size := Nat.lt_of_lt_of_le hgR9 (size_ext _ _)
      clear hcR9 hgR9
      generalize ext w9 x10 = w10 at *
      unfold wpAct
      ((unfold wpScr; simp only [pick, List.map_cons, List.map_nil, List.getD_cons_zero, List.getD_cons_succ]); refine ⟨?_, by unfold wpScr; trivial⟩; unfold wpAct)
      go_wp2
      refine ⟨HZW.out _ HB10.out, ?_⟩
      unfold wpAct
      (repeat ((unfold wpScr; simp only [pick, List.map_cons, List.map_nil, List.getD_cons_zero, List.getD_cons_succ]); go_big_quiet_step (fail); refine wpQuiet_nil ?_))
      ((unfold wpScr; simp only [pick, List.map_cons, List.map_nil, List.getD_cons_zero, List.getD_cons_succ]); refine ⟨?_, by unfold wpScr; trivial⟩; unfold wpAct)
      go_wp2_with (go_at_call 25; (with_reducible refine (HT1.out _ HB10.out).mono ?_); rintro e w11 ⟨rfl, x11, rfl⟩)
      have HB11 : Hid (Below w8.heap.size w8 (ext w10 x11)) := Lib.hid (HB10.out.trans ((ext_below w10 x11).mono HB10.out.size))
      have HX11 : Hid (Below w10.heap.size w10 (ext w10 x11)) := Lib.hid (ext_below w10 x11)
      refine ⟨HZW.out _ HB11.out, ?_⟩
      generalize ext w10 x11 = w11 at *
      unfold wpAct
      ((unfold wpScr; simp only [pick, List.map_cons, List.map_nil, List.getD_cons_zero, List.getD_cons_succ]); refine ⟨?_, by unfold wpScr; trivial⟩; unfold wpAct)
      go_wp2_with (go_at_call 26; (with_reducible refine (HT2.out _ HB11.out).mono ?_); rintro e w12 ⟨rfl, hq⟩; (have HX12 := Lib.hid hq; clear hq))
      have HB12 : Hid (Below w8.heap.size w8 w12) := Lib.hid (HB11.out.trans (HX12.out.mono HB11.out.size))
      refine ⟨HZW.out _ HB12.out, ?_⟩
      unfold wpAct
      clear HT1 HT2 HLN
      (repeat ((unfold wpScr; simp only [pick, List.map_cons, List.map_nil, List.getD_cons_zero, List.getD_cons_succ]); go_big_quiet_step (fail); refine wpQuiet_nil ?_))
      ((unfold wpScr; simp only [pick, List.map_cons, List.map_nil, List.getD_cons_zero, List.getD_cons_succ]); refine ⟨?_, by unfold wpScr; trivial⟩; unfold wpAct)
      go_wp2_with (go_at_call 27; (with_reducible refine (fixLP _).mono ?_); rintro e w13 ⟨v13, rfl, ho, hq⟩; (have HI13 := Lib.hid (show IntsAt w13 v13 (nls fixL) from ho.sl); have HX13 := Lib.hid hq; clear ho hq; obtain ⟨o13, c13, b13, g13, rfl, -⟩ := HI13.out.open; generalize (nls fixL).length = n13 at *))
      have HB13 : Hid (Below w8.heap.size w8 w13) := Lib.hid (HB12.out.trans (HX13.out.mono HB12.out.size))
      refine ⟨HZW.out _ HB13.out, ?_⟩
      unfold wpAct
      ((unfold wpScr; simp only [pick, List.map_cons, List.map_nil, List.getD_cons_zero, List.getD_cons_succ]); refine ⟨?_, by unfold wpScr; trivial⟩; unfold wpAct)
      go_wp2_with (go_at_call 28; (with_reducible refine (fixDP _).mono ?_); rintro e w14 ⟨v14, rfl, ho, hq⟩; (have HI14 := Lib.hid (show IntsAt w14 v14 (nls fixD) from ho.sl); have HX14 := Lib.hid hq; clear ho hq; obtain ⟨o14, c14, b14, g14, rfl, -⟩ := HI14.out.open; generalize (nls fixD).length = n14 at *))
      have HB14 : Hid (Below w8.heap.size w8 w14) := Lib.hid (HB13.out.trans (HX14.out.mono HB13.out.size))
      refine ⟨HZW.out _ HB14.out, ?_⟩
      unfold wpAct
      (repeat ((unfold wpScr; simp only [pick, List.map_cons, List.map_nil, List.getD_cons_zero, List.getD_cons_succ]); go_big_quiet_step (fail); refine wpQuiet_nil ?_))
      ((unfold wpScr; simp only [pick, List.map_cons, List.map_nil, List.getD_cons_zero, List.getD_cons_succ]); refine ⟨?_, by unfold wpScr; trivial⟩; unfold wpAct)
      go_wp2_with (go_at_call 29; (with_reducible refine (fixLR _).mono ?_); rintro e w15 ⟨v15, rfl, ho, hq⟩; (have HI15 := Lib.hid (show IntsAt w15 v15 (nls fixL) from ho.sl); have HX15 := Lib.hid hq; clear ho hq; obtain ⟨o15, c15, b15, g15, rfl, -⟩ := HI15.out.open; generalize (nls fixL).length = n15 at *))
      have HB15 : Hid (Below w8.heap.size w8 w15) := Lib.hid (HB14.out.trans (HX15.out.mono HB14.out.size))
      refine ⟨HZW.out _ HB15.out, ?_⟩
      unfold wpAct
      ((unfold wpScr; simp only [pick, List.map_cons, List.map_nil, List.getD_cons_zero, List.getD_cons_succ]); refine ⟨?_, by unfold wpScr; trivial⟩; unfold wpAct)
      go_wp2_with (go_at_call 30; (with_reducible refine (fixDR _).mono ?_); rintro e w16 ⟨v16, rfl, ho, hq⟩; (have HI16 := Lib.hid (show IntsAt w16 v16 (nls fixD) from ho.sl); have HX16 := Lib.hid hq; clear ho hq; obtain ⟨o16, c16, b16, g16, rfl, -⟩ := HI16.out.open; generalize (nls fixD).length = n16 at *))
      have HB16 : Hid (Below w8.heap.size w8 w16) := Lib.hid (HB15.out.trans (HX16.out.mono HB15.out.size))
      refine ⟨HZW.out _ HB16.out, ?_⟩
      unfold wpAct
      (repeat ((unfold wpScr; simp only [pick, List.map_cons, List.map_nil, List.getD_cons_zero, List.getD_cons_succ]); go_big_quiet_step (fail); refine wpQuiet_nil ?_))
      ((unfold wpScr; simp only [pick, List.map_cons, List.map_nil, List.getD_cons_zero, List.getD_cons_succ]); refine ⟨?_, by unfold wpScr; trivial⟩; unfold wpAct)
      go_wp2_with (go_at_call 14; (with_reducible refine (HSM.out w16 _ _ _ _ (((HI13.out.up HX14.out).up HX15.out).up HX16.out) ((HI14.out.up HX15.out).up HX16.out) (HI15.out.up HX16.out) HI16.out).mono ?_); rintro e w17 ⟨rfl, x17, rfl⟩)
      have HB17 : Hid (Below w8.heap.size w8 (ext w16 x17)) := Lib.hid (HB16.out.trans ((ext_below w16 x17).mono HB16.out.size))
      have HX17 : Hid (Below w16.heap.size w16 (ext w16 x17)) := Lib.hid (ext_below w16 x17)
      refine ⟨HZW.out _ HB17.out, ?_⟩
      generalize ext w16 x17 = w17 at *
      unfold wpAct
      (repeat ((unfold wpScr; simp only [pick, List.map_cons, List.map_nil, List.getD_cons_zero, List.getD_cons_succ]); go_big_quiet_step (fail); refine wpQuiet_nil ?_))
      ((unfold wpScr; simp only [pick, List.map_cons, List.map_nil, List.getD_cons_zero, List.getD_cons_succ]); refine ⟨?_, by unfold wpScr; trivial⟩; unfold wpAct)
      go_wp2_with (go_at_call 8; (with_reducible refine (knownP _).mono ?_); rintro e w18 ⟨rfl, x18, rfl⟩)
      have HB18 : Hid (Below w8.heap.size w8 (ext w17 x18)) := Lib.hid (HB17.out.trans ((ext_below w17 x18).mono HB17.out.size))
      have HX18 : Hid (Below w17.heap.size w17 (ext w17 x18)) := Lib.hid (ext_below w17 x18)
      refine ⟨HZW.out _ HB18.out, ?_⟩
      generalize ext w17 x18 = w18 at *
      unfold wpAct
      (repeat ((unfold wpScr; simp only [pick, List.map_cons, List.map_nil, List.getD_cons_zero, List.getD_cons_succ]); go_big_quiet_step (fail); refine wpQuiet_nil ?_))
      unfold wpScr
      first | (intro _ hq; clear hq) | (intro hq; clear hq)
      go_wp2
      go_ret
      exact ⟨rfl, HZW.out _ HB18.out⟩
    · ((unfold wpScr; simp only [pick, List.map_cons, List.map_nil, List.getD_cons_zero, List.getD_cons_succ]); refine ⟨?_, by unfold wpScr; trivial⟩; unfold wpAct)
      go_wp2
      refine ⟨HZW.out _ HB9.out, ?_⟩
      unfold wpAct
      (repeat ((unfold wpScr; simp only [pick, List.map_cons, List.map_nil, List.getD_cons_zero, List.getD_cons_succ]); go_big_quiet_step (fail); refine wpQuiet_nil ?_))
      ((unfold wpScr; simp only [pick, List.map_cons, List.map_nil, List.getD_cons_zero, List.getD_cons_succ]); refine ⟨?_, by unfold wpScr; trivial⟩; unfold wpAct)
      go_wp2_with (go_at_call 24; (with_reducible refine (HLN.out _ HB9.out).mono ?_); rintro e w10 ⟨rfl, x10, rfl⟩)
      have HB10 : Hid (Below w8.heap.size w8 (ext w9 x10)) := Lib.hid (HB9.out.trans ((ext_below w9 x10).mono HB9.out.size))
      refine ⟨HZW.out _ HB10.out, ?_⟩
      have hcR10 := (cell?_ext w9 x10 gv 0 hgR9).trans hcR9
      have hgR10 : gv < (ext w9 x10).heap.size := Nat.lt_of_lt_of_le hgR9 (size_ext _ _)
      clear hcR9 hgR9
      generalize ext w9 x10 = w10 at *
      unfold wpAct
      (repeat ((unfold wpScr; simp only [pick, List.map_cons, List.map_nil, List.getD_cons_zero, List.getD_cons_succ]); go_big_quiet_step (fail); refine wpQuiet_nil ?_))
      ((unfold wpScr; simp only [pick, List.map_cons, List.map_nil, List.getD_cons_zero, List.getD_cons_succ]); refine ⟨?_, by unfold wpScr; trivial⟩; unfold wpAct)
      go_wp2_with (go_at_call 25; (with_reducible refine (HT1.out _ HB10.out).mono ?_); rintro e w11 ⟨rfl, x11, rfl⟩)
      have HB11 : Hid (Below w8.heap.size w8 (ext w10 x11)) := Lib.hid (HB10.out.trans ((ext_below w10 x11).mono HB10.out.size))
      have HX11 : Hid (Below w10.heap.size w10 (ext w10 x11)) := Lib.hid (ext_below w10 x11)
      refine ⟨HZW.out _ HB11.out, ?_⟩
      generalize ext w10 x11 = w11 at *
      unfold wpAct
      ((unfold wpScr; simp only [pick, List.map_cons, List.map_nil, List.getD_cons_zero, List.getD_cons_succ]); refine ⟨?_, by unfold wpScr; trivial⟩; unfold wpAct)
      go_wp2_with (go_at_call 26; (with_reducible refine (HT2.out _ HB11.out).mono ?_); rintro e w12 ⟨rfl, hq⟩; (have HX12 := Lib.hid hq; clear hq))
      have HB12 : Hid (Below w8.heap.size w8 w12) := Lib.hid (HB11.out.trans (HX12.out.mono HB11.out.size))
      refine ⟨HZW.out _ HB12.out, ?_⟩
      unfold wpAct
      clear HT1 HT2 HLN
      (repeat ((unfold wpScr; simp only [pick, List.map_cons, List.map_nil, List.getD_cons_zero, List.getD_cons_succ]); go_big_quiet_step (fail); refine wpQuiet_nil ?_))
      ((unfold wpScr; simp only [pick, List.map_cons, List.map_nil, List.getD_cons_zero, List.getD_cons_succ]); refine ⟨?_, by unfold wpScr; trivial⟩; unfold wpAct)
      go_wp2_with (go_at_call 27; (with_reducible refine (fixLP _).mono ?_); rintro e w13 ⟨v13, rfl, ho, hq⟩; (have HI13 := Lib.hid (show IntsAt w13 v13 (nls fixL) from ho.sl); have HX13 := Lib.hid hq; clear ho hq; obtain ⟨o13, c13, b13, g13, rfl, -⟩ := HI13.out.open; generalize (nls fixL).length = n13 at *))
      have HB13 : Hid (Below w8.heap.size w8 w13) := Lib.hid (HB12.out.trans (HX13.out.mono HB12.out.size))
      refine ⟨HZW.out _ HB13.out, ?_⟩
      unfold wpAct
      ((unfold wpScr; simp only [pick, List.map_cons, List.map_nil, List.getD_cons_zero, List.getD_cons_succ]); refine ⟨?_, by unfold wpScr; trivial⟩; unfold wpAct)
      go_wp2_with (go_at_call 28; (with_reducible refine (fixDP _).mono ?_); rintro e w14 ⟨v14, rfl, ho, hq⟩; (have HI14 := Lib.hid (show IntsAt w14 v14 (nls fixD) from ho.sl); have HX14 := Lib.hid hq; clear ho hq; obtain ⟨o14, c14, b14, g14, rfl, -⟩ := HI14.out.open; generalize (nls fixD).length = n14 at *))
      have HB14 : Hid (Below w8.heap.size w8 w14) := Lib.hid (HB13.out.trans (HX14.out.mono HB13.out.size))
      refine ⟨HZW.out _ HB14.out, ?_⟩
      unfold wpAct
      (repeat ((unfold wpScr; simp only [pick, List.map_cons, List.map_nil, List.getD_cons_zero, List.getD_cons_succ]); go_big_quiet_step (fail); refine wpQuiet_nil ?_))
      ((unfold wpScr; simp only [pick, List.map_cons, List.map_nil, List.getD_cons_zero, List.getD_cons_succ]); refine ⟨?_, by unfold wpScr; trivial⟩; unfold wpAct)
      go_wp2_with (go_at_call 29; (with_reducible refine (fixLR _).mono ?_); rintro e w15 ⟨v15, rfl, ho, hq⟩; (have HI15 := Lib.hid (show IntsAt w15 v15 (nls fixL) from ho.sl); have HX15 := Lib.hid hq; clear ho hq; obtain ⟨o15, c15, b15, g15, rfl, -⟩ := HI15.out.open; generalize (nls fixL).length = n15 at *))
      have HB15 : Hid (Below w8.heap.size w8 w15) := Lib.hid (HB14.out.trans (HX15.out.mono HB14.out.size))
      refine ⟨HZW.out _ HB15.out, ?_⟩
      unfold wpAct
      ((unfold wpScr; simp only [pick, List.map_cons, List.map_nil, List.getD_cons_zero, List.getD_cons_succ]); refine ⟨?_, by unfold wpScr; trivial⟩; unfold wpAct)
      go_wp2_with (go_at_call 30; (with_reducible refine (fixDR _).mono ?_); rintro e w16 ⟨v16, rfl, ho, hq⟩; (have HI16 := Lib.hid (show IntsAt w16 v16 (nls fixD) from ho.sl); have HX16 := Lib.hid hq; clear ho hq; obtain ⟨o16, c16, b16, g16, rfl, -⟩ := HI16.out.open; generalize (nls fixD).length = n16 at *))
      have HB16 : Hid (Below w8.heap.size w8 w16) := Lib.hid (HB15.out.trans (HX16.out.mono HB15.out.size))
      refine ⟨HZW.out _ HB16.out, ?_⟩
      unfold wpAct
      (repeat ((unfold wpScr; simp only [pick, List.map_cons, List.map_nil, List.getD_cons_zero, List.getD_cons_succ]); go_big_quiet_step (fail); refine wpQuiet_nil ?_))
      ((unfold wpScr; simp only [pick, List.map_cons, List.map_nil, List.getD_cons_zero, List.getD_cons_succ]); refine ⟨?_, by unfold wpScr; trivial⟩; unfold wpAct)
      go_wp2_with (go_at_call 14; (with_reducible refine (HSM.out w16 _ _ _ _ (((HI13.out.up HX14.out).up HX15.out).up HX16.out) ((HI14.out.up HX15.out).up HX16.out) (HI15.out.up HX16.out) HI16.out).mono ?_); rintro e w17 ⟨rfl, x17, rfl⟩)
      have HB17 : Hid (Below w8.heap.size w8 (ext w16 x17)) := Lib.hid (HB16.out.trans ((ext_below w16 x17).mono HB16.out.size))
      have HX17 : Hid (Below w16.heap.size w16 (ext w16 x17)) := Lib.hid (ext_below w16 x17)
      refine ⟨HZW.out _ HB17.out, ?_⟩
      generalize ext w16 x17 = w17 at *
      unfold wpAct
      (repeat ((unfold wpScr; simp only [pick, List.map_cons, List.map_nil, List.getD_cons_zero, List.getD_cons_succ]); go_big_quiet_step (fail); refine wpQuiet_nil ?_))
      ((unfold wpScr; simp only [pick, List.map_cons, List.map_nil, List.getD_cons_zero, List.getD_cons_succ]); refine ⟨?_, by unfold wpScr; trivial⟩; unfold wpAct)
      go_wp2_with (go_at_call 8; (with_reducible refine (knownP _).mono ?_); rintro e w18 ⟨rfl, x18, rfl⟩)
      have HB18 : Hid (Below w8.heap.size w8 (ext w17 x18)) := Lib.hid (HB17.out.trans ((ext_below w17 x18).mono HB17.out.size))
      have HX18 : Hid (Below w17.heap.size w17 (ext w17 x18)) := Lib.hid (ext_below w17 x18)
      refine ⟨HZW.out _ HB18.out, ?_⟩
      generalize ext w17 x18 = w18 at *
      unfold wpAct
      (repeat ((unfold wpScr; simp only [pick, List.map_cons, List.map_nil, List.getD_cons_zero, List.getD_cons_succ]); go_big_quiet_step (fail); refine wpQuiet_nil ?_))
      unfold wpScr
      first | (intro _ hq; clear hq) | (intro hq; clear hq)
      go_wp2
      go_ret
      exact ⟨rfl, HZW.out _ HB18.out⟩
  · rw [decide_eq_false hl] at HLI
    clear hl
    go_enter Try.func6, Try.ntmps6
    go_wp2_with (first | (go_at_call 17; (with_reducible refine (HLI.out _ (by repeat (first | exact Below.refl _ _ | assumption | refine b_drewN ?_ _ | refine Below.drew ?_ | refine b_ext' ?_ _ | refine b_alloc' ?_ _))).mono ?_); rintro e w1 ⟨rfl, x1, rfl⟩) | (go_at_call 8; refine (knownP _).mono ?_; rintro e w2 ⟨rfl, x2, rfl⟩))
    go_ret
    exact ⟨rfl, (ex_ext (by repeat (first | exact Below.refl _ _ | assumption | refine b_drewN ?_ _ | refine Below.drew ?_ | refine b_ext' ?_ _ | refine b_alloc' ?_ _)))⟩
end Go.Cm
