/- Texts of this claim, joined: walks of small functions and plain facts about them. Conditions: as each says. -/
import Derived.Test.YtbbkikfjidkkdaaGQ
/- The walks of Edges and Step. Conditions: none. -/
namespace Go.Cm
open Go.RowKit Go.Proofs

set_option maxRecDepth 100000 in
theorem edgesR {w : World} {A : Array Value} {e : List (List Ed)} {F : Int} {r : List Int} (h : NfaV w A e F r) :
    Calls Try.prog 19 #[.agg A] w fun en w' => (∃ k : Int, en = .returned (.int .i64 k)) ∧ ∃ x, w' = ext w x := by
  obtain ⟨ve, vr, rfl, he, hr⟩ := h
  obtain ⟨oe, ce, be, fe, rfl, hde, hce⟩ := he.open
  obtain ⟨orr, cr, br, fr, rfl, hdr, -⟩ := hr.open
  have hixe := index_row hde
  have hme := hde.len
  have hmr := hdr.len
  have hbe := hde.hblk
  have HCE := Lib.hid hce
  obtain ⟨n, hn⟩ : ∃ n, n = e.length := ⟨_, rfl⟩
  obtain ⟨m, hm⟩ : ∃ m, m = r.length := ⟨_, rfl⟩
  rw [← hn] at hixe hme hbe HCE ⊢
  rw [← hm] at hmr ⊢
  clear he hr hde hdr hce hn hm
  have HA := Lib.hid (below_alloc w (.cells #[.slice oe n ce, .int .i64 F, .slice orr m cr] 28))
  by_cases h1 : 3100 < n
  · go_enter Try.func19, Try.ntmps19
    go_wp2
    go_ret
    exact ⟨⟨_, rfl⟩, ex_ext HA.out⟩
  by_cases h2 : 3100 < m
  · go_enter Try.func19, Try.ntmps19
    go_wp2
    go_ret
    exact ⟨⟨_, rfl⟩, ex_ext HA.out⟩
  have hsz : (w.alloc (.cells #[.slice oe n ce, .int .i64 F, .slice orr m cr] 28)).heap.size = w.heap.size + 1 := by simp
  have HB0 : Hid ((w.alloc (.cells #[.slice oe n ce, .int .i64 F, .slice orr m cr] 28)).cell? ⟨w.heap.size, 0, none⟩ = some (.slice oe n ce)) := Lib.hid (by rw [World.cell?_alloc_new]; rfl)
  go_enter Try.func19, Try.ntmps19
  go_wp2
  generalize w.alloc (.cells #[.slice oe n ce, .int .i64 F, .slice orr m cr] 28) = w1 at *
  have hszw : w.heap.size < w1.heap.size := by omega
  clear hsz
  go_loopg [3, 4] n (fun gk kv iv wr => ∃ i k : Nat, kv = .int .i64 k ∧ iv = .int .i64 i ∧ i ≤ n ∧ k ≤ 200 * i ∧ Below w1.heap.size w1 wr ∧ gk = n - i)
  case atStart => exact ⟨0, 0, rfl, rfl, Nat.zero_le _, Nat.zero_le _, Below.refl _ _, rfl⟩
  case round =>
    obtain ⟨i, k, rfl, rfl, hi, hk, hbel, rfl⟩ := hrel
    have HW := Lib.hid hbel
    have HWW := Lib.hid (HA.out.trans (hbel.mono HA.out.size))
    clear hbel
    have b0 := (HW.out.cell (p := ⟨w.heap.size, 0, none⟩) hszw).trans HB0.out
    have bl : w.heap.size < wr.heap.size := by have := HW.out.size; omega
    by_cases hlt : i < n
    · obtain ⟨oi, ci, bi, fi, hrow, hdi, -⟩ := HCE.out i hlt
      have hbe2 := hbe (by omega)
      have hrow2 := (HWW.out.cell (p := ⟨be, fe + i, none⟩) hbe2).trans hrow
      have hber : be < wr.heap.size := by omega
      have hixe2 := fun W => hixe W i hlt
      generalize (e.getD i []).length = z at *
      have hmi := hdi.len
      clear hrow hdi
      by_cases hz : 200 < z
      · go_wp2
        go_ret
        exact ⟨⟨_, rfl⟩, ex_ext HWW.out⟩
      · go_wp2
        go_roundg (n - (i + 1))
        case measure => omega
        case rel => exact ⟨i + 1, k + z, by go_num, by go_num, by omega, by omega, HW.out, rfl⟩
    · go_wp2
      go_ret
      exact ⟨⟨_, rfl⟩, ex_ext HWW.out⟩
set_option maxRecDepth 100000 in
theorem stepTopP {w : World} {A : Array Value} {e : List (List Ed)} {F : Int} {r : List Int} (h : NfaV w A e F r) {v : Value} {st : List Int} (hs : IntsAt w v st) (c : Nat) (hc : c < 256) :
    Calls Try.prog 22 #[.agg A, v, .int .u8 c] w fun en w' => ∃ u, en = .returned u ∧ IntsAt w' u (nz (stepG e F r st c)) ∧ Below w.heap.size w w' := by
  have HH := Lib.hid h
  obtain ⟨ve, vr, rfl, he, hr⟩ := h
  obtain ⟨oe, ce, be, fe, rfl, -, -⟩ := he.open
  obtain ⟨orr, cr, br, fr, rfl, -, -⟩ := hr.open
  obtain ⟨R, hR⟩ : ∃ R, R = rightN e F r := ⟨_, rfl⟩
  obtain ⟨n, hn⟩ : ∃ n, n = e.length := ⟨_, rfl⟩
  obtain ⟨m, hm⟩ : ∃ m, m = r.length := ⟨_, rfl⟩
  rw [← hn, ← hm] at HH ⊢
  have HA := Lib.hid (below_alloc w (.cells #[.slice oe n ce, .int .i64 F, .slice orr m cr] 28))
  have HRT := Lib.hid (rightP (HH.out.up HA.out))
  rw [← hR] at HRT
  have HBX := Lib.hid (by simpa using own_lit w 0 #[.slice oe n ce, .int .i64 F, .slice orr m cr] 28 (by simp) (Nat.zero_le _) : Own (w.alloc (.cells #[.slice oe n ce, .int .i64 F, .slice orr m cr] 28)) 0 28 (.slice (some ⟨w.heap.size, 0, none⟩) 3 3) [.slice oe n ce, .int .i64 F, .slice orr m cr])
  have HS := Lib.hid hs
  obtain ⟨os, cs, bs, fs, rfl, -, -⟩ := hs.open
  clear he hr hs hn hm
  cases R with
  | false =>
    have HC : Hid (stepG e F r st c = []) := Lib.hid (by unfold stepG; rw [if_neg (by rw [← hR]; decide)])
    clear hR
    go_enter Try.func22, Try.ntmps22
    go_wp2_with ((with_reducible go_at_call 14); refine HRT.out.mono ?_; rintro en w2 ⟨rfl, x2, rfl⟩)
    go_ret
    exact ⟨_, rfl, by rw [HC.out]; exact Sl.nil _, HA.out.trans ((ext_below _ x2).mono HA.out.size)⟩
  | true =>
    have HC : Hid (stepG e F r st c = stepN e st c) := Lib.hid (by unfold stepG; rw [if_pos hR.symm])
    have HRR := Lib.hid hR.symm
    clear hR
    go_enter Try.func22, Try.ntmps22
    go_wp2_with (first
      | ((with_reducible go_at_call 14); refine HRT.out.mono ?_; rintro en w2 ⟨rfl, x2, rfl⟩; have HB2 := Lib.hid (HA.out.trans ((ext_below _ x2).mono HA.out.size)); have HBX2 := Lib.hid (HBX.out.up (ext_below _ x2)); generalize ext (w.alloc (.cells #[.slice oe n ce, .int .i64 F, .slice orr m cr] 28)) x2 = w2 at *; have c0 := HBX2.out.cell (i := 0) (by simp); have c1 := HBX2.out.cell (i := 1) (by simp); have c2 := HBX2.out.cell (i := 2) (by simp); simp only [List.getD_cons_zero, List.getD_cons_succ] at c0 c1 c2; have hp := HBX2.out.blk.2)
      | (refine wpList_load_cells rfl 28 _ rfl w.heap.size 0 3 rfl _ _ (nfaBox HBX2.out) rfl Try.underlying28 rfl (by kernel_rfl) ?_)
      | ((with_reducible go_at_call 33); refine (stepP (HH.out.up HB2.out) HRR.out (HS.out.up HB2.out) c hc).mono ?_; rintro en w3 ⟨u3, rfl, ho, hb⟩; have HO := Lib.hid ho; have HB3 := Lib.hid (HB2.out.trans (hb.mono HB2.out.size)); clear ho hb))
    go_ret
    exact ⟨_, rfl, by rw [HC.out]; exact HO.out.sl, HB3.out⟩
end Go.Cm

/- The walk of NfaRuns. Conditions: none. -/
namespace Go.Cm
open Go.RowKit Go.Proofs

set_option maxRecDepth 100000 in
set_option maxHeartbeats 8000000 in
theorem nfaRuns {w : World} {A : Array Value} {e : List (List Ed)} {F : Int} {r : List Int} (h : NfaV w A e F r) (hsw : ∀ a x, x ∈ Row e a → SetW x) {v : Value} {st : List Int} (hs : IntsAt w v st) (s : ByteArray) (hs63 : s.size ≤ 140737488351232) :
    Calls Try.prog 6 #[.agg A, v, .string s] w fun e w' => e = .returned (.bool true) ∧ ∃ x, w' = ext w x := by
  have HKN := Lib.hid (fun (x : World) => knownN (w := x))
  have HH := Lib.hid h
  obtain ⟨ve, vr, rfl, he, hr⟩ := h
  obtain ⟨oe, ce, be, fe, rfl, -, -⟩ := he.open
  obtain ⟨orr, cr, br, fr, rfl, -, -⟩ := hr.open
  obtain ⟨n, hn⟩ : ∃ n, n = e.length := ⟨_, rfl⟩
  obtain ⟨m, hm⟩ : ∃ m, m = r.length := ⟨_, rfl⟩
  rw [← hn, ← hm] at HH ⊢
  have HS := Lib.hid hs
  obtain ⟨os, cs, bs, fs, rfl, hds, -⟩ := hs.open
  have hms := hds.len
  obtain ⟨q, hq⟩ : ∃ q, q = st.length := ⟨_, rfl⟩
  rw [← hq] at HS hms ⊢
  clear he hr hs hds hn hm hq
  have HA := Lib.hid (below_alloc w (.cells #[.slice oe n ce, .int .i64 F, .slice orr m cr] 28))
  have HED := Lib.hid (edgesR (HH.out.up HA.out))
  have HBX := Lib.hid (by simpa using own_lit w 0 #[.slice oe n ce, .int .i64 F, .slice orr m cr] 28 (by simp) (Nat.zero_le _) : Own (w.alloc (.cells #[.slice oe n ce, .int .i64 F, .slice orr m cr] 28)) 0 28 (.slice (some ⟨w.heap.size, 0, none⟩) 3 3) [.slice oe n ce, .int .i64 F, .slice orr m cr])
  go_enter Try.func6, Try.ntmps6
  go_upto_region 2 with ((with_reducible go_at_call 19); refine HED.out.mono ?_; rintro en w1 ⟨⟨k, rfl⟩, x1, rfl⟩)
  have HB1 := Lib.hid (HA.out.trans ((ext_below _ x1).mono HA.out.size))
  have HBX1 := Lib.hid (HBX.out.up (ext_below _ x1))
  clear HED HBX HA
  generalize ext (w.alloc (.cells #[.slice oe n ce, .int .i64 F, .slice orr m cr] 28)) x1 = w1 at *
  have HBQ : Hid (∀ w', (∃ y, w' = ext w1 y) → ∀ c, c < 3 → w'.cell? ⟨w.heap.size, 0 + c, none⟩ = some ((#[.slice oe n ce, .int .i64 F, .slice orr m cr] : Array Value).getD c undef)) := Lib.hid (by
    rintro w' ⟨y, rfl⟩
    exact nfaBox (HBX1.out.up (ext_below _ y)))
  clear HBX1
  by_cases hk0 : k < 0
  · go_wp2_with ((with_reducible go_at_call 8); refine (HKN.out _).mono ?_; rintro en w2 ⟨rfl, x2, rfl⟩)
    go_ret
    exact ⟨rfl, ex_ext (HB1.out.trans ((ext_below w1 x2).mono HB1.out.size))⟩
  by_cases hk1 : 300 < k
  · go_wp2_with ((with_reducible go_at_call 8); refine (HKN.out _).mono ?_; rintro en w2 ⟨rfl, x2, rfl⟩)
    go_ret
    exact ⟨rfl, ex_ext (HB1.out.trans ((ext_below w1 x2).mono HB1.out.size))⟩
  by_cases hq1 : 100 < q
  · go_wp2_with ((with_reducible go_at_call 8); refine (HKN.out _).mono ?_; rintro en w2 ⟨rfl, x2, rfl⟩)
    go_ret
    exact ⟨rfl, ex_ext (HB1.out.trans ((ext_below w1 x2).mono HB1.out.size))⟩
  by_cases hs1 : 30 < s.size
  · go_wp2_with ((with_reducible go_at_call 8); refine (HKN.out _).mono ?_; rintro en w2 ⟨rfl, x2, rfl⟩)
    go_ret
    exact ⟨rfl, ex_ext (HB1.out.trans ((ext_below w1 x2).mono HB1.out.size))⟩
  have hs32 : s.size ≤ 4294967296 := by omega
  have HUP : Hid (∀ x, Below w1.heap.size w1 x → Below w.heap.size w x) := Lib.hid (fun x hx => HB1.out.trans (hx.mono HB1.out.size))
  have HRP := Lib.hid (fun (x : World) (hx : Below w1.heap.size w1 x) => rightP (HH.out.up (HUP.out x hx)))
  have HRR := Lib.hid (fun (x : World) (hx : Below w1.heap.size w1 x) => rightD (HH.out.up (HUP.out x hx)))
  have HCP := Lib.hid (fun (x : World) (hx : Below w1.heap.size w1 x) => closureP (HH.out.up (HUP.out x hx)) (HS.out.up (HUP.out x hx)))
  have HCR := Lib.hid (fun (x : World) (hx : Below w1.heap.size w1 x) => closureR (HH.out.up (HUP.out x hx)) (HS.out.up (HUP.out x hx)))
  have HUN := Lib.hid (fun (x : World) (hx : Below w1.heap.size w1 x) => nfaRunP (HH.out.up (HUP.out x hx)) s hs32)
  have HUR := Lib.hid (fun (x : World) (hx : Below w1.heap.size w1 x) => nfaRunR (HH.out.up (HUP.out x hx)) hsw s hs32)
  have HSP := Lib.hid (fun (c : Nat) (hc : c < 256) (x : World) (hx : Below w1.heap.size w1 x) => stepTopP (HH.out.up (HUP.out x hx)) (HS.out.up (HUP.out x hx)) c hc)
  have HSR := Lib.hid (fun (c : Nat) (hc : c < 256) (x : World) (hx : Below w1.heap.size w1 x) => stepR (HH.out.up (HUP.out x hx)) hsw (HS.out.up (HUP.out x hx)) c hc)
  generalize rightN e F r = R at *
  generalize nz (cloN e F r st) = lc at *
  generalize nz (runN e F r (txt s)) = lr at *
  have hRR : (R == R) = true := by simp
  clear hsw HH HS
  rcases Nat.eq_zero_or_pos s.size with h0 | h0
  · have HSP0 := Lib.hid (HSP.out 0 (by decide))
    have HSR0 := Lib.hid (HSR.out 0 (by decide))
    rw [show ((0 : Nat) : Int) = 0 from rfl] at HSP0 HSR0
    generalize nz (stepG e F r st 0) = ls at *
    clear HSP HSR
    go_wp2
    refine wp_region_phg [([0,2],[1,3]), ([4,5,6,7,9,10],[8,11,12]), ([13,14,15,16,17,19,20,21],[18,22,23]), ([24,25,26,27,29,30],[28,31,32]), ([33,34],[35]), ([36,37],[])] (by kernel_rfl) (by kernel_rfl) ?_
    (unfold wpPhases; simp only [pick, List.map_cons, List.map_nil, List.getD_cons_zero, List.getD_cons_succ])
    repeat (first | (go_big_quiet_want; refine quiet_load_cells 28 3 _ rfl w.heap.size 0 rfl #[.slice oe n ce, .int .i64 F, .slice orr m cr] rfl HBQ.out _ Try.underlying28 rfl (by kernel_rfl) ?_; go_simp; go_big_quiet_on) | go_big_quiet_step (fail))
    refine wpQuiet_nil ?_
    have HD := Lib.hid (drew_b w1)
    unfold wpAct
    go_wp2_with ((with_reducible go_at_call 14); refine (HRP.out _ HD.out).mono ?_; rintro en w2 ⟨rfl, x2, rfl⟩; have HB2 := Lib.hid (HD.out.trans ((ext_below _ x2).mono HD.out.size)))
    refine ⟨ex_ext HB2.out, ?_⟩
    generalize ext w1.drew x2 = w2 at *
    unfold wpAct
    go_wp2_with ((with_reducible go_at_call 13); refine (HRR.out _ HB2.out).mono ?_; rintro en w3 ⟨rfl, x3, rfl⟩; have HB3 := Lib.hid (HB2.out.trans ((ext_below _ x3).mono HB2.out.size)))
    refine ⟨ex_ext HB3.out, ?_⟩
    generalize ext w2 x3 = w3 at *
    unfold wpAct
    (unfold wpPhases; simp only [pick, List.map_cons, List.map_nil, List.getD_cons_zero, List.getD_cons_succ])
    repeat (first | (go_big_quiet_want; refine quiet_load_cells 28 3 _ rfl w.heap.size 0 rfl #[.slice oe n ce, .int .i64 F, .slice orr m cr] rfl HBQ.out _ Try.underlying28 rfl (by kernel_rfl) ?_; go_simp; go_big_quiet_on) | go_big_quiet_step (fail))
    refine wpQuiet_nil ?_
    unfold wpAct
    go_wp2_with ((with_reducible go_at_call 20); refine (HCP.out _ HB3.out).mono ?_; rintro en w4 ⟨u4, rfl, ho, hb⟩; have HO4 := Lib.hid (show IntsAt w4 u4 lc from ho.sl); have HB4 := Lib.hid (HB3.out.trans (hb.mono HB3.out.size)); clear ho hb)
    refine ⟨ex_ext HB4.out, ?_⟩
    unfold wpAct
    go_wp2_with ((with_reducible go_at_call 21); refine (HCR.out _ HB4.out).mono ?_; rintro en w5 ⟨u5, rfl, ho, hb⟩; have HO5 := Lib.hid ho; have HX5 := Lib.hid (HO4.out.up hb); have HB5 := Lib.hid (HB4.out.trans (hb.mono HB4.out.size)); clear ho hb)
    refine ⟨ex_ext HB5.out, ?_⟩
    unfold wpAct
    go_wp2_with ((with_reducible go_at_call 15); refine (ints_eq HX5.out HO5.out).mono ?_; rintro en w6 ⟨rfl, x6, rfl⟩; have HB6 := Lib.hid (HB5.out.trans ((ext_below _ x6).mono HB5.out.size)))
    refine ⟨ex_ext HB6.out, ?_⟩
    generalize ext w5 x6 = w6 at *
    unfold wpAct
    (unfold wpPhases; simp only [pick, List.map_cons, List.map_nil, List.getD_cons_zero, List.getD_cons_succ])
    repeat (first | (go_big_quiet_want; refine quiet_load_cells 28 3 _ rfl w.heap.size 0 rfl #[.slice oe n ce, .int .i64 F, .slice orr m cr] rfl HBQ.out _ Try.underlying28 rfl (by kernel_rfl) ?_; go_simp; go_big_quiet_on) | go_big_quiet_step (fail))
    refine wpQuiet_nil ?_
    unfold wpAct
    go_wp2_with ((with_reducible go_at_call 22); refine (HSP0.out _ HB6.out).mono ?_; rintro en w7 ⟨u7, rfl, ho, hb⟩; have HO7 := Lib.hid (show IntsAt w7 u7 ls from ho); have HB7 := Lib.hid (HB6.out.trans (hb.mono HB6.out.size)); clear ho hb)
    refine ⟨ex_ext HB7.out, ?_⟩
    unfold wpAct
    go_wp2_with ((with_reducible go_at_call 23); refine (HSR0.out _ HB7.out).mono ?_; rintro en w8 ⟨u8, rfl, ho, hb⟩; have HO8 := Lib.hid ho; have HX8 := Lib.hid (HO7.out.up hb); have HB8 := Lib.hid (HB7.out.trans (hb.mono HB7.out.size)); clear ho hb)
    refine ⟨ex_ext HB8.out, ?_⟩
    unfold wpAct
    go_wp2_with ((with_reducible go_at_call 15); refine (ints_eq HX8.out HO8.out).mono ?_; rintro en w9 ⟨rfl, x9, rfl⟩; have HB9 := Lib.hid (HB8.out.trans ((ext_below _ x9).mono HB8.out.size)))
    refine ⟨ex_ext HB9.out, ?_⟩
    generalize ext w8 x9 = w9 at *
    unfold wpAct
    (unfold wpPhases; simp only [pick, List.map_cons, List.map_nil, List.getD_cons_zero, List.getD_cons_succ])
    repeat (first | (go_big_quiet_want; refine quiet_load_cells 28 3 _ rfl w.heap.size 0 rfl #[.slice oe n ce, .int .i64 F, .slice orr m cr] rfl HBQ.out _ Try.underlying28 rfl (by kernel_rfl) ?_; go_simp; go_big_quiet_on) | go_big_quiet_step (fail))
    refine wpQuiet_nil ?_
    unfold wpAct
    go_wp2_with ((with_reducible go_at_call 16); refine (HUN.out _ HB9.out).mono ?_; rintro en wa ⟨ua, rfl, ho, hb⟩; have HOa := Lib.hid (show IntsAt wa ua lr from ho.sl); have HBa := Lib.hid (HB9.out.trans (hb.mono HB9.out.size)); clear ho hb)
    refine ⟨ex_ext HBa.out, ?_⟩
    unfold wpAct
    go_wp2_with ((with_reducible go_at_call 18); refine (HUR.out _ HBa.out).mono ?_; rintro en wb ⟨ub, rfl, ho, hb⟩; have HOb := Lib.hid ho; have HXb := Lib.hid (HOa.out.up hb); have HBb := Lib.hid (HBa.out.trans (hb.mono HBa.out.size)); clear ho hb)
    refine ⟨ex_ext HBb.out, ?_⟩
    unfold wpAct
    go_wp2_with ((with_reducible go_at_call 15); refine (ints_eq HXb.out HOb.out).mono ?_; rintro en wc ⟨rfl, xc, rfl⟩; have HBc := Lib.hid (HBb.out.trans ((ext_below _ xc).mono HBb.out.size)))
    refine ⟨ex_ext HBc.out, ?_⟩
    generalize ext wb xc = wc at *
    unfold wpAct
    (unfold wpPhases; simp only [pick, List.map_cons, List.map_nil, List.getD_cons_zero, List.getD_cons_succ])
    repeat (first | (go_big_quiet_want; refine quiet_load_cells 28 3 _ rfl w.heap.size 0 rfl #[.slice oe n ce, .int .i64 F, .slice orr m cr] rfl HBQ.out _ Try.underlying28 rfl (by kernel_rfl) ?_; go_simp; go_big_quiet_on) | go_big_quiet_step (fail))
    refine wpQuiet_nil ?_
    unfold wpAct
    go_wp2_with ((with_reducible go_at_call 8); refine (HKN.out _).mono ?_; rintro en wd ⟨rfl, xd, rfl⟩; have HBd := Lib.hid (HBc.out.trans ((ext_below _ xd).mono HBc.out.size)))
    refine ⟨ex_ext HBd.out, ?_⟩
    generalize ext wc xd = wd at *
    unfold wpAct
    (unfold wpPhases; simp only [pick, List.map_cons, List.map_nil, List.getD_cons_zero, List.getD_cons_succ])
    repeat (first | (go_big_quiet_want; refine quiet_load_cells 28 3 _ rfl w.heap.size 0 rfl #[.slice oe n ce, .int .i64 F, .slice orr m cr] rfl HBQ.out _ Try.underlying28 rfl (by kernel_rfl) ?_; go_simp; go_big_quiet_on) | go_big_quiet_step (fail))
    refine wpQuiet_nil ?_
    unfold wpAct
    unfold wpPhases
    intro hz; clear hz
    go_wp2
    go_ret
    exact ⟨rfl, ex_ext (HUP.out _ HBd.out)⟩
  · have hidx := fun W => index_txt (s := s) (i := 0) h0 W
    rw [show ((0 : Nat) : Int) = 0 from rfl] at hidx
    have HSP0 := Lib.hid (HSP.out _ (txt_lt s 0))
    have HSR0 := Lib.hid (HSR.out _ (txt_lt s 0))
    generalize (txt s).getD 0 0 = c at *
    generalize nz (stepG e F r st c) = ls at *
    clear HSP HSR
    go_wp2
    refine wp_region_phg [([0,2],[1,3]), ([4,5,6,7,9,10],[8,11,12]), ([13,14,15,16,17,19,20,21],[18,22,23]), ([24,25,26,27,29,30],[28,31,32]), ([33,34],[35]), ([36,37],[])] (by kernel_rfl) (by kernel_rfl) ?_
    (unfold wpPhases; simp only [pick, List.map_cons, List.map_nil, List.getD_cons_zero, List.getD_cons_succ])
    repeat (first | (go_big_quiet_want; refine quiet_load_cells 28 3 _ rfl w.heap.size 0 rfl #[.slice oe n ce, .int .i64 F, .slice orr m cr] rfl HBQ.out _ Try.underlying28 rfl (by kernel_rfl) ?_; go_simp; go_big_quiet_on) | go_big_quiet_step (fail))
    refine wpQuiet_nil ?_
    have HD := Lib.hid (drew_b w1)
    unfold wpAct
    go_wp2_with ((with_reducible go_at_call 14); refine (HRP.out _ HD.out).mono ?_; rintro en w2 ⟨rfl, x2, rfl⟩; have HB2 := Lib.hid (HD.out.trans ((ext_below _ x2).mono HD.out.size)))
    refine ⟨ex_ext HB2.out, ?_⟩
    generalize ext w1.drew x2 = w2 at *
    unfold wpAct
    go_wp2_with ((with_reducible go_at_call 13); refine (HRR.out _ HB2.out).mono ?_; rintro en w3 ⟨rfl, x3, rfl⟩; have HB3 := Lib.hid (HB2.out.trans ((ext_below _ x3).mono HB2.out.size)))
    refine ⟨ex_ext HB3.out, ?_⟩
    generalize ext w2 x3 = w3 at *
    unfold wpAct
    (unfold wpPhases; simp only [pick, List.map_cons, List.map_nil, List.getD_cons_zero, List.getD_cons_succ])
    repeat (first | (go_big_quiet_want; refine quiet_load_cells 28 3 _ rfl w.heap.size 0 rfl #[.slice oe n ce, .int .i64 F, .slice orr m cr] rfl HBQ.out _ Try.underlying28 rfl (by kernel_rfl) ?_; go_simp; go_big_quiet_on) | go_big_quiet_step (fail))
    refine wpQuiet_nil ?_
    unfold wpAct
    go_wp2_with ((with_reducible go_at_call 20); refine (HCP.out _ HB3.out).mono ?_; rintro en w4 ⟨u4, rfl, ho, hb⟩; have HO4 := Lib.hid (show IntsAt w4 u4 lc from ho.sl); have HB4 := Lib.hid (HB3.out.trans (hb.mono HB3.out.size)); clear ho hb)
    refine ⟨ex_ext HB4.out, ?_⟩
    unfold wpAct
    go_wp2_with ((with_reducible go_at_call 21); refine (HCR.out _ HB4.out).mono ?_; rintro en w5 ⟨u5, rfl, ho, hb⟩; have HO5 := Lib.hid ho; have HX5 := Lib.hid (HO4.out.up hb); have HB5 := Lib.hid (HB4.out.trans (hb.mono HB4.out.size)); clear ho hb)
    refine ⟨ex_ext HB5.out, ?_⟩
    unfold wpAct
    go_wp2_with ((with_reducible go_at_call 15); refine (ints_eq HX5.out HO5.out).mono ?_; rintro en w6 ⟨rfl, x6, rfl⟩; have HB6 := Lib.hid (HB5.out.trans ((ext_below _ x6).mono HB5.out.size)))
    refine ⟨ex_ext HB6.out, ?_⟩
    generalize ext w5 x6 = w6 at *
    unfold wpAct
    (unfold wpPhases; simp only [pick, List.map_cons, List.map_nil, List.getD_cons_zero, List.getD_cons_succ])
    repeat (first | (go_big_quiet_want; refine quiet_load_cells 28 3 _ rfl w.heap.size 0 rfl #[.slice oe n ce, .int .i64 F, .slice orr m cr] rfl HBQ.out _ Try.underlying28 rfl (by kernel_rfl) ?_; go_simp; go_big_quiet_on) | go_big_quiet_step (fail))
    refine wpQuiet_nil ?_
    unfold wpAct
    go_wp2_with ((with_reducible go_at_call 22); refine (HSP0.out _ HB6.out).mono ?_; rintro en w7 ⟨u7, rfl, ho, hb⟩; have HO7 := Lib.hid (show IntsAt w7 u7 ls from ho); have HB7 := Lib.hid (HB6.out.trans (hb.mono HB6.out.size)); clear ho hb)
    refine ⟨ex_ext HB7.out, ?_⟩
    unfold wpAct
    go_wp2_with ((with_reducible go_at_call 23); refine (HSR0.out _ HB7.out).mono ?_; rintro en w8 ⟨u8, rfl, ho, hb⟩; have HO8 := Lib.hid ho; have HX8 := Lib.hid (HO7.out.up hb); have HB8 := Lib.hid (HB7.out.trans (hb.mono HB7.out.size)); clear ho hb)
    refine ⟨ex_ext HB8.out, ?_⟩
    unfold wpAct
    go_wp2_with ((with_reducible go_at_call 15); refine (ints_eq HX8.out HO8.out).mono ?_; rintro en w9 ⟨rfl, x9, rfl⟩; have HB9 := Lib.hid (HB8.out.trans ((ext_below _ x9).mono HB8.out.size)))
    refine ⟨ex_ext HB9.out, ?_⟩
    generalize ext w8 x9 = w9 at *
    unfold wpAct
    (unfold wpPhases; simp only [pick, List.map_cons, List.map_nil, List.getD_cons_zero, List.getD_cons_succ])
    repeat (first | (go_big_quiet_want; refine quiet_load_cells 28 3 _ rfl w.heap.size 0 rfl #[.slice oe n ce, .int .i64 F, .slice orr m cr] rfl HBQ.out _ Try.underlying28 rfl (by kernel_rfl) ?_; go_simp; go_big_quiet_on) | go_big_quiet_step (fail))
    refine wpQuiet_nil ?_
    unfold wpAct
    go_wp2_with ((with_reducible go_at_call 16); refine (HUN.out _ HB9.out).mono ?_; rintro en wa ⟨ua, rfl, ho, hb⟩; have HOa := Lib.hid (show IntsAt wa ua lr from ho.sl); have HBa := Lib.hid (HB9.out.trans (hb.mono HB9.out.size)); clear ho hb)
    refine ⟨ex_ext HBa.out, ?_⟩
    unfold wpAct
    go_wp2_with ((with_reducible go_at_call 18); refine (HUR.out _ HBa.out).mono ?_; rintro en wb ⟨ub, rfl, ho, hb⟩; have HOb := Lib.hid ho; have HXb := Lib.hid (HOa.out.up hb); have HBb := Lib.hid (HBa.out.trans (hb.mono HBa.out.size)); clear ho hb)
    refine ⟨ex_ext HBb.out, ?_⟩
    unfold wpAct
    go_wp2_with ((with_reducible go_at_call 15); refine (ints_eq HXb.out HOb.out).mono ?_; rintro en wc ⟨rfl, xc, rfl⟩; have HBc := Lib.hid (HBb.out.trans ((ext_below _ xc).mono HBb.out.size)))
    refine ⟨ex_ext HBc.out, ?_⟩
    generalize ext wb xc = wc at *
    unfold wpAct
    (unfold wpPhases; simp only [pick, List.map_cons, List.map_nil, List.getD_cons_zero, List.getD_cons_succ])
    repeat (first | (go_big_quiet_want; refine quiet_load_cells 28 3 _ rfl w.heap.size 0 rfl #[.slice oe n ce, .int .i64 F, .slice orr m cr] rfl HBQ.out _ Try.underlying28 rfl (by kernel_rfl) ?_; go_simp; go_big_quiet_on) | go_big_quiet_step (fail))
    refine wpQuiet_nil ?_
    unfold wpAct
    go_wp2_with ((with_reducible go_at_call 8); refine (HKN.out _).mono ?_; rintro en wd ⟨rfl, xd, rfl⟩; have HBd := Lib.hid (HBc.out.trans ((ext_below _ xd).mono HBc.out.size)))
    refine ⟨ex_ext HBd.out, ?_⟩
    generalize ext wc xd = wd at *
    unfold wpAct
    (unfold wpPhases; simp only [pick, List.map_cons, List.map_nil, List.getD_cons_zero, List.getD_cons_succ])
    repeat (first | (go_big_quiet_want; refine quiet_load_cells 28 3 _ rfl w.heap.size 0 rfl #[.slice oe n ce, .int .i64 F, .slice orr m cr] rfl HBQ.out _ Try.underlying28 rfl (by kernel_rfl) ?_; go_simp; go_big_quiet_on) | go_big_quiet_step (fail))
    refine wpQuiet_nil ?_
    unfold wpAct
    unfold wpPhases
    intro hz; clear hz
    go_wp2
    go_ret
    exact ⟨rfl, ex_ext (HUP.out _ HBd.out)⟩
end Go.Cm
