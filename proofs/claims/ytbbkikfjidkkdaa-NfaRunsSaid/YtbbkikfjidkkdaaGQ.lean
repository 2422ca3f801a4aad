/- Texts of this claim, joined: walks of small functions and plain facts about them. Conditions: as each says. -/
import Derived.Test.YtbbkikfjidkkdaaGP
/- The walk of NfaMatches. Conditions: none. -/
namespace Go.Cm
open Go.RowKit Go.Proofs

theorem ints_eq {w : World} {v u : Value} {a : List Int} (h : IntsAt w v a) (h2 : IntsAt w u a) :
    Calls Try.prog 15 #[v, u] w fun e w' => e = .returned (.bool true) ∧ ∃ x, w' = ext w x := by
  have := intsR h h2
  simpa using this
theorem wq_setW {x : Ed} (h : WQ x.a ∧ WQ x.b ∧ WQ x.c ∧ WQ x.d) : SetW x := fun q => by
  obtain ⟨h1, h2, h3, h4⟩ := h
  unfold wordN
  (repeat' split) <;> first | exact h1.1 | exact h2.1 | exact h3.1 | exact h4.1
theorem edq_setW {x : Ed} (h : EdQ x) : SetW x := wq_setW h.2
set_option maxRecDepth 100000 in
set_option maxHeartbeats 8000000 in
theorem nfaMatches {w : World} {v : Value} {ll : List (List Nd)} (h : TreesAt w v ll) (hq : TreesQ ll) (s : ByteArray) (hs63 : s.size ≤ 140737488351232) :
    Calls Try.prog 4 #[v, .string s] w fun e w' => e = .returned (.bool true) ∧ ∃ x, w' = ext w x := by
  have HFEW := Lib.hid (fewR h 300)
  have HTR := Lib.hid h
  obtain ⟨oa, cap, b, off, rfl, hd, hc⟩ := h.open
  have hml := hd.len
  have HMKQ := Lib.hid (fun (x : World) (hb : Below w.heap.size w x) => makeQ (h.up hb) hq)
  have HKN := Lib.hid (fun (x : World) => knownN (w := x))
  have HQ := Lib.hid hq
  clear hd hc h hq
  obtain ⟨n, hn⟩ : ∃ n, n = ll.length := ⟨_, rfl⟩
  have HN := Lib.hid hn
  rw [← hn] at hml HFEW HTR HMKQ ⊢
  clear hn
  obtain ⟨R, hR⟩ : ∃ R, R = mayL ll := ⟨_, rfl⟩
  have HR := Lib.hid hR
  rw [← hR] at HMKQ
  clear hR
  by_cases hbig : 20 < s.size
  · go_enter Try.func4, Try.ntmps4
    go_wp2_with (first
      | ((with_reducible go_at_call 7); refine HFEW.out.mono ?_; rintro en w1 ⟨⟨bf, rfl⟩, x1, rfl⟩; cases bf)
      | ((with_reducible go_at_call 8); refine (HKN.out _).mono ?_; rintro en w2 ⟨rfl, x2, rfl⟩))
    all_goals (go_ret; exact ⟨rfl, ex_ext (b_ext' (ext_below w x1) x2)⟩)
  go_enter Try.func4, Try.ntmps4
  go_upto_region 3 with (first
    | ((with_reducible go_at_call 7); refine HFEW.out.mono ?_; rintro en w1 ⟨⟨bf, rfl⟩, x1, rfl⟩; cases bf)
    | ((with_reducible go_at_call 8); refine (HKN.out _).mono ?_; rintro en w2 ⟨rfl, x2, rfl⟩))
  · go_ret
    exact ⟨rfl, ex_ext (b_ext' (ext_below w x1) x2)⟩
  have HB1 := Lib.hid (ext_below w x1)
  clear HFEW
  generalize ext w x1 = w1 at *
  have hs32 : s.size ≤ 4294967296 := by omega
  by_cases h0 : R = 0
  · subst h0
    obtain ⟨hmo1, -, hmo2, -⟩ := may_ok HR.out.symm
    have HMAT := Lib.hid (fun (x : World) (hb : Below w.heap.size w x) => matchingR (HTR.out.up hb) hmo1 HQ.out hmo2 s (by omega))
    obtain ⟨P, hP⟩ : ∃ P : Nat → Prop, P = fun k => langL (ll.getD k []) (txt s) := ⟨_, rfl⟩
    rw [← hP, ← HN.out] at HMAT
    have HP := Lib.hid hP
    clear hP hmo1 hmo2
    go_upto_region 6 with ((with_reducible go_at_call 9); refine (HMKQ.out _ HB1.out).mono ?_; rintro en w2 ⟨oe, n2, ce, orr, m, cr, ee, rr, rfl, -, hv, hrt, hed, hb⟩; have HB2 := Lib.hid (HB1.out.trans (hb.mono HB1.out.size)); have HV := Lib.hid hv; have HRT := Lib.hid (hrt rfl); have HED := Lib.hid (hed rfl); clear hv hrt hb hed)
    have HA3 := Lib.hid (below_alloc w2 (.cells #[.slice oe n2 ce, .int .i64 0, .slice orr m cr] 28))
    have HB3 := Lib.hid (HB2.out.trans (HA3.out.mono HB2.out.size))
    have HBX := Lib.hid (by simpa using own_lit w2 0 #[.slice oe n2 ce, .int .i64 0, .slice orr m cr] 28 (by simp) (Nat.zero_le _) : Own (w2.alloc (.cells #[.slice oe n2 ce, .int .i64 0, .slice orr m cr] 28)) 0 28 (.slice (some ⟨w2.heap.size, 0, none⟩) 3 3) [.slice oe n2 ce, .int .i64 0, .slice orr m cr])
    have HRUN := Lib.hid (nfaRunP (HV.out.up HA3.out) s hs32)
    have HRUD := Lib.hid (fun (x : World) (hb : Below (w2.alloc (.cells #[.slice oe n2 ce, .int .i64 0, .slice orr m cr] 28)).heap.size (w2.alloc (.cells #[.slice oe n2 ce, .int .i64 0, .slice orr m cr] 28)) x) => nfaRunR ((HV.out.up HA3.out).up hb) (fun a e he => edq_setW (HED.out a e he)) s hs32)
    rw [HRT.out.2, ← HP.out] at HRUN HRUD
    obtain ⟨L, hL⟩ : ∃ L, L = nz (setL n P) := ⟨_, rfl⟩
    rw [← hL] at HRUN HRUD HMAT
    clear hL HP HRT HED HV HMKQ HTR HQ HR HN HB2
    go_wp2_with (first
      | ((with_reducible go_at_call 16); refine HRUN.out.mono ?_; rintro en w4 ⟨u, rfl, ho, hb⟩; have HO4 := Lib.hid (show IntsAt w4 u L from ho.sl); have HB34 := Lib.hid hb; have HB4 := Lib.hid (HB3.out.trans (hb.mono HB3.out.size)); clear ho hb)
      | ((with_reducible go_at_call 17); refine (HMAT.out _ HB4.out).mono ?_; rintro en w5 ⟨u5, rfl, hi5, x5, rfl⟩; have HI5 := Lib.hid hi5; have HO5 := Lib.hid (HO4.out.up (ext_below w4 x5)); have HB35 := Lib.hid (HB34.out.trans ((ext_below w4 x5).mono HB34.out.size)); clear hi5 HB4; generalize ext w4 x5 = w5 at *)
      | ((with_reducible go_at_call 15); refine (ints_eq HO5.out HI5.out).mono ?_; rintro en w6 ⟨rfl, x6, rfl⟩; have HB36 := Lib.hid (HB35.out.trans ((ext_below w5 x6).mono HB35.out.size)); clear HO5 HI5; generalize ext w5 x6 = w6 at *; have HBX6 := Lib.hid (HBX.out.up HB36.out); have c0 := HBX6.out.cell (i := 0) (by simp); have c1 := HBX6.out.cell (i := 1) (by simp); have c2 := HBX6.out.cell (i := 2) (by simp); simp only [List.getD_cons_zero, List.getD_cons_succ] at c0 c1 c2; have hp := HBX6.out.blk.2)
      | ((with_reducible go_at_call 18); refine (HRUD.out _ HB36.out).mono ?_; rintro en w7 ⟨u7, rfl, hi7, hb⟩; have HI7 := Lib.hid hi7; have HB37 := Lib.hid (HB36.out.trans (hb.mono HB36.out.size)); have HB7 := Lib.hid (HB3.out.trans (HB37.out.mono HB3.out.size)); clear hi7 hb c0 c1 c2 hp)
      | ((with_reducible go_at_call 17); refine (HMAT.out _ HB7.out).mono ?_; rintro en w8 ⟨u8, rfl, hi8, x8, rfl⟩; have HI8 := Lib.hid hi8; have HO8 := Lib.hid (HI7.out.up (ext_below w7 x8)); have HB8 := Lib.hid (HB7.out.trans ((ext_below w7 x8).mono HB7.out.size)); clear hi8 HB7; generalize ext w7 x8 = w8 at *)
      | ((with_reducible go_at_call 15); refine (ints_eq HO8.out HI8.out).mono ?_; rintro en w9 ⟨rfl, x9, rfl⟩; have HB9 := Lib.hid (HB8.out.trans ((ext_below w8 x9).mono HB8.out.size)); clear HO8 HI8; generalize ext w8 x9 = w9 at *)
      | ((with_reducible go_at_call 8); refine (HKN.out _).mono ?_; rintro en w10 ⟨rfl, x10, rfl⟩))
    go_ret
    exact ⟨rfl, ex_ext (HB9.out.trans ((ext_below w9 x10).mono HB9.out.size))⟩
  · go_wp2_with (first
      | ((with_reducible go_at_call 9); refine (HMKQ.out _ HB1.out).mono ?_; rintro en w2 ⟨oe, n2, ce, orr, m, cr, ee, rr, rfl, -, -, -, -, hb⟩; have HB2 := Lib.hid (HB1.out.trans (hb.mono HB1.out.size)); have HA3 := Lib.hid (below_alloc w2 (.cells #[.slice oe n2 ce, .int .i64 0, .slice orr m cr] 28)); clear hb)
      | ((with_reducible go_at_call 8); refine (HKN.out _).mono ?_; rintro en w3 ⟨rfl, x3, rfl⟩))
    go_ret
    exact ⟨rfl, ex_ext ((HB2.out.trans (HA3.out.mono HB2.out.size)).trans ((ext_below _ x3).mono (by have := HB2.out.size; have := HA3.out.size; omega)))⟩
end Go.Cm
