/- Texts of this claim, joined: walks of small functions and plain facts about them. Conditions: as each says. -/
import Derived.Test.YtbbkikfjidkkdaaGL
/- The walk of NfaJoins. Conditions: none. -/
namespace Go.Cm
open Go.RowKit Go.Proofs

theorem setL_pre (n m : Nat) (h : m ≤ n) (P : Nat → Prop) : ∃ tl, setL n P = setL m P ++ tl := by
  induction n with
  | zero => obtain rfl : m = 0 := by omega
            exact ⟨[], by simp⟩
  | succ n ih =>
    by_cases hm : m ≤ n
    · obtain ⟨tl, h1⟩ := ih hm
      exact ⟨_, by rw [setL_succ, h1, List.append_assoc]⟩
    · obtain rfl : m = n + 1 := by omega
      exact ⟨[], by simp⟩
theorem setL_yes {n i : Nat} {P : Nat → Prop} (hi : i < n) (hp : P i) : (setL i P).length < (setL n P).length ∧ (setL n P).getD (setL i P).length 0 = i := by
  obtain ⟨tl, h⟩ := setL_pre n (i + 1) hi P
  have h1 : setL (i + 1) P = setL i P ++ [i] := by rw [setL_succ, @decide_eq_true _ (Classical.propDecidable _) hp]; simp
  rw [h, h1]
  simp [List.getD]
theorem setL_no {n i : Nat} {P : Nat → Prop} (hp : ¬ P i) (h : (setL i P).length < (setL n P).length) : (setL n P).getD (setL i P).length 0 ≠ i := by
  intro e
  have hm : (setL n P).getD (setL i P).length 0 ∈ setL n P := by simp [List.getD, h]
  rw [e, mem_setL] at hm
  exact hp hm.2
theorem setL_succ_len (i : Nat) (P : Nat → Prop) : (P i → (setL (i + 1) P).length = (setL i P).length + 1) ∧ (¬ P i → (setL (i + 1) P).length = (setL i P).length) := by
  constructor
  · intro hp; rw [setL_succ, @decide_eq_true _ (Classical.propDecidable _) hp]; simp
  · intro hp; rw [setL_succ, @decide_eq_false _ (Classical.propDecidable _) hp]; simp
theorem run_one_yes {l : List Nd} {t : List Nat} (h : langL l t) : setL ([l] : List (List Nd)).length (fun k => langL (([l] : List (List Nd)).getD k []) t) = [0] := by
  have : setL 1 (fun k => langL (([l] : List (List Nd)).getD k []) t) = (List.range 1).filter (fun _ => true) := setL_dec _ fun i hi => by
    obtain rfl : i = 0 := by omega
    exact ⟨fun _ => rfl, fun _ => h⟩
  exact this
theorem run_one_no {l : List Nd} {t : List Nat} (h : ¬ langL l t) : setL ([l] : List (List Nd)).length (fun k => langL (([l] : List (List Nd)).getD k []) t) = [] := by
  have : setL 1 (fun k => langL (([l] : List (List Nd)).getD k []) t) = (List.range 1).filter (fun _ => false) := setL_dec _ fun i hi => by
    obtain rfl : i = 0 := by omega
    exact ⟨fun hh => absurd hh h, fun hh => by cases hh⟩
  exact this
theorem may_one {ll : List (List Nd)} (h : mayL ll = 0) (i : Nat) (hi : i < ll.length) : mayL [ll.getD i []] = 0 := by
  obtain ⟨h1, h2, h3, h4⟩ := may_ok h
  have hm : ll.getD i [] ∈ ll := by simp [List.getD, hi]
  have hs := sumS_succ ll i hi
  have hle := sumS_le ll i (by omega)
  have hle2 := sumS_le ll (i + 1) (by omega)
  unfold mayL
  rw [if_neg (by simp), if_neg (by simp), if_neg, if_neg]
  · simp only [List.map_cons, List.map_nil, List.sum_cons, List.sum_nil]
    omega
  · intro hn
    refine hn fun l hl => ?_
    rw [List.mem_singleton.1 hl]
    exact h1 _ hm
theorem Sl.mid {P : Program} {w : World} {v : Value} {l : List Value} (h : Sl w v l) (t E : TypeId) (ht : P.underlying t = some (.slice E)) (hE : (P.info? E).map (·.size) = some 1) (n m : Nat) (hn : n ≤ m) (hm : m ≤ l.length) :
    ∃ u, (∀ W : World, (Instr.sliceAt t v (some (.int .i64 (n : Int))) (some (.int .i64 (m : Int))) none).run P W = .ok u W) ∧ Sl w u ((l.drop n).take (m - n)) := by
  obtain ⟨oa, cap, b, off, rfl, hd, hc⟩ := h
  obtain ⟨h1, h2⟩ := run_cutK t E ht hE
  have hcap := hd.hcap
  have hl : ((l.drop n).take (m - n)).length = m - n := by rw [List.length_take, List.length_drop]; omega
  refine ⟨sliced oa n m cap 1, fun W => ?_, ?_⟩
  · rw [run_sliceAt_slice (P := P) (t := t) (h := h1), run_slice_lh (t := t) (ht := h1) (h0 := by omega) (h1 := by omega) (h2 := by omega), h2]
    simp [Result.andThen]
  · refine ⟨if cap = n then oa else oa.map (·.add (n * 1)), cap - n, b, off + n, by rw [hl]; simp [sliced], ⟨fun h0 => ?_, by omega, by have := hd.hmax; omega, by have := hd.hsml; omega, fun h0 => hd.hblk (by omega)⟩, fun i hi => ?_⟩
    · rw [hl] at h0
      rw [if_neg (by omega), hd.hat (by omega)]
      simp [add_off]
    · rw [hl] at hi
      rw [Nat.add_assoc, hc (n + i) (by omega)]
      simp [List.getD, hi]
theorem TreesAt.one {w : World} {v : Value} {ll : List (List Nd)} (h : TreesAt w v ll) (i : Nat) (hi : i < ll.length) :
    ∃ u, (∀ W : World, (Instr.sliceAt 22 v (some (.int .i64 (i : Int))) (some (.int .i64 ((i : Int) + 1))) none).run Try.prog W = .ok u W) ∧ TreesAt w u [ll.getD i []] := by
  obtain ⟨vs, h1, h2, h3⟩ := h
  obtain ⟨u, hu, hs⟩ := h1.mid (P := Try.prog) 22 35 Try.underlying22 (by kernel_rfl) i (i + 1) (Nat.le_succ _) (by omega)
  refine ⟨u, fun W => by have := hu W; push_cast at this; exact this, [vs.getD i undef], ?_, rfl, fun j hj => ?_⟩
  · have e : (vs.drop i).take (i + 1 - i) = [vs.getD i undef] := by
      rw [Nat.add_sub_cancel_left]
      rw [List.drop_eq_getElem_cons (show i < vs.length by omega), List.take_succ_cons, List.take_zero]
      simp [List.getD, show i < vs.length by omega]
    rw [e] at hs
    exact hs
  · obtain rfl : j = 0 := by simpa using hj
    exact h3 i hi
set_option maxRecDepth 100000 in
set_option maxHeartbeats 8000000 in
theorem nfaJoins {w : World} {v : Value} {ll : List (List Nd)} (h : TreesAt w v ll) (hq : TreesQ ll) (s : ByteArray) (hs63 : s.size ≤ 140737488351232) :
    Calls Try.prog 5 #[v, .string s] w fun e w' => e = .returned (.bool true) ∧ ∃ x, w' = ext w x := by
  have HFEW := Lib.hid (fewR h 300)
  have HTR := Lib.hid h
  obtain ⟨oa, cap, b, off, rfl, hd, hc⟩ := h.open
  have hml := hd.len
  have HMKQ := Lib.hid (fun (x : World) (hb : Below w.heap.size w x) => makeQ (h.up hb) hq)
  have HKN := Lib.hid (fun (x : World) => knownN (w := x))
  have HQ := Lib.hid hq
  clear hd hc h hq
  obtain ⟨n, hn⟩ : ∃ n, n = ll.length := ⟨_, rfl⟩
  have HN := Lib.hid hn
  rw [← hn] at hml HFEW HTR HMKQ ⊢
  clear hn
  obtain ⟨R, hR⟩ : ∃ R, R = mayL ll := ⟨_, rfl⟩
  have HR := Lib.hid hR
  rw [← hR] at HMKQ
  clear hR
  by_cases hbig : 20 < s.size
  · go_enter Try.func5, Try.ntmps5
    go_wp2_with (first
      | ((with_reducible go_at_call 7); refine HFEW.out.mono ?_; rintro en w1 ⟨⟨bf, rfl⟩, x1, rfl⟩; cases bf)
      | ((with_reducible go_at_call 8); refine (HKN.out _).mono ?_; rintro en w2 ⟨rfl, x2, rfl⟩))
    all_goals (go_ret; exact ⟨rfl, ex_ext (b_ext' (ext_below w x1) x2)⟩)
  go_enter Try.func5, Try.ntmps5
  go_upto_region 3 with (first
    | ((with_reducible go_at_call 7); refine HFEW.out.mono ?_; rintro en w1 ⟨⟨bf, rfl⟩, x1, rfl⟩; cases bf)
    | ((with_reducible go_at_call 8); refine (HKN.out _).mono ?_; rintro en w2 ⟨rfl, x2, rfl⟩))
  · go_ret
    exact ⟨rfl, ex_ext (b_ext' (ext_below w x1) x2)⟩
  have HB1 := Lib.hid (ext_below w x1)
  clear HFEW
  generalize ext w x1 = w1 at *
  have hs32 : s.size ≤ 4294967296 := by omega
  by_cases h0 : R = 0
  · subst h0
    have HONE := Lib.hid (fun (i : Nat) (hi : i < ll.length) => may_one HR.out.symm i hi)
    go_upto_region 6 with ((with_reducible go_at_call 9); refine (HMKQ.out _ HB1.out).mono ?_; rintro en w2 ⟨oe, n2, ce, orr, m, cr, ee, rr, rfl, -, hv, hrt, -, hb⟩; have HB2 := Lib.hid (HB1.out.trans (hb.mono HB1.out.size)); have HV := Lib.hid hv; have HRT := Lib.hid (hrt rfl); clear hv hrt hb)
    have HA3 := Lib.hid (below_alloc w2 (.cells #[.slice oe n2 ce, .int .i64 0, .slice orr m cr] 28))
    have HB3 := Lib.hid (HB2.out.trans (HA3.out.mono HB2.out.size))
    have HRUN := Lib.hid (nfaRunP (HV.out.up HA3.out) s hs32)
    rw [HRT.out.2] at HRUN
    obtain ⟨P, hP⟩ : ∃ P : Nat → Prop, P = fun k => langL (ll.getD k []) (txt s) := ⟨_, rfl⟩
    have HP := Lib.hid hP
    rw [← hP] at HRUN
    clear hP HB2 HV HRT HA3 HMKQ
    go_upto_region 7 with ((with_reducible go_at_call 16); refine HRUN.out.mono ?_; rintro en w4 ⟨u, rfl, ho, hb⟩; have HO4 := Lib.hid ho; have HB4 := Lib.hid (HB3.out.trans (hb.mono HB3.out.size)); clear ho hb)
    clear HRUN HB3
    obtain ⟨L, hL⟩ : ∃ L, L = setL n P := ⟨_, rfl⟩
    have HLS := Lib.hid hL
    rw [← hL] at HO4
    obtain ⟨og, cg, gg, rfl, hdg, -, hcg, -⟩ := HO4.out.cases
    rw [show (ints (nz L)).length = L.length by simp [nz]] at hdg hcg ⊢
    have HCG : Hid (∀ i, i < L.length → w4.cell? ⟨gg, i, none⟩ = some (.int .i64 ((L.getD i 0 : Nat) : Int))) := Lib.hid (fun i hi => by rw [hcg i hi, ints_getD _ _ (by simpa [nz] using hi), nz_getD _ _ hi])
    have hixg := fun (W : World) (i : Nat) (hi : i < L.length) => index_any (P := Try.prog) 26 3 Try.underlying26 (by kernel_rfl) hdg W .i64 i (by omega) (by omega)
    simp only [Int.toNat_natCast, Nat.zero_add] at hixg
    have HGG := Lib.hid hdg.hblk
    have hmg := hdg.len
    obtain ⟨ln, hln⟩ : ∃ ln, ln = L.length := ⟨_, rfl⟩
    have HLN := Lib.hid hln
    rw [← hln] at hixg HGG HCG hmg ⊢
    clear hdg hcg hL hln HO4
    go_wp2
    go_loopg [8, 9] n (fun gk av iv wr => ∃ i a : Nat, av = .int .i64 a ∧ iv = .int .i64 i ∧ i ≤ n ∧ a = (setL i P).length ∧ Below w4.heap.size w4 wr ∧ gk = n - i)
    case atStart => exact ⟨0, 0, rfl, rfl, Nat.zero_le _, rfl, Below.refl _ _, rfl⟩
    case round =>
      obtain ⟨i, a, rfl, rfl, hi, ha, hbl, rfl⟩ := hrel
      have HW := Lib.hid hbl
      have HWW := Lib.hid (HB4.out.trans (hbl.mono HB4.out.size))
      have HAA := Lib.hid ha
      have hai : a ≤ i := by rw [ha]; exact setL_len _ _
      clear hbl ha
      by_cases hlt : i < n
      · obtain ⟨u1, hcut, htr1⟩ := (HTR.out.up HWW.out).one i (by have := HN.out; omega)
        have hlm : ll.getD i [] ∈ ll := by have := HN.out; simp [List.getD, show i < ll.length by omega]
        have HMQ1 := Lib.hid (makeQ htr1 (fun l hl z hz => HQ.out l (by rw [List.mem_singleton.1 hl]; exact hlm) z hz))
        rw [HONE.out i (by have := HN.out; omega)] at HMQ1
        have HPI : Hid (P i = langL (ll.getD i []) (txt s)) := Lib.hid (by rw [HP.out])
        generalize ll.getD i [] = l at *
        clear htr1 hlm
        have HPS := Lib.hid (setL_succ_len i P)
        have hsw := HW.out.size
        by_cases hp : P i
        · have HRO := Lib.hid (run_one_yes (l := l) (t := txt s) (by rw [HPI.out] at hp; exact hp))
          have hyes := setL_yes hlt hp
          rw [← HLS.out, ← HLN.out, ← HAA.out] at hyes
          have hal := hyes.1
          have hcg := (HW.out.cell (p := ⟨gg, a, none⟩) (HGG.out (by omega))).trans (HCG.out a hal)
          rw [hyes.2] at hcg
          have hgw : gg < wr.heap.size := by have := HGG.out (by omega); omega
          have hixa := fun W => hixg W a hal
          have HA1 : Hid (a + 1 = (setL (i + 1) P).length) := Lib.hid (by rw [HPS.out.1 hp, ← HAA.out])
          clear hyes hp
          go_wp2_with (first
            | ((with_reducible go_at_call 9); refine HMQ1.out.mono ?_; rintro en w5 ⟨oe5, n5, ce5, orr5, m5, cr5, ee5, rr5, rfl, -, hv, hrt, -, hb⟩; have HB5 := Lib.hid hb; have HV5 := Lib.hid hv; have HRT5 := Lib.hid (hrt rfl); have HA6 := Lib.hid (below_alloc w5 (.cells #[.slice oe5 n5 ce5, .int .i64 0, .slice orr5 m5 cr5] 28)); have HR6 := Lib.hid (nfaRunP (HV5.out.up HA6.out) s hs32); rw [HRT5.out.2, HRO.out] at HR6; clear hv hrt hb)
            | ((with_reducible go_at_call 16); refine HR6.out.mono ?_; rintro en w7 ⟨u7, rfl, ho, hb⟩; have HB7 := Lib.hid (HB5.out.trans ((HA6.out.trans (hb.mono HA6.out.size)).mono HB5.out.size)); obtain ⟨o7, c7, g7, rfl, -⟩ := ho.cases; rw [show (ints (nz [0])).length = 1 from rfl]; have hcg7 := (HB7.out.cell (p := ⟨gg, a, none⟩) hgw).trans hcg; have hgw7 : gg < w7.heap.size := Nat.lt_of_lt_of_le hgw HB7.out.size; clear ho hb))
          go_roundg (n - (i + 1))
          case measure => omega
          case rel => exact ⟨i + 1, a + 1, by go_num, by go_num, by omega, HA1.out, HW.out.trans (HB7.out.mono HW.out.size), rfl⟩
        · have HRO := Lib.hid (run_one_no (l := l) (t := txt s) (by rw [HPI.out] at hp; exact hp))
          have HA1 : Hid (a = (setL (i + 1) P).length) := Lib.hid (by rw [HPS.out.2 hp, ← HAA.out])
          by_cases hal : a < ln
          · have hno := setL_no (n := n) (i := i) hp (by rw [← HLS.out, ← HLN.out, ← HAA.out]; exact hal)
            rw [← HLS.out, ← HAA.out] at hno
            have hcg := (HW.out.cell (p := ⟨gg, a, none⟩) (HGG.out (by omega))).trans (HCG.out a hal)
            have hgw : gg < wr.heap.size := by have := HGG.out (by omega); omega
            have hixa := fun W => hixg W a hal
            obtain ⟨y, hy⟩ : ∃ y, y = L.getD a 0 := ⟨_, rfl⟩
            rw [← hy] at hcg hno
            have hbe : ((y : Int) == (i : Int)) = false := by simp; omega
            clear hp hy
            go_wp2_with (first
              | ((with_reducible go_at_call 9); refine HMQ1.out.mono ?_; rintro en w5 ⟨oe5, n5, ce5, orr5, m5, cr5, ee5, rr5, rfl, -, hv, hrt, -, hb⟩; have HB5 := Lib.hid hb; have HV5 := Lib.hid hv; have HRT5 := Lib.hid (hrt rfl); have HA6 := Lib.hid (below_alloc w5 (.cells #[.slice oe5 n5 ce5, .int .i64 0, .slice orr5 m5 cr5] 28)); have HR6 := Lib.hid (nfaRunP (HV5.out.up HA6.out) s hs32); rw [HRT5.out.2, HRO.out] at HR6; clear hv hrt hb)
              | ((with_reducible go_at_call 16); refine HR6.out.mono ?_; rintro en w7 ⟨u7, rfl, ho, hb⟩; have HB7 := Lib.hid (HB5.out.trans ((HA6.out.trans (hb.mono HA6.out.size)).mono HB5.out.size)); obtain ⟨o7, c7, g7, rfl, -⟩ := ho.cases; rw [show (ints (nz [])).length = 0 from rfl]; have hcg7 := (HB7.out.cell (p := ⟨gg, a, none⟩) hgw).trans hcg; have hgw7 : gg < w7.heap.size := Nat.lt_of_lt_of_le hgw HB7.out.size; clear ho hb))
            go_roundg (n - (i + 1))
            case measure => omega
            case rel => exact ⟨i + 1, a, rfl, by go_num, by omega, HA1.out, HW.out.trans (HB7.out.mono HW.out.size), rfl⟩
          · clear hp
            go_wp2_with (first
              | ((with_reducible go_at_call 9); refine HMQ1.out.mono ?_; rintro en w5 ⟨oe5, n5, ce5, orr5, m5, cr5, ee5, rr5, rfl, -, hv, hrt, -, hb⟩; have HB5 := Lib.hid hb; have HV5 := Lib.hid hv; have HRT5 := Lib.hid (hrt rfl); have HA6 := Lib.hid (below_alloc w5 (.cells #[.slice oe5 n5 ce5, .int .i64 0, .slice orr5 m5 cr5] 28)); have HR6 := Lib.hid (nfaRunP (HV5.out.up HA6.out) s hs32); rw [HRT5.out.2, HRO.out] at HR6; clear hv hrt hb)
              | ((with_reducible go_at_call 16); refine HR6.out.mono ?_; rintro en w7 ⟨u7, rfl, ho, hb⟩; have HB7 := Lib.hid (HB5.out.trans ((HA6.out.trans (hb.mono HA6.out.size)).mono HB5.out.size)); obtain ⟨o7, c7, g7, rfl, -⟩ := ho.cases; rw [show (ints (nz [])).length = 0 from rfl]; clear ho hb))
            go_roundg (n - (i + 1))
            case measure => omega
            case rel => exact ⟨i + 1, a, rfl, by go_num, by omega, HA1.out, HW.out.trans (HB7.out.mono HW.out.size), rfl⟩
      · have hie : i = n := by omega
        subst hie
        have hal : a = ln := by rw [HAA.out, HLN.out, HLS.out]
        subst hal
        go_wp2_with ((with_reducible go_at_call 8); refine (HKN.out _).mono ?_; rintro en w3 ⟨rfl, x3, rfl⟩)
        go_ret
        exact ⟨rfl, ex_ext (HWW.out.trans ((ext_below _ x3).mono HWW.out.size))⟩
  · go_wp2_with (first
      | ((with_reducible go_at_call 9); refine (HMKQ.out _ HB1.out).mono ?_; rintro en w2 ⟨oe, n2, ce, orr, m, cr, ee, rr, rfl, -, -, -, -, hb⟩; have HB2 := Lib.hid (HB1.out.trans (hb.mono HB1.out.size)); have HA3 := Lib.hid (below_alloc w2 (.cells #[.slice oe n2 ce, .int .i64 0, .slice orr m cr] 28)); clear hb)
      | ((with_reducible go_at_call 8); refine (HKN.out _).mono ?_; rintro en w3 ⟨rfl, x3, rfl⟩))
    go_ret
    exact ⟨rfl, ex_ext ((HB2.out.trans (HA3.out.mono HB2.out.size)).trans ((ext_below _ x3).mono (by have := HB2.out.size; have := HA3.out.size; omega)))⟩
end Go.Cm
