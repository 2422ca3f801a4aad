/- Texts of this claim, joined: walks of small functions and plain facts about them. Conditions: as each says. -/
import Derived.Test.YticlfmakdblbkaaGA
import Derived.Test.YticlfmakdblbkaaGB
import Derived.Deep.LoopGhost
import Derived.Laws.Small
/- The walks of the bit writer. Conditions: none. -/
namespace Go.Cm
open Go.RowKit Go.Proofs

theorem thereP {w : World} {g : Nat} {vb : Value} {rest n : Nat} (h : BoxW w g vb rest n) : Calls Try.prog 43 #[.pointer (some ⟨g, 0, none⟩)] w fun e w' => e = .returned (.bool true) ∧ w' = w := by
  have h0 := h.c0
  have hg := h.lt
  go_enter Try.func43, Try.ntmps43
  go_wp2
  go_ret
  exact ⟨rfl, rfl⟩
theorem openP (w : World) : Calls Try.prog 20 #[] w fun e w' => ∃ g, e = .returned (.pointer (some ⟨g, 0, none⟩)) ∧ WrtP w' w.heap.size g 0 0 ∧ Below w.heap.size w w' := by
  go_enter Try.func20, Try.ntmps20
  go_wp2
  go_ret
  have ho := own_lit w w.heap.size #[Value.bool true, Value.slice none 0 0, Value.int .u64 0, Value.int .i64 0] 76 (by decide) (Nat.le_refl _)
  exact ⟨w.heap.size, rfl, ⟨⟨.slice none 0 0, ⟨ho⟩, Own.nil _ _ _, by simp [Value.ownBlock]⟩, Nat.le_refl _, by decide⟩, below_alloc _ _⟩

theorem putV {w : World} {B g N L : Nat} {vb0 : Value} (h : WrtV w B g N L vb0) (v n : Nat) (hv : v < 2 ^ n) (hn : n ≤ 32) (hL : L + n ≤ 34359738368) :
    Calls Try.prog 21 #[.pointer (some ⟨g, 0, none⟩), .int .i64 v, .int .i64 n] w fun e w' => e = .returned (.int .i64 0) ∧ ∃ vb0', WrtV w' B g (N + v * 2 ^ L) (L + n) vb0' ∧ Below B w w' ∧ Fr g vb0 vb0' w w' := by
  obtain ⟨hbox, hown, hne, hge, hlt⟩ := h
  have hv32 : v < 4294967296 := Nat.lt_of_lt_of_le hv (Nat.pow_le_pow_right (n := 2) (by decide) hn)
  have hd : decide (0 ≤ (n : Int) ∧ (n : Int) ≤ 32) = true := by simp; omega
  have hn0 : (0 : Int) ≤ (n : Int) := by omega
  have hz : (v : Int) / 2 ^ n = 0 := by
    have : (v : Int) / 2 ^ n = ((v / 2 ^ n : Nat) : Int) := by norm_cast
    rw [this, Nat.div_eq_of_lt hv]; rfl
  have hrl := rest_lt N L hlt
  have hl8 : L % 8 < 8 := Nat.mod_lt _ (by decide)
  have HOR : Hid (bits .or .u64 ((N / 256 ^ (L / 8) : Nat) : Int) (IntKind.u64.wrap ((v : Int) * 2 ^ (L % 8))) = ((N / 256 ^ (L / 8) + v * 2 ^ (L % 8) : Nat) : Int)) := Lib.hid (by rw [IntKind.wrap_u64]; exact or_u64 (N / 256 ^ (L / 8)) v (L % 8) hrl hl8 hv32)
  have hv0 : ¬ (v : Int) < 0 := by omega
  have HRA := Lib.hid (rest_add N v L)
  have HBA := Lib.hid (bytesN_add N v L)
  have HB := Lib.hid hbox
  have HO := Lib.hid hown
  have c2 := hbox.c2
  have c3 := hbox.c3
  have f2 := hbox.free 2
  have f3 := hbox.free 3
  have hg := hbox.lt
  clear hbox hown hrl
  go_enter Try.func21, Try.ntmps21
  go_wp2_with (first | (go_at_call 43; refine (thereP HB.out).mono ?_; rintro e w' ⟨rfl, hw'⟩; rw [hw']; clear hw') | (go_at_call 44; refine (many _ _).mono ?_; rintro e w' ⟨rfl, hw'⟩; rw [hw', hd]; clear hw'))
  have hgB : Below B w w := Below.refl _ _
  generalize hR : N / 256 ^ (L / 8) = r at *
  generalize hM : L % 8 = m at *
  obtain ⟨q, hq⟩ : ∃ q, q = r + v * 2 ^ m := ⟨_, rfl⟩
  have HQ := Lib.hid hq
  rw [← hq] at HOR
  clear hq
  refine wp_region_tailg [0,1,2,3,4,5,6,7,8,9,10,11,12] [13,14] [15] (by kernel_rfl) (by kernel_rfl) ?_
  simp only [pick, List.map_cons, List.map_nil, List.getD_cons_zero, List.getD_cons_succ]
  repeat (go_big_quiet_step (fail))
  refine wpQuiet_nil ?_
  rw [HOR.out]
  (unfold wpAct; go_wp2; refine ⟨(ex_ext (by repeat (first | exact Below.refl _ _ | assumption | refine b_drewN ?_ _ | refine Below.drew ?_ | refine b_ext' ?_ _ | refine b_alloc' ?_ _))), ?_⟩)
  (unfold wpAct; go_wp2; refine ⟨(ex_ext (by repeat (first | exact Below.refl _ _ | assumption | refine b_drewN ?_ _ | refine Below.drew ?_ | refine b_ext' ?_ _ | refine b_alloc' ?_ _))), ?_⟩)
  unfold wpAct
  have HST := Lib.hid (HB.out.set2 q)
  unfold wpAct
  go_wp2
  refine ⟨trivial, ?_⟩
  unfold wpAct
  have HG1 := Lib.hid (grown_trans HST.out.2 (grown_drew _ (some g)))
  have HB1 := Lib.hid (HST.out.1.up (b_drew1 (Below.refl _ _)))
  clear HST
  generalize (w.setCell ⟨g, 2, none⟩ (.int .u64 (q : Int))).drew = w1 at *
  have HO1 := Lib.hid (HO.out.keep HG1.out (.inr hne))
  have HL1 : Hid (Below B w w1) := Lib.hid ((Below.refl B w).grown HG1.out (Nat.le_of_lt (Nat.lt_of_le_of_lt hge hg)) (fun k hk => by cases hk; exact hge))
  have HF1 := Lib.hid ((Fr.refl g vb0 w).step HG1.out (fun k e => by cases e; exact .inl rfl))
  clear c2 c3 f2 f3 hg HB HO HG1 HOR hgB
  have c3 := HB1.out.c3
  have f3 := HB1.out.free 3
  have hg := HB1.out.lt
  obtain ⟨s, hs⟩ : ∃ s, s = m + n := ⟨_, rfl⟩
  have hst := HB1.out.set3 (m + n)
  rw [Int.natCast_add, ← hs] at hst
  have HST := Lib.hid hst
  clear hst
  have HS := Lib.hid hs
  have HR := Lib.hid hR
  have HM := Lib.hid hM
  have HV := Lib.hid hv
  have HLT := Lib.hid hlt
  have HL := Lib.hid hL
  clear hs hR hM hv hlt hL hz hd hv0 hn0
  go_wp2
  have HB2 := Lib.hid HST.out.1
  have HO2 := Lib.hid (HO1.out.keep HST.out.2 (.inr hne))
  have HL2 : Hid (Below B w (w1.setCell ⟨g, 3, none⟩ (.int .i64 ((m : Int) + (n : Int))))) := Lib.hid (HL1.out.grown HST.out.2 (by omega) (fun k hk => by cases hk; exact hge))
  have HF2 := Lib.hid (HF1.out.step HST.out.2 (fun k e => by cases e; exact .inl rfl))
  clear HST HB1 HO1 HL1 c3 f3 hg HF1
  generalize w1.setCell ⟨g, 3, none⟩ (.int .i64 ((m : Int) + (n : Int))) = w2 at *
  obtain ⟨N', hN'⟩ : ∃ N', N' = N + v * 2 ^ L := ⟨_, rfl⟩
  rw [← hN'] at HRA HBA
  have HN := Lib.hid hN'
  clear hN'
  go_loopg [] s (fun gk wr => ∃ (k nn : Nat) (vb : Value), 8 * k + nn = L + n ∧ BoxW wr g vb (N' / 256 ^ k) nn ∧ Own wr B 5 vb (bytesN N' k) ∧ vb.ownBlock ≠ some g ∧ Below B w wr ∧ Fr g vb0 vb w wr ∧ gk = nn)
  case atStart =>
    refine ⟨L / 8, s, vb0, ?_, ?_, ?_, hne, HL2.out, HF2.out, ?_⟩
    · have := HS.out; have := HM.out; omega
    · rw [HRA.out, ← HQ.out]; exact HB2.out
    · rw [HBA.out]; exact HO2.out
    · rfl
  case round =>
    obtain ⟨k, nn, vb, hkn, hbox, hown, hne, hbel, hfr, rfl⟩ := hrel
    have HFR := Lib.hid hfr
    clear hfr
    clear HF2
    clear HQ HRA HBA HB2 HO2 HL2
    have c1 := hbox.c1
    have c2 := hbox.c2
    have c3 := hbox.c3
    have f1 := hbox.free 1
    have f2 := hbox.free 2
    have f3 := hbox.free 3
    have hg := hbox.lt
    have HB := Lib.hid hbox
    have HO := Lib.hid hown
    have HE := Lib.hid hbel
    have HNS := Lib.hid (rest_next N' k)
    have HBS := Lib.hid (bytesN_succ N' k)
    have HBY : Hid (((N' / 256 ^ k : Nat) : Int) % 256 = (byteAt N' k : Nat)) := Lib.hid (by unfold byteAt; exact (Int.natCast_emod _ _).symm)
    have hklt : k ≤ 4294967296 := by have := HL.out; omega
    have HK := Lib.hid hkn
    clear hbox hown hbel hkn
    by_cases h8 : 8 ≤ gk
    · generalize N' / 256 ^ k = r at *
      go_wp2
      have hne2 : some g ≠ vb.ownBlock := fun e => hne e.symm
      have hBg : B ≤ wr.heap.size := by omega
      refine wp_region_tail (fun w' => ∃ x, w' = chg wr vb.ownBlock x) [0,1,2,3,4,5,6,7,8,9] [10,11,12,13] [14] (by kernel_rfl) (by kernel_rfl) (ex_chg (grown_drew _ _)) ?_
      simp only [pick, List.map_cons, List.map_nil, List.getD_cons_zero, List.getD_cons_succ]
      repeat (go_big_quiet_step (fail))
      refine wpQuiet_nil ?_
      (unfold wpAct; go_wp2; refine ⟨ex_chg (grown_below (by repeat (first | exact Below.refl _ _ | assumption | refine b_drewN ?_ _ | refine Below.drew ?_ | refine b_ext' ?_ _ | refine b_alloc' ?_ _)) _), ?_⟩)
      unfold wpAct
      have HX : Hid (Sl (wr.alloc (.cells #[.int .u8 ((byteAt N' k : Nat) : Int)] 5)).drew (.slice (some ⟨wr.heap.size, 0, none⟩) 1 1) [.int .u8 ((byteAt N' k : Nat) : Int)]) := Lib.hid (by
        have h1 := (sl_lit wr #[.int .u8 ((byteAt N' k : Nat) : Int)] 5 (by simp)).up (below_drewN _ 1)
        rw [← World.drew_is_drewN] at h1
        simpa using h1)
      rw [HBY.out]
      have HT1 := Lib.hid (HO.out.up (show Below wr.heap.size wr (wr.alloc (.cells #[.int .u8 ((byteAt N' k : Nat) : Int)] 5)).drew from (by repeat (first | exact Below.refl _ _ | assumption | refine b_drewN ?_ _ | refine Below.drew ?_ | refine b_ext' ?_ _ | refine b_alloc' ?_ _))))
      have HT3 : Hid ((bytesN N' k).length + 1 ≤ 4294967296) := Lib.hid (by rw [bytesN_length]; have := HK.out; have := HL.out; omega)
      have HT2 : Hid (∀ u ∈ [Value.int .u8 ((byteAt N' k : Nat) : Int)], u.oneCell' = true) := Lib.hid (by intro u hu; simp at hu; subst hu; rfl)
      have HT4 : Hid (B ≤ (wr.alloc (.cells #[.int .u8 ((byteAt N' k : Nat) : Int)] 5)).drew.heap.size) := Lib.hid (Nat.le_trans hBg (show Below wr.heap.size wr (wr.alloc (.cells #[.int .u8 ((byteAt N' k : Nat) : Int)] 5)).drew from (by repeat (first | exact Below.refl _ _ | assumption | refine b_drewN ?_ _ | refine Below.drew ?_ | refine b_ext' ?_ _ | refine b_alloc' ?_ _))).size)
      go_wp2_with (at_builtin; refine wpList_app rfl (.tmp 63) (.tmp 69) 53 rfl B 5 (.int .u8 0) 1 Try.underlying53 (by kernel_rfl) rfl (by decide) vb (bytesN N' k) rfl HT1.out (.slice (some ⟨wr.heap.size, 0, none⟩) 1 1) [.int .u8 ((byteAt N' k : Nat) : Int)] rfl HX.out HT2.out HT3.out HT4.out ?_; intro v' w5 hown1 hg1 hk1; have HO1 := Lib.hid hown1; have HG1 := Lib.hid hg1; have HK1 := Lib.hid hk1; clear hown1 hg1 hk1)
      refine ⟨ex_chg (grown_trans (grown_below (by repeat (first | exact Below.refl _ _ | assumption | refine b_drewN ?_ _ | refine Below.drew ?_ | refine b_ext' ?_ _ | refine b_alloc' ?_ _)) _) HG1.out), ?_⟩
      (unfold wpAct; go_wp2; refine ⟨ex_chg (grown_trans (grown_below (by repeat (first | exact Below.refl _ _ | assumption | refine b_drewN ?_ _ | refine Below.drew ?_ | refine b_ext' ?_ _ | refine b_alloc' ?_ _)) _) HG1.out), ?_⟩)
      (unfold wpAct; go_wp2; refine ⟨ex_chg (grown_trans (grown_below (by repeat (first | exact Below.refl _ _ | assumption | refine b_drewN ?_ _ | refine Below.drew ?_ | refine b_ext' ?_ _ | refine b_alloc' ?_ _)) _) HG1.out), ?_⟩)
      unfold wpAct
      have hlW : Below wr.heap.size wr (wr.alloc (.cells #[.int .u8 ((byteAt N' k : Nat) : Int)] 5)).drew := (by repeat (first | exact Below.refl _ _ | assumption | refine b_drewN ?_ _ | refine Below.drew ?_ | refine b_ext' ?_ _ | refine b_alloc' ?_ _))
      have HB5 := Lib.hid ((HB.out.up hlW).keep HG1.out hne)
      have HL5 : Hid (Below B w w5) := Lib.hid (below_grown (HE.out.trans (hlW.mono hBg)) (Nat.le_trans hBg hlW.size) HT1.out HG1.out)
      have hne5 : Hid (v'.ownBlock ≠ some g) := Lib.hid (fun e => by
        rcases HK1.out g e with h | h
        · exact hne h
        · have := hlW.size; omega)
      have HO5 : Hid (Own w5 B 5 v' (bytesN N' (k + 1))) := Lib.hid (by rw [HBS.out]; exact HO1.out)
      have HF5 : Hid (Fr g vb0 v' w w5) := Lib.hid (((HFR.out.below hlW).step HG1.out (fun k e => .inr e)).val HK1.out (Nat.le_trans HFR.out.2.2 hlW.size))
      clear HO1 HG1 HK1 HT1 HX c1 c2 c3 f1 f2 f3 hg HB HO HE hlW hne hne2 HT3
      have f1 := HB5.out.free 1
      have c1 := HB5.out.c1
      have hg := HB5.out.lt
      obtain ⟨o5, c5, g5, rfl, -⟩ := HO5.out.cases
      generalize (bytesN N' (k + 1)).length = l5 at *
      have HST := Lib.hid (HB5.out.set1 (.slice o5 l5 c5))
      unfold wpAct
      go_wp2
      refine ⟨trivial, ?_⟩
      unfold wpAct
      have HB6 := Lib.hid HST.out.1
      have HO6 := Lib.hid (HO5.out.keep HST.out.2 (.inr hne5.out))
      have HL6 : Hid (Below B w (w5.setCell ⟨g, 1, none⟩ (.slice o5 l5 c5))) := Lib.hid (HL5.out.grown HST.out.2 (by omega) (fun k hk => by cases hk; exact hge))
      have HF6 := Lib.hid (HF5.out.step HST.out.2 (fun k e => by cases e; exact .inl rfl))
      clear HST HB5 HO5 HL5 c1 f1 hg HF5
      generalize w5.setCell ⟨g, 1, none⟩ (.slice o5 l5 c5) = w6 at *
      have c2 := HB6.out.c2
      have c3 := HB6.out.c3
      have f2 := HB6.out.free 2
      have f3 := HB6.out.free 3
      have hg := HB6.out.lt
      have h9 : (8 : Int) ≤ (gk : Int) := by omega
      go_wp2
      go_roundg (gk - 8)
      case measure => omega
      case rel =>
        have hst := HB6.out.set2 (r / 256)
        have hst2 := hst.1.set3 (gk - 8)
        have e1 : ((r / 256 : Nat) : Int) = (r : Int) / 256 := Int.natCast_ediv r 256
        have e2 : ((gk - 8 : Nat) : Int) = (gk : Int) - 8 := by omega
        have hO := HO6.out.keep (grown_trans hst.2 hst2.2) (.inr hne5.out)
        have hL := HL6.out.grown (grown_trans hst.2 hst2.2) (by omega) (fun k hk => by cases hk; exact hge)
        have hF := HF6.out.step (grown_trans hst.2 hst2.2) (fun k e => by cases e; exact .inl rfl)
        rw [e1, e2] at hst2 hO hL hF
        have hk := HK.out
        have hl := HL.out
        rw [IntWalk.wrap64_in ((gk : Int) - 8) ⟨by omega, by omega⟩]
        refine ⟨k + 1, gk - 8, _, by omega, ?_, hO, hne5.out, hL, hF, rfl⟩
        rw [← HNS.out]
        exact hst2.1
    · go_wp2
      go_ret
      have hk := HK.out
      have hmod : (L + n) % 8 = gk ∧ (L + n) / 8 = k := by omega
      rw [← HN.out]
      refine ⟨rfl, vb, ⟨?_, ?_, hne, hge, ?_⟩, HE.out, HFR.out⟩
      · rw [hmod.1, hmod.2]; exact HB.out
      · rw [hmod.2]; exact HO.out
      · rw [HN.out]; exact num_add_lt HLT.out HV.out
theorem putP {w : World} {B g N L : Nat} (h : WrtP w B g N L) (v n : Nat) (hv : v < 2 ^ n) (hn : n ≤ 32) (hL : L + n ≤ 34359738368) :
    Calls Try.prog 21 #[.pointer (some ⟨g, 0, none⟩), .int .i64 v, .int .i64 n] w fun e w' => e = .returned (.int .i64 0) ∧ WrtP w' B g (N + v * 2 ^ L) (L + n) ∧ Below B w w' := by
  obtain ⟨vb, hV⟩ := h.v
  exact (putV hV v n hv hn hL).mono fun e w' ⟨h1, vb', h2, h3, _⟩ => ⟨h1, h2.p, h3⟩
end Go.Cm

/- The walks of the bit writer's other functions. Conditions: none. -/
namespace Go.Cm
open Go.RowKit Go.Proofs

theorem lenP {w : World} {B g N L : Nat} (h : WrtP w B g N L) (hL : L ≤ 34359738368) : Calls Try.prog 24 #[.pointer (some ⟨g, 0, none⟩)] w fun e w' => e = .returned (.int .i64 L) ∧ ∃ x, w' = ext w x := by
  obtain ⟨⟨vb, hbox, hown, hne⟩, hge, hlt⟩ := h
  have HB := Lib.hid hbox
  have c1 := hbox.c1
  have c3 := hbox.c3
  have hg := hbox.lt
  obtain ⟨oa, cap, gb, rfl, hd, -⟩ := hown.cases
  rw [bytesN_length] at c1
  clear hbox hown hne hd
  go_enter Try.func24, Try.ntmps24
  go_wp2_with (go_at_call 43; refine (thereP HB.out).mono ?_; rintro e w' ⟨rfl, hw'⟩; rw [hw']; clear hw')
  go_quiet (fail)
  go_wp2
  go_ret
  have e : (8 * ((L : Int) / 8) + (L : Int) % 8) = (L : Int) := by omega
  refine ⟨?_, (ex_ext (by repeat (first | exact Below.refl _ _ | assumption | refine b_drewN ?_ _ | refine Below.drew ?_ | refine b_ext' ?_ _ | refine b_alloc' ?_ _)))⟩
  show Ending.returned (Value.int .i64 (8 * ((L : Int) / 8) + (L : Int) % 8)) = _
  rw [e]
theorem codeV {w : World} {B g N L : Nat} {vb : Value} (h : WrtV w B g N L vb) (v n : Nat) (hv : v < 2 ^ n) (hn : n ≤ 32) (hL : L + n ≤ 34359738368) :
    Calls Try.prog 61 #[.pointer (some ⟨g, 0, none⟩), .int .i64 v, .int .i64 n] w fun e w' => e = .returned (.int .i64 0) ∧ ∃ vb', WrtV w' B g (N + turnN v n * 2 ^ L) (L + n) vb' ∧ Below B w w' ∧ Fr g vb vb' w w' := by
  have hd : decide (0 ≤ (n : Int) ∧ (n : Int) ≤ 32) = true := by simp; omega
  have hn0 : (0 : Int) ≤ (n : Int) := by omega
  have hv0 : ¬ (v : Int) < 0 := by omega
  have hz : (v : Int) / 2 ^ n = 0 := by
    have : (v : Int) / 2 ^ n = ((v / 2 ^ n : Nat) : Int) := by norm_cast
    rw [this, Nat.div_eq_of_lt hv]; rfl
  have HP := Lib.hid (putV h (turnN v n) n (turnN_lt v n) hn hL)
  clear h hv
  go_enter Try.func61, Try.ntmps61
  go_wp2_with (first | (go_at_call 44; refine (many _ _).mono ?_; rintro e w' ⟨rfl, hw'⟩; rw [hw', hd]; clear hw') | (go_at_call 77; refine (turnP v n hn _).mono ?_; rintro e w' ⟨rfl, hw'⟩; rw [hw']; clear hw') | (go_at_call 21; refine HP.out.mono ?_; rintro e w' ⟨rfl, vb', hq1, hq2, hq3⟩; have HQ1 := Lib.hid hq1; have HQ2 := Lib.hid hq2; have HQ3 := Lib.hid hq3; clear hq1 hq2 hq3))
  go_ret
  exact ⟨rfl, vb', HQ1.out, HQ2.out, HQ3.out⟩
theorem codeP {w : World} {B g N L : Nat} (h : WrtP w B g N L) (v n : Nat) (hv : v < 2 ^ n) (hn : n ≤ 32) (hL : L + n ≤ 34359738368) :
    Calls Try.prog 61 #[.pointer (some ⟨g, 0, none⟩), .int .i64 v, .int .i64 n] w fun e w' => e = .returned (.int .i64 0) ∧ WrtP w' B g (N + turnN v n * 2 ^ L) (L + n) ∧ Below B w w' := by
  obtain ⟨vb, hV⟩ := h.v
  exact (codeV hV v n hv hn hL).mono fun e w' ⟨h1, vb', h2, h3, _⟩ => ⟨h1, h2.p, h3⟩
end Go.Cm

/- The walks of the document's bit writer. Conditions: none. -/
namespace Go.Cm
open Go.RowKit Go.Proofs

/-- the document's writer of bits, from block B on -/
structure WrtR (w : World) (B g N L : Nat) : Prop where
  ex : ∃ vb, Own w g 55 (.slice (some ⟨g, 0, none⟩) 1 1) [vb] ∧ Own w B 5 vb (bitsN N L) ∧ vb.ownBlock ≠ some g
  ge : B ≤ g
  lt : N < 2 ^ L
/-- .. with its row by name -/
structure WrtRV (w : World) (B g N L : Nat) (vb : Value) : Prop where
  box : Own w g 55 (.slice (some ⟨g, 0, none⟩) 1 1) [vb]
  own : Own w B 5 vb (bitsN N L)
  ne : vb.ownBlock ≠ some g
  ge : B ≤ g
  lt : N < 2 ^ L
theorem WrtRV.p {w : World} {B g N L : Nat} {vb : Value} (h : WrtRV w B g N L vb) : WrtR w B g N L := ⟨⟨vb, h.box, h.own, h.ne⟩, h.ge, h.lt⟩
theorem WrtR.v {w : World} {B g N L : Nat} (h : WrtR w B g N L) : ∃ vb, WrtRV w B g N L vb := by
  obtain ⟨⟨vb, h1, h2, h3⟩, h4, h5⟩ := h
  exact ⟨vb, h1, h2, h3, h4, h5⟩
theorem putRV {w : World} {B g N L : Nat} {vb0 : Value} (h : WrtRV w B g N L vb0) (v n : Nat) (hv : v < 2 ^ n) (hn : n ≤ 32) (hL : L + n ≤ 2147483648) :
    Calls Try.prog 22 #[.pointer (some ⟨g, 0, none⟩), .int .i64 v, .int .i64 n] w fun e w' => e = .returned (.int .i64 0) ∧ ∃ vb0', WrtRV w' B g (N + v * 2 ^ L) (L + n) vb0' ∧ Below B w w' ∧ Fr g vb0 vb0' w w' := by
  obtain ⟨hbox, hown, hne, hge, hlt⟩ := h
  have hv32 : v < 4294967296 := Nat.lt_of_lt_of_le hv (Nat.pow_le_pow_right (n := 2) (by decide) hn)
  have hd1 : ¬ (n : Int) < 0 := by omega
  have hd2 : ¬ (n : Int) > 32 := by omega
  have hv0 : ¬ (v : Int) < 0 := by omega
  have hn0 : (0 : Int) ≤ (n : Int) := by omega
  have hp : ((2 ^ n : Nat) : Int) = 2 ^ n := by norm_cast
  have hp2 : 2 ^ n ≤ 4294967296 := Nat.pow_le_pow_right (n := 2) (by decide) hn
  go_enter Try.func22, Try.ntmps22
  go_wp2
  obtain ⟨N', hN'⟩ : ∃ N', N' = N + v * 2 ^ L := ⟨_, rfl⟩
  have HN := Lib.hid hN'
  have HB0 : Hid (bitsN N' (L + 0) = bitsN N L) := Lib.hid (by rw [hN', bits_add hlt 0]; simp [bitsN])
  have HTB : Hid (∀ k, N'.testBit (L + k) = v.testBit k) := Lib.hid (fun k => by
    rw [hN', Nat.add_comm N, Nat.mul_comm, Nat.testBit_two_pow_mul_add v hlt, if_neg (by omega), Nat.add_sub_cancel_left])
  have HLT := Lib.hid hlt
  have HV := Lib.hid hv
  have HL := Lib.hid hL
  have HBX := Lib.hid hbox
  have HOX := Lib.hid hown
  have hg0 := hbox.blk.2
  clear hN' hlt hv hL hbox hown hp hp2
  go_loopg [7] n (fun gk i wr => ∃ (k : Nat) (vb : Value), k ≤ n ∧ i = .int .i64 k ∧ Own wr g 55 (.slice (some ⟨g, 0, none⟩) 1 1) [vb] ∧ Own wr B 5 vb (bitsN N' (L + k)) ∧ vb.ownBlock ≠ some g ∧ Below B w wr ∧ Fr g vb0 vb w wr ∧ gk = n - k)
  case atStart => exact ⟨0, vb0, Nat.zero_le _, rfl, HBX.out, by rw [HB0.out]; exact HOX.out, hne, Below.refl _ _, Fr.refl _ _ _, rfl⟩
  case round =>
    obtain ⟨k, vb, hk, rfl, hbox, hown, hne, hbel, hfr, rfl⟩ := hrel
    have HFR := Lib.hid hfr
    clear hfr
    have HB := Lib.hid hbox
    have HO := Lib.hid hown
    have HE := Lib.hid hbel
    have c0 : wr.cell? ⟨g, 0, none⟩ = some vb := hbox.cell (by simp)
    have f0 := hbox.free 0
    have hg := hbox.blk.2
    have HS := Lib.hid (bitsN_succ N' (L + k))
    have HT : Hid (((v : Int) / 2 ^ k).tmod 2 % 256 = (((N'.testBit (L + k)).toNat : Nat) : Int)) := Lib.hid (by
      rw [HTB.out, Nat.testBit_eq_decide_div_mod_eq]
      have : ((v : Int) / 2 ^ k).tmod 2 = ((v / 2 ^ k % 2 : Nat) : Int) := by norm_cast
      rw [this]
      by_cases h : v / 2 ^ k % 2 = 1
      · simp [h]
      · have : v / 2 ^ k % 2 = 0 := by omega
        simp [this])
    generalize (N'.testBit (L + k)).toNat = b at *
    clear hbox hown hbel HB0 HBX HOX hg0
    by_cases hlt : k < n
    · have hBg : B ≤ wr.heap.size := by omega
      obtain ⟨y, hy⟩ : ∃ y : Int, y = ((v : Int) / 2 ^ k).tmod 2 % 256 := ⟨_, rfl⟩
      have HY := Lib.hid (hy.trans HT.out)
      have HW := Lib.hid hy.symm
      clear hy HT
      have hlW := Lib.hid (below_alloc wr (.cells #[.int .u8 y] 5))
      have HX : Hid (Sl (wr.alloc (.cells #[.int .u8 y] 5)) (.slice (some ⟨wr.heap.size, 0, none⟩) 1 1) [.int .u8 y]) := Lib.hid (by simpa using sl_lit wr #[.int .u8 y] 5 (by simp))
      have HT1 := Lib.hid (HO.out.up hlW.out)
      have HT2 : Hid (∀ u ∈ [Value.int .u8 y], u.oneCell' = true) := Lib.hid (by intro u hu; simp at hu; subst hu; rfl)
      have HT3 : Hid ((bitsN N' (L + k)).length + 1 ≤ 4294967296) := Lib.hid (by rw [bitsN_length]; have := HL.out; omega)
      have HT4 : Hid (B ≤ (wr.alloc (.cells #[.int .u8 y] 5)).heap.size) := Lib.hid (Nat.le_trans hBg hlW.out.size)
      go_wp2_with (at_builtin; rw [HW.out]; refine wpList_app rfl (.tmp 34) (.tmp 41) 53 rfl B 5 (.int .u8 0) 1 Try.underlying53 (by kernel_rfl) rfl (by decide) vb (bitsN N' (L + k)) rfl HT1.out (.slice (some ⟨wr.heap.size, 0, none⟩) 1 1) [.int .u8 y] rfl HX.out HT2.out HT3.out HT4.out ?_; intro v' w5 hown1 hg1 hk1; have HO1 := Lib.hid hown1; have HG1 := Lib.hid hg1; have HK1 := Lib.hid hk1; clear hown1 hg1 hk1; have HB5 := Lib.hid ((HB.out.up hlW.out).keep HG1.out (.inr (fun e => hne e.symm))); have hne5 : Hid (v'.ownBlock ≠ some g) := Lib.hid (fun e => by
        rcases HK1.out g e with h | h
        · exact hne h
        · have := hlW.out.size; simp at h; omega); have HO5 : Hid (Own w5 B 5 v' (bitsN N' (L + k + 1))) := Lib.hid (by rw [HS.out, ← HY.out]; exact HO1.out); have HF5 : Hid (Fr g vb0 v' w w5) := Lib.hid (((HFR.out.below hlW.out).step HG1.out (fun k e => .inr e)).val HK1.out (Nat.le_trans HFR.out.2.2 hlW.out.size)); have HL5 : Hid (Below B w w5) := Lib.hid (below_grown (HE.out.trans (hlW.out.mono hBg)) HT4.out HT1.out HG1.out); clear HO1 HG1 HK1 HT1 HX c0 f0 hg hBg; obtain ⟨o5, c5, g5, rfl, -⟩ := HO5.out.cases; generalize (bitsN N' (L + k + 1)).length = l5 at *; have HST := Lib.hid (HB5.out.store 0 (.slice o5 l5 c5)); have f0 := HB5.out.free 0; have c0 : w5.cell? ⟨g, 0, none⟩ = some vb := HB5.out.cell (by simp); have hg := HB5.out.blk.2)
      go_roundg (n - (k + 1))
      case measure => omega
      case rel =>
        exact ⟨k + 1, _, by omega, by go_num, HST.out.1, HO5.out.keep HST.out.2 (.inr hne5.out), hne5.out, HL5.out.grown HST.out.2 (by omega) (fun k hk => by cases hk; exact hge), HF5.out.step HST.out.2 (fun k e => by cases e; exact .inl rfl), rfl⟩
    · go_wp2
      go_ret
      obtain rfl : k = n := by omega
      rw [← HN.out]
      exact ⟨rfl, vb, ⟨HB.out, HO.out, hne, hge, by rw [HN.out]; exact num_add_lt HLT.out HV.out⟩, HE.out, HFR.out⟩
theorem putR {w : World} {B g N L : Nat} (h : WrtR w B g N L) (v n : Nat) (hv : v < 2 ^ n) (hn : n ≤ 32) (hL : L + n ≤ 2147483648) :
    Calls Try.prog 22 #[.pointer (some ⟨g, 0, none⟩), .int .i64 v, .int .i64 n] w fun e w' => e = .returned (.int .i64 0) ∧ WrtR w' B g (N + v * 2 ^ L) (L + n) ∧ Below B w w' := by
  obtain ⟨vb, hV⟩ := h.v
  exact (putRV hV v n hv hn hL).mono fun e w' ⟨h1, vb', h2, h3, _⟩ => ⟨h1, h2.p, h3⟩
theorem codeRV {w : World} {B g N L : Nat} {vb : Value} (h : WrtRV w B g N L vb) (v n : Nat) (hv : v < 2 ^ n) (hn : n ≤ 32) (hL : L + n ≤ 2147483648) :
    Calls Try.prog 48 #[.pointer (some ⟨g, 0, none⟩), .int .i64 v, .int .i64 n] w fun e w' => e = .returned (.int .i64 0) ∧ ∃ vb', WrtRV w' B g (N + turnN v n * 2 ^ L) (L + n) vb' ∧ Below B w w' ∧ Fr g vb vb' w w' := by
  have hv32 : v < 4294967296 := Nat.lt_of_lt_of_le hv (Nat.pow_le_pow_right (n := 2) (by decide) hn)
  have hd1 : ¬ (n : Int) < 0 := by omega
  have hd2 : ¬ (n : Int) > 32 := by omega
  have hv0 : ¬ (v : Int) < 0 := by omega
  have hn0 : (0 : Int) ≤ (n : Int) := by omega
  have hp : ((2 ^ n : Nat) : Int) = 2 ^ n := by norm_cast
  have hp2 : 2 ^ n ≤ 4294967296 := Nat.pow_le_pow_right (n := 2) (by decide) hn
  have HP := Lib.hid (putRV h (turnN v n) n (turnN_lt v n) hn hL)
  clear h
  go_enter Try.func48, Try.ntmps48
  go_wp2_with (first | (go_at_call 63; refine (turnR v n (by omega) hn _).mono ?_; rintro e w' ⟨rfl, hw'⟩; rw [hw']; clear hw') | (go_at_call 22; refine HP.out.mono ?_; rintro e w' ⟨rfl, vb', hq1, hq2, hq3⟩; have HQ1 := Lib.hid hq1; have HQ2 := Lib.hid hq2; have HQ3 := Lib.hid hq3; clear hq1 hq2 hq3))
  go_ret
  exact ⟨rfl, vb', HQ1.out, HQ2.out, HQ3.out⟩
theorem codeR {w : World} {B g N L : Nat} (h : WrtR w B g N L) (v n : Nat) (hv : v < 2 ^ n) (hn : n ≤ 32) (hL : L + n ≤ 2147483648) :
    Calls Try.prog 48 #[.pointer (some ⟨g, 0, none⟩), .int .i64 v, .int .i64 n] w fun e w' => e = .returned (.int .i64 0) ∧ WrtR w' B g (N + turnN v n * 2 ^ L) (L + n) ∧ Below B w w' := by
  obtain ⟨vb, hV⟩ := h.v
  exact (codeRV hV v n hv hn hL).mono fun e w' ⟨h1, vb', h2, h3, _⟩ => ⟨h1, h2.p, h3⟩
end Go.Cm

/- Bytes as values, and as a text. Conditions: none. (For seats that do not build Look.) -/
namespace Go.Cm
open Go.RowKit Go.Proofs

def bytesV (l : List UInt8) : List Value := l.map fun b => .int .u8 (b.toNat : Int)
theorem bytesV_append (a b : List UInt8) : bytesV (a ++ b) = bytesV a ++ bytesV b := by simp [bytesV]
theorem bytesV_length (a : List UInt8) : (bytesV a).length = a.length := by simp [bytesV]
theorem bytesV_one (l : List UInt8) : ∀ u ∈ bytesV l, u.oneCell' = true := by
  intro u hu; simp only [bytesV, List.mem_map] at hu; obtain ⟨b, -, rfl⟩ := hu; rfl
/-- bytes of one's own, as a text -/
theorem run_bytes_string {P : Program} (w : World) (src dst e : TypeId) (hs : P.underlying src = some (.slice e)) (he : P.underlying e = some (.int .u8)) (hd : P.underlying dst = some .string)
    (v : Value) (l : List UInt8) (h : Sl w v (bytesV l)) : (convert src dst v).run P w = .ok (.string ⟨l.toArray⟩) w := by
  obtain ⟨oa, cap, b, off, rfl, hdr, hc⟩ := h
  rw [bytesV_length] at hdr hc ⊢
  rw [run_convert_bytes_string w src dst e oa l.length cap hs he hd]
  have hfold : ∀ (l : List UInt8) (s : ByteArray), (l.map fun b => (b.toNat : Int)).foldl (fun r n => r.push (UInt8.ofNat n.toNat)) s = ⟨s.data ++ l.toArray⟩ := by
    intro l
    induction l with
    | nil => intro s; simp
    | cons b l ih => intro s; simp only [List.map_cons, List.foldl_cons, ih]; simp [ByteArray.push]
  have hb : bytesV l = (l.map fun b => (b.toNat : Int)).map (Value.int .u8) := by simp [bytesV]
  cases oa with
  | none =>
    have h0 : l.length = 0 := by
      rcases Nat.eq_zero_or_pos l.length with h | h
      · exact h
      · have := hdr.hat h; cases this
    obtain rfl : l = [] := List.length_eq_zero_iff.1 h0
    unfold Conv.bytesToString
    simp
    rfl
  | some ad =>
    have hl : (loadCells ad l.length).run P w = .ok ((l.map fun b => (b.toNat : Int)).map (Value.int .u8)).toArray w := by
      rcases Nat.eq_zero_or_pos l.length with h | h
      · obtain rfl : l = [] := List.length_eq_zero_iff.1 h
        simp [loadCells, loadCellsFrom]
      · have := hdr.hat h
        obtain rfl : ad = ⟨b, off, none⟩ := Option.some.inj this
        rw [← hb]
        have h2 := run_loadCells_list (P := P) w ⟨b, off, none⟩ (bytesV l) (fun j v hv => by
          have hj : j < (bytesV l).length := (List.getElem?_eq_some_iff.1 hv).1
          rw [bytesV_length] at hj
          rw [add_off, hc j hj]; simp [List.getD, hv])
        rwa [bytesV_length] at h2
    rw [run_bytesToString w ad l.length cap _ hl, hfold]
    simp

end Go.Cm

/- The walk of the bit writer's text. Conditions: none. -/
namespace Go.Cm
open Go.RowKit Go.Proofs

def wholeN (N k : Nat) : List UInt8 := (List.range k).map fun i => UInt8.ofNat (byteAt N i)
theorem bytesV_wholeN (N k : Nat) : bytesV (wholeN N k) = bytesN N k := by
  unfold bytesV wholeN bytesN
  rw [List.map_map]
  refine List.map_congr_left fun i _ => ?_
  simp only [Function.comp, UInt8.toNat_ofNat']
  rw [Nat.mod_eq_of_lt (byteAt_lt N i)]
theorem textP {w : World} {B g N L : Nat} (h : WrtP w B g N L) (hL : L ≤ 34359738368) : Calls Try.prog 25 #[.pointer (some ⟨g, 0, none⟩)] w fun e w' => e = .returned (.string ⟨(textN N L).toArray⟩) ∧ ∃ x, w' = ext w x := by
  obtain ⟨⟨vb, hbox, hown, hne⟩, hge, hlt⟩ := h
  have HB := Lib.hid hbox
  have c1 := hbox.c1
  have c2 := hbox.c2
  have c3 := hbox.c3
  have hg := hbox.lt
  have hsl := hown.sl
  rw [← bytesV_wholeN] at hsl
  have hcv := run_bytes_string (P := Try.prog) w 53 9 5 Try.underlying53 Try.underlying5 Try.underlying9 vb _ hsl
  clear hbox hown hsl
  by_cases h0 : L % 8 = 0
  · go_enter Try.func25, Try.ntmps25
    go_wp2_with (go_at_call 43; refine (thereP HB.out).mono ?_; rintro e w' ⟨rfl, hw'⟩; rw [hw']; clear hw')
    go_ret
    have e : textN N L = wholeN N (L / 8) := by unfold textN wholeN; rw [show (L + 7) / 8 = L / 8 by omega]
    rw [e]
    exact ⟨rfl, refl_ext _⟩
  · have hp : (0 : Int) < (L : Int) % 8 := by omega
    have hsl2 := sl_lit w #[.int .u8 ((byteAt N (L / 8) : Nat) : Int)] 5 (by simp)
    have hb1 : (#[Value.int .u8 ((byteAt N (L / 8) : Nat) : Int)]).toList = bytesV [UInt8.ofNat (byteAt N (L / 8))] := by
      simp [bytesV, Nat.mod_eq_of_lt (byteAt_lt N (L / 8))]
    rw [hb1] at hsl2
    have hcv2 := run_bytes_string (P := Try.prog) _ 53 9 5 Try.underlying53 Try.underlying5 Try.underlying9 _ _ hsl2
    have hby : ((N / 256 ^ (L / 8) : Nat) : Int) % 256 = (byteAt N (L / 8) : Nat) := by unfold byteAt; exact (Int.natCast_emod _ _).symm
    have e : textN N L = wholeN N (L / 8) ++ [UInt8.ofNat (byteAt N (L / 8))] := by unfold textN wholeN; rw [show (L + 7) / 8 = L / 8 + 1 by omega, List.range_succ, List.map_append]; rfl
    generalize N / 256 ^ (L / 8) = r at *
    generalize byteAt N (L / 8) = y at *
    change (convert 53 9 (.slice (some ⟨w.heap.size, 0, none⟩) 1 1)).run Try.prog _ = _ at hcv2
    rw [← hby] at hcv2
    clear hsl2 hb1 hby
    have hlen : ¬ 9223372036854775807 < (wholeN N (L / 8)).length + 1 := by simp [wholeN]; omega
    go_enter Try.func25, Try.ntmps25
    go_wp2_with (go_at_call 43; refine (thereP HB.out).mono ?_; rintro e w' ⟨rfl, hw'⟩; rw [hw']; clear hw')
    go_ret
    have e2 : (⟨(wholeN N (L / 8)).toArray⟩ : ByteArray) ++ ⟨#[UInt8.ofNat y]⟩ = ⟨(textN N L).toArray⟩ := by
      rw [e]; apply ByteArray.ext; simp
    refine ⟨?_, (ex_ext (by repeat (first | exact Below.refl _ _ | assumption | refine b_drewN ?_ _ | refine Below.drew ?_ | refine b_ext' ?_ _ | refine b_alloc' ?_ _)))⟩
    rw [← e2]; rfl
end Go.Cm

/- The walks of the writing of symbols, of the program and of the document. Conditions: the writer is there. -/
namespace Go.Cm
open Go.RowKit Go.Proofs

/-- what is wrong of a symbol that is to be written -/
def errW (l : List Int) (n : Int) : Nat := if errI l ≠ 0 then errI l else if 0 ≤ n ∧ n < l.length ∧ l.getD n.toNat 0 ≠ 0 then 0 else 1
/-- the bits behind the writing of a symbol -/
def numW (l : List Int) (n : Int) (NL : Nat × Nat) : Nat × Nat :=
  if errW l n = 0 then (NL.1 + turnN (codeN (l.map Int.toNat) n.toNat) (l.getD n.toNat 0).toNat * 2 ^ NL.2, NL.2 + (l.getD n.toNat 0).toNat) else NL
theorem errI_zero {l : List Int} (h : errI l = 0) : ∃ L, l = nls L ∧ L.length ≤ 320 ∧ (∀ x ∈ L, x ≤ 15) ∧ kraftN L ≤ 32768 := by
  have h0 : wrongI l = 0 := by
    apply Classical.byContradiction; intro hn
    have := errI_of_wrong hn; omega
  obtain ⟨h1, h2⟩ := wrongI_zero h0
  obtain ⟨L, rfl, h3⟩ := nls_of h2
  rw [nls_length] at h1
  refine ⟨L, rfl, h1, h3, ?_⟩
  rw [errI_nls h1 h3] at h
  split at h
  · cases h
  · omega
theorem numW_bad {l : List Int} {n : Int} {NL : Nat × Nat} (h : errW l n ≠ 0) : numW l n NL = NL := by unfold numW; rw [if_neg h]
theorem errW_codes {l : List Int} {n : Int} (h : errI l ≠ 0) : errW l n = errI l := by unfold errW; rw [if_pos h]
theorem errW_arg {l : List Int} {n : Int} (h : errI l = 0) (h2 : ¬ (0 ≤ n ∧ n < l.length ∧ l.getD n.toNat 0 ≠ 0)) : errW l n = 1 := by unfold errW; rw [if_neg (by omega), if_neg h2]
theorem errW_ok {l : List Int} {n : Int} (h : errI l = 0) (h2 : 0 ≤ n ∧ n < l.length ∧ l.getD n.toNat 0 ≠ 0) : errW l n = 0 := by unfold errW; rw [if_neg (by omega), if_pos h2]
theorem codesN_length (L : List Nat) : (codesN L).length = L.length := by simp [codesN]
theorem codesN_getD (L : List Nat) (i : Nat) (h : i < L.length) : (codesN L).getD i 0 = codeN L i := by simp [codesN, List.getD, h]

/-- what a writing of a symbol answers -/
def RetV (Wr : World → Nat → Nat → Nat → Nat → Value → Prop) (l : List Int) (n : Int) (B g N L : Nat) (vb : Value) (w : World) (e : Ending) (w' : World) : Prop :=
  e = .returned (.int .i64 (errW l n : Nat)) ∧ ∃ vb', Wr w' B g (numW l n (N, L)).1 (numW l n (N, L)).2 vb' ∧ Below B w w' ∧ Fr g vb vb' w w'
/-- .. its row unnamed -/
def RetW (Wr : World → Nat → Nat → Nat → Nat → Prop) (l : List Int) (n : Int) (B g N L : Nat) (w : World) (e : Ending) (w' : World) : Prop :=
  e = .returned (.int .i64 (errW l n : Nat)) ∧ Wr w' B g (numW l n (N, L)).1 (numW l n (N, L)).2 ∧ Below B w w'

theorem WrtP.up {w w' : World} {B g N L : Nat} (h : WrtP w B g N L) (hb : Below w.heap.size w w') : WrtP w' B g N L := by
  obtain ⟨⟨vb, hbx, how, hne⟩, hge, hlt⟩ := h
  exact ⟨⟨vb, hbx.up hb, how.up hb, hne⟩, hge, hlt⟩
theorem WrtR.up {w w' : World} {B g N L : Nat} (h : WrtR w B g N L) (hb : Below w.heap.size w w') : WrtR w' B g N L := by
  obtain ⟨⟨vb, hbx, how, hne⟩, hge, hlt⟩ := h
  exact ⟨⟨vb, hbx.up hb, how.up hb, hne⟩, hge, hlt⟩
theorem WrtV.up {w w' : World} {B g N L : Nat} {vb : Value} (h : WrtV w B g N L vb) (hb : Below w.heap.size w w') : WrtV w' B g N L vb := ⟨h.box.up hb, h.own.up hb, h.ne, h.ge, h.lt⟩
theorem WrtRV.up {w w' : World} {B g N L : Nat} {vb : Value} (h : WrtRV w B g N L vb) (hb : Below w.heap.size w w') : WrtRV w' B g N L vb := ⟨h.box.up hb, h.own.up hb, h.ne, h.ge, h.lt⟩

end Go.Cm

/- The walk of the document's reading of a symbol. Conditions: the lengths are right, the reader is there. -/
namespace Go.Cm
open Go.RowKit Go.Proofs

/-- what the document's reading answers -/
def RetRead (Bx : World → Nat → ByteArray → Nat → Prop) (L : List Nat) (s : ByteArray) (p g : Nat) (w : World) (e : Ending) (w' : World) : Prop :=
  ∃ a er d, e = .returned (.tuple #[.int .i64 (a : Nat), .int .i64 (er : Nat)]) ∧ ReadN L (numS s / 2 ^ p) (8 * s.size - p) a er d ∧ Bx w' g s (p + d) ∧ w.grownBy w' (some g)

set_option maxRecDepth 100000 in
set_option maxHeartbeats 1000000 in
theorem readR0 {w0 w : World} {g p : Nat} {s : ByteArray} (v : Value) (L : List Nat) (h0 : IntsAt w0 v (nls L)) (hb0 : Below w0.heap.size w0 w) (h : BoxT w g s p)
    (hlen : L.length ≤ 320) (h15 : ∀ x ∈ L, x ≤ 15) (hk : kraftN L ≤ 32768) (hs : s.size ≤ 4294967296) (hp : p ≤ 8 * s.size) :
    Calls Try.prog 85 #[.pointer (some ⟨g, 0, none⟩), v] w (RetRead BoxT L s p g w) := by
  have HCO : Hid (∀ w', Below w0.heap.size w w' → Calls Try.prog 78 #[v] w' fun e w'' => ∃ vc, e = .returned (.tuple #[vc, .int .i64 0]) ∧ Own w'' w'.heap.size 3 vc (ints (nls (codesN L))) ∧ Below w'.heap.size w' w'') := Lib.hid (fun w' hb => by
    have h1 := codesR v (nls L) w' (h0.up (hb0.trans hb))
    unfold RetCodes at h1
    rw [errI_nls hlen h15, if_neg (by omega), if_pos rfl, nls_toNat] at h1
    exact h1)
  obtain ⟨oa, cap, b, off, rfl, hd, hc⟩ := h0.open
  rw [nls_length] at hd hc
  rw [nls_length] at HCO ⊢
  have hix := index_any (P := Try.prog) 31 3 Try.underlying31 (by kernel_rfl) hd
  have hm := hd.len
  have hbk := hd.hblk
  have hsz0 := hb0.size
  have HBW := Lib.hid hb0
  have HB := Lib.hid h
  have HC : Hid (∀ i, i < L.length → w0.cell? ⟨b, off + i, none⟩ = some (.int .i64 (L.getD i 0 : Nat))) := Lib.hid (fun i hi => by rw [hc i hi, nls_getD])
  have H15 : Hid (∀ i, i < L.length → L.getD i 0 ≤ 15) := Lib.hid (fun i hi => h15 _ (getD_mem L i 0 hi))
  clear hc h0 hb0 h hd h15 hk
  go_enter Try.func85, Try.ntmps85
  go_wp2_with (go_at_call 78; refine (HCO.out _ (Below.refl _ _)).mono ?_; rintro e w2 ⟨vc, rfl, hq3, hq4⟩; have HQ3 := Lib.hid hq3; have HQ4 := Lib.hid hq4; clear hq3 hq4)
  have HB2 := Lib.hid (HB.out.up HQ4.out)
  have HC2 : Hid (∀ i, i < L.length → w2.cell? ⟨b, off + i, none⟩ = some (.int .i64 (L.getD i 0 : Nat))) := Lib.hid (fun i hi => ((HBW.out.trans (HQ4.out.mono hsz0)).cell (p := ⟨b, off + i, none⟩) (hbk (by omega))).trans (HC.out i hi))
  have hsz2 := HQ4.out.size
  obtain ⟨oc, cc, bc, fc, rfl, hdc, hcc⟩ := (show IntsAt w2 vc (nls (codesN L)) from HQ3.out.sl).open
  rw [show (nls (codesN L)).length = L.length by rw [nls_length, codesN_length]] at hdc hcc ⊢
  have hixc := index_any (P := Try.prog) 31 3 Try.underlying31 (by kernel_rfl) hdc
  have HCC : Hid (∀ i, i < L.length → w2.cell? ⟨bc, fc + i, none⟩ = some (.int .i64 (codeN L i : Nat))) := Lib.hid (fun i hi => by rw [hcc i hi, nls_getD, codesN_getD L i hi])
  have hbkc := hdc.hblk
  have HBIT : Hid (∀ (i : Nat) (W : World), Calls Try.prog 83 #[.string s, .int .i64 i] W fun e w' => e = .returned (.int .i64 (((numS s).testBit i).toNat : Nat)) ∧ ∃ x, w' = ext W x) := Lib.hid (fun i W => bitT s i hs W)
  have HLF : Hid (∀ W, BoxT W g s p → Calls Try.prog 84 #[.pointer (some ⟨g, 0, none⟩)] W fun e w' => e = .returned (.int .i64 ((8 * s.size - p : Nat) : Int)) ∧ ∃ x, w' = ext W x) := Lib.hid (fun W h => leftT h hs hp)
  clear hdc hcc HQ3 HCO HC
  have HQW : Hid (Below w.heap.size w w2) := HQ4
  have HGR : Hid (w.grownBy w2 (some g)) := Lib.hid (grown_below HQ4.out _)
  have hbk2 : 0 < L.length → b < w2.heap.size := fun h => by have := hbk h; omega
  clear HQ4 hbk HBW HB HQW
  obtain ⟨left, hl⟩ : ∃ left, left = 8 * s.size - p := ⟨_, rfl⟩
  have hleft : left + p = 8 * s.size := by omega
  rw [← hl] at HLF
  clear hl
  go_loopg [8, 9] 15 (fun gk c n wr => ∃ k : Nat, 1 ≤ k ∧ k ≤ 16 ∧ k ≤ left + 1 ∧ n = .int .i64 k ∧ c = .int .i64 (turnN (numS s / 2 ^ p) (k - 1) : Nat) ∧ Hid (∀ i, i < L.length → hitN L (numS s / 2 ^ p) i → k ≤ L.getD i 0) ∧ (∃ x, wr = ext w2 x) ∧ gk = 16 - k)
  case atStart => exact ⟨1, by omega, by omega, by omega, rfl, rfl, Lib.hid (fun i _ h => by have := h.1; omega), refl_ext _, rfl⟩
  case round =>
    obtain ⟨k, hk1, hk16, hkl, rfl, rfl, HIT, ⟨x, rfl⟩, rfl⟩ := hrel
    have HB3 := Lib.hid (HB2.out.up (ext_below w2 x))
    have HL3 := Lib.hid (HLF.out _ HB3.out)
    have hszx := size_ext w2 x
    have hc0 := HB3.out.c0
    have hc1 := HB3.out.c1
    have hgx := HB3.out.lt
    by_cases hk15 : k ≤ 15
    · by_cases hkle : k ≤ left
      · have hki : (k : Int) ≤ (left : Int) := by omega
        have hk15i : (k : Int) ≤ 15 := by omega
        have heq : (p : Int) + (k : Int) - 1 = ((p + (k - 1) : Nat) : Int) := by omega
        have hTS := turnN_succ (numS s / 2 ^ p) (k - 1)
        rw [show k - 1 + 1 = k by omega, Nat.testBit_div_two_pow, Nat.add_comm (k - 1) p] at hTS
        have HTS := Lib.hid hTS
        have HBT := Lib.hid (HBIT.out (p + (k - 1)))
        have hqb : p + (k - 1) ≤ 68719476736 := by omega
        have htl := turnN_lt (numS s / 2 ^ p) (k - 1)
        have htl2 : 2 ^ (k - 1) ≤ 2 ^ 15 := Nat.pow_le_pow_right (by decide) (by omega)
        have hbb : ((numS s).testBit (p + (k - 1))).toNat ≤ 1 := by cases (numS s).testBit (p + (k - 1)) <;> simp
        clear hTS
        generalize ((numS s).testBit (p + (k - 1))).toNat = y at *
        generalize p + (k - 1) = q at *
        generalize turnN (numS s / 2 ^ p) (k - 1) = c at *
        have hc15 : c ≤ 32768 := by omega
        clear htl htl2
        go_wp2_with (go_at_call 84; refine HL3.out.mono ?_; rintro e w4 ⟨rfl, z, rfl⟩; have hg4 : g < (ext (ext w2 x) z).heap.size := (HB3.out.up (ext_below _ z)).lt)
        refine wp_region_ext (by kernel_rfl) (by kernel_rfl) ?_
        repeat (go_big_quiet_step ((go_at_call 83; exact calls_in (HBT.out _))))
        refine wpQuiet_nil ?_
        rintro w' ⟨x2, rfl⟩
        obtain ⟨wo, hwo⟩ : ∃ wo, ext (ext (ext w2 x) z) x2 = ext w2 wo := ex_ext (b_ext' (b_ext' (ext_below w2 x) z) x2)
        rw [hwo]
        clear hwo HB3 HL3 hszx hc0 hc1 hgx hg4
        go_wp2
        obtain ⟨t, ht⟩ : ∃ t, t = turnN (numS s / 2 ^ p) k := ⟨_, rfl⟩
        have hti : 2 * (c : Int) + (y : Int) = (t : Int) := by rw [ht, HTS.out]; norm_cast
        have HT := Lib.hid ht
        have ht15 : t ≤ 65537 := by rw [ht, HTS.out]; omega
        rw [hti]
        clear ht HTS HBT hti heq
        have HB5 := Lib.hid (HB2.out.up (ext_below w2 wo))
        have hsz5 := size_ext w2 wo
        have hcw : ∀ q o, q < w2.heap.size → (ext w2 wo).cell? ⟨q, o, none⟩ = w2.cell? ⟨q, o, none⟩ := fun q o hq => cell?_ext w2 wo q o hq
        have HCW := Lib.hid hcw
        have HGR5 : Hid (w.grownBy (ext w2 wo) (some g)) := Lib.hid (grown_trans HGR.out (grown_below (ext_below _ _) _))
        have HXT : Hid (∃ x, ext w2 wo = ext w2 x) := Lib.hid ⟨wo, rfl⟩
        clear hcw
        generalize ext w2 wo = w5 at *
        have hc1 := HB5.out.c1
        have hf1 := HB5.out.free 1
        have hg5 := HB5.out.lt
        go_loopg [10] L.length (fun gk i wr => ∃ j : Nat, j ≤ L.length ∧ i = .int .i64 j ∧ Hid (∀ q, q < j → hitN L (numS s / 2 ^ p) q → L.getD q 0 ≠ k) ∧ wr = w5 ∧ gk = L.length - j)
        case atStart => exact ⟨0, Nat.zero_le _, rfl, Lib.hid (fun q hq => absurd hq (Nat.not_lt_zero q)), rfl, rfl⟩
        case round =>
          obtain ⟨j, hj, rfl, HNO, rfl, rfl⟩ := hrel
          by_cases hlt : j < L.length
          · have hcell := (HCW.out b (off + j) (hbk2 (by omega))).trans (HC2.out j hlt)
            have hcellc := (HCW.out bc (fc + j) (hbkc (by omega))).trans (HCC.out j hlt)
            have hb5 : b < wr.heap.size := by have := hbk2 (by omega); omega
            have hbc5 : bc < wr.heap.size := by have := hbkc (by omega); omega
            have hitk := HIT.out j hlt
            have HHD : Hid (hitN L (numS s / 2 ^ p) j ↔ L.getD j 0 ≠ 0 ∧ codeN L j = turnN (numS s / 2 ^ p) (L.getD j 0)) := Lib.hid Iff.rfl
            have HLX : Hid (L.getD j 0 = L.getD j 0) := Lib.hid rfl
            generalize hx : L.getD j 0 = xx at *
            generalize hcd : codeN L j = cd at *
            have HX := Lib.hid hx
            have HITK := Lib.hid hitk
            clear hx hcd hitk
            have HSTEP : Hid (¬ (xx = k ∧ cd = t) → ∀ q, q < j + 1 → hitN L (numS s / 2 ^ p) q → L.getD q 0 ≠ k) := Lib.hid (fun hn q hq hh => by
              rcases Nat.lt_succ_iff_lt_or_eq.1 hq with h1 | rfl
              · exact HNO.out q h1 hh
              · intro he
                have hxk : xx = k := by rw [← HX.out]; exact he
                refine hn ⟨hxk, ?_⟩
                rw [HT.out, ← hxk]
                exact (HHD.out.1 hh).2)
            by_cases hxk : xx = k
            · have e1 : ((xx : Int) == (k : Int)) = true := by rw [hxk]; exact beq_self_eq_true _
              by_cases hct : cd = t
              · have e2 : ((cd : Int) == (t : Int)) = true := by rw [hct]; exact beq_self_eq_true _
                have HH : Hid (hitN L (numS s / 2 ^ p) j) := Lib.hid (HHD.out.2 ⟨by omega, by rw [hxk, ← HT.out]; exact hct⟩)
                have HXK := Lib.hid hxk
                clear hxk hct
                have HST := Lib.hid (HB5.out.set1 (p + k))
                go_wp2
                go_ret2
                have hst := HST.out
                rw [Int.natCast_add] at hst
                unfold RetRead; rw [show 8 * s.size - p = left by omega]
                exact ⟨j, 0, k, rfl, .inl ⟨hlt, HH.out, by rw [HX.out, HXK.out]; omega, rfl, by rw [HX.out, HXK.out]⟩, hst.1, grown_trans HGR5.out hst.2⟩
              · have e2 : ((cd : Int) == (t : Int)) = false := by simp; omega
                have HH := Lib.hid (HSTEP.out (fun h => hct h.2))
                clear hct hxk
                go_wp2
                go_roundg (L.length - (j + 1))
                case measure => omega
                case rel => exact ⟨j + 1, by omega, by go_num, HH, rfl, rfl⟩
            · have e1 : ((xx : Int) == (k : Int)) = false := by simp; omega
              have HH := Lib.hid (HSTEP.out (fun h => hxk h.1))
              clear hxk
              go_wp2
              go_roundg (L.length - (j + 1))
              case measure => omega
              case rel => exact ⟨j + 1, by omega, by go_num, HH, rfl, rfl⟩
          · obtain rfl : j = L.length := by omega
            have HIT2 : Hid (∀ i, i < L.length → hitN L (numS s / 2 ^ p) i → k + 1 ≤ L.getD i 0) := Lib.hid (fun i hi hh => by
              have h1 := HIT.out i hi hh
              have h2 := HNO.out i hi hh
              omega)
            have HT1 := HT
            go_wp2
            go_roundg (16 - (k + 1))
            case measure => omega
            case rel => exact ⟨k + 1, by omega, by omega, by omega, by go_num, by rw [Nat.add_sub_cancel, ← HT1.out], HIT2, HXT.out, rfl⟩
      · have hki : ¬ (k : Int) ≤ (left : Int) := by omega
        have hk15i : (k : Int) ≤ 15 := by omega
        have hl15 : (left : Int) < 15 := by omega
        have hN : ReadN L (numS s / 2 ^ p) left 0 2 0 := .inr ⟨fun i hi hh => by have := HIT.out i hi hh; omega, rfl, rfl, by rw [if_pos (by omega)]⟩
        have HN := Lib.hid hN
        clear hN
        go_wp2_with (first | (go_at_call 84; refine HL3.out.mono ?_; rintro e w4 ⟨rfl, z, rfl⟩; have HB4 := Lib.hid (HB3.out.up (ext_below _ z)); have HL4 := Lib.hid (HLF.out _ HB4.out)) | (go_at_call 84; refine HL4.out.mono ?_; rintro e w5 ⟨rfl, z2, rfl⟩))
        go_ret2
        unfold RetRead; rw [show 8 * s.size - p = left by omega]
        have hbz : Below w2.heap.size w2 (ext (ext (ext w2 x) z) z2) := (by repeat (first | exact Below.refl _ _ | assumption | refine b_drewN ?_ _ | refine Below.drew ?_ | refine b_ext' ?_ _ | refine b_alloc' ?_ _))
        exact ⟨0, 2, 0, rfl, HN.out, HB4.out.up (ext_below _ _), grown_trans HGR.out (grown_below hbz _)⟩
    · obtain rfl : k = 16 := by omega
      have hl15 : ¬ (left : Int) < 15 := by omega
      have hN : ReadN L (numS s / 2 ^ p) left 0 9 0 := .inr ⟨fun i hi hh => by have := HIT.out i hi hh; have := H15.out i hi; omega, rfl, rfl, by rw [if_neg (by omega)]⟩
      have HN := Lib.hid hN
      clear hN
      go_wp2_with (first | (go_at_call 84; refine HL3.out.mono ?_; rintro e w4 ⟨rfl, z, rfl⟩; have HB4 := Lib.hid (HB3.out.up (ext_below _ z))))
      go_ret2
      unfold RetRead; rw [show 8 * s.size - p = left by omega]
      have hbz : Below w2.heap.size w2 (ext (ext w2 x) z) := (by repeat (first | exact Below.refl _ _ | assumption | refine b_drewN ?_ _ | refine Below.drew ?_ | refine b_ext' ?_ _ | refine b_alloc' ?_ _))
      exact ⟨0, 9, 0, rfl, HN.out, HB4.out, grown_trans HGR.out (grown_below hbz _)⟩
theorem readR {w0 w : World} {g p : Nat} {s : ByteArray} (v : Value) (L : List Nat) (h0 : IntsAt w0 v (nls L)) (hb0 : Below w0.heap.size w0 w) (h : BoxT w g s p) (_hgw : w0.heap.size ≤ g)
    (hlen : L.length ≤ 320) (h15 : ∀ x ∈ L, x ≤ 15) (hk : kraftN L ≤ 32768) (hs : s.size ≤ 4294967296) (hp : p ≤ 8 * s.size) :
    Calls Try.prog 85 #[.pointer (some ⟨g, 0, none⟩), v] w (RetRead BoxT L s p g w) := readR0 v L h0 hb0 h hlen h15 hk hs hp
end Go.Cm

/- The walk of the document's writer's text. Conditions: none. -/
namespace Go.Cm
open Go.RowKit Go.Proofs

def partB (N k : Nat) : List Value := bytesN (N % 2 ^ k) ((k + 7) / 8)
theorem mod_succ (N k : Nat) : N % 2 ^ (k + 1) = N % 2 ^ k + (N.testBit k).toNat * 2 ^ k := by
  rw [Nat.mod_pow_succ, Nat.testBit_eq_decide_div_mod_eq, Nat.mul_comm]
  by_cases h : N / 2 ^ k % 2 = 1
  · simp [h]
  · have : N / 2 ^ k % 2 = 0 := by omega
    simp [this]
theorem byteAt_zero {M k : Nat} (h : M < 2 ^ k) (h8 : k % 8 = 0) : byteAt M (k / 8) = 0 := by
  unfold byteAt
  have := rest_lt M k h
  rw [h8, Nat.pow_zero] at this
  have h0 : M / 256 ^ (k / 8) = 0 := by generalize M / 256 ^ (k / 8) = q at *; omega
  rw [h0]
theorem partB_new (N k : Nat) (h8 : k % 8 = 0) : partB N k ++ [.int .u8 0] = bytesN (N % 2 ^ k) (k / 8 + 1) := by
  unfold partB
  rw [show (k + 7) / 8 = k / 8 by omega, bytesN_succ, byteAt_zero (Nat.mod_lt _ (Nat.pow_pos (by decide))) h8]; rfl
theorem partB_old (N k : Nat) (h8 : k % 8 ≠ 0) : partB N k = bytesN (N % 2 ^ k) (k / 8 + 1) := by
  unfold partB
  rw [show (k + 7) / 8 = k / 8 + 1 by omega]
theorem byte_add (N k : Nat) : byteAt (N % 2 ^ (k + 1)) (k / 8) = byteAt (N % 2 ^ k) (k / 8) + (N.testBit k).toNat * 2 ^ (k % 8) ∧ byteAt (N % 2 ^ k) (k / 8) < 2 ^ (k % 8) := by
  have hlt : N % 2 ^ k < 2 ^ k := Nat.mod_lt _ (Nat.pow_pos (by decide))
  have h1 := rest_lt _ k hlt
  have h8 : 2 ^ (k % 8) ≤ 2 ^ 7 := Nat.pow_le_pow_right (by decide) (by omega)
  have hb : (N.testBit k).toNat ≤ 1 := by cases N.testBit k <;> simp
  have h2 : (N.testBit k).toNat * 2 ^ (k % 8) ≤ 2 ^ (k % 8) := by
    have := Nat.mul_le_mul_right (2 ^ (k % 8)) hb; omega
  unfold byteAt
  rw [mod_succ, rest_add]
  rw [Nat.mod_eq_of_lt (show N % 2 ^ k / 256 ^ (k / 8) < 256 by omega), Nat.mod_eq_of_lt (by omega)]
  exact ⟨rfl, h1⟩
theorem partB_set (N k : Nat) : (bytesN (N % 2 ^ k) (k / 8 + 1)).set (k / 8) (.int .u8 ((byteAt (N % 2 ^ k) (k / 8) + (N.testBit k).toNat * 2 ^ (k % 8) : Nat) : Int)) = partB N (k + 1) := by
  unfold partB
  rw [show (k + 1 + 7) / 8 = k / 8 + 1 by omega, ← (byte_add N k).1]
  refine List.ext_getElem (by simp [bytesN]) fun j h1 h2 => ?_
  rw [List.getElem_set]
  simp only [bytesN, List.getElem_map, List.getElem_range]
  by_cases h : k / 8 = j
  · subst h; rw [if_pos rfl]
  · rw [if_neg h, mod_succ, byteAt_add _ _ _ _ (by simp [bytesN] at h2; omega)]
theorem bytesN_getD (N k j : Nat) (h : j < k) : (bytesN N k).getD j undef = .int .u8 (byteAt N j : Nat) := by simp [bytesN, List.getD, h]
theorem bitsN_getD (N k j : Nat) (h : j < k) : (bitsN N k).getD j undef = .int .u8 ((N.testBit j).toNat : Nat) := by simp [bitsN, List.getD, h]
theorem partB_text {N L : Nat} (h : N < 2 ^ L) : partB N L = bytesV (textN N L) := by
  unfold partB textN
  rw [Nat.mod_eq_of_lt h]
  exact (bytesV_wholeN N _).symm

set_option maxRecDepth 100000 in
theorem textR {w : World} {B g N L : Nat} (h : WrtR w B g N L) (hL : L ≤ 2147483648) : Calls Try.prog 26 #[.pointer (some ⟨g, 0, none⟩)] w fun e w' => e = .returned (.string ⟨(textN N L).toArray⟩) ∧ Below w.heap.size w w' := by
  obtain ⟨⟨vb, hbox, hown, hne⟩, hge, hlt⟩ := h
  have c0 : w.cell? ⟨g, 0, none⟩ = some vb := hbox.cell (by simp)
  have hg := hbox.blk.2
  obtain ⟨ob, cb, gb, rfl, hdb, -, hcb, -⟩ := hown.cases
  rw [bitsN_length] at hdb hcb c0
  have hixb := index_any (P := Try.prog) 53 5 Try.underlying53 (by kernel_rfl) hdb
  have hbk := hdb.hblk
  have HCB : Hid (∀ i, i < L → w.cell? ⟨gb, i, none⟩ = some (.int .u8 ((N.testBit i).toNat : Nat))) := Lib.hid (fun i hi => by rw [hcb i hi, bitsN_getD N L i hi])
  have HPT := Lib.hid (partB_text hlt)
  clear hcb hdb hbox hown hne hlt
  go_enter Try.func26, Try.ntmps26
  go_wp2
  go_loopg [3, 4] (L + 1) (fun gk vo i wr => ∃ k : Nat, k ≤ L ∧ i = .int .i64 k ∧ Own wr w.heap.size 5 vo (partB N k) ∧ Below w.heap.size w wr ∧ gk = L + 1 - k)
  case atStart => exact ⟨0, Nat.zero_le _, rfl, Own.nil _ _ _, Below.refl _ _, rfl⟩
  case round =>
    obtain ⟨k, hk, rfl, hown, hbel, rfl⟩ := hrel
    have HO := Lib.hid hown
    have HE := Lib.hid hbel
    have hsz := hbel.size
    have c0w := (hbel.cell (p := ⟨g, 0, none⟩) hg).trans c0
    have hgw : g < wr.heap.size := by omega
    clear hown hbel
    by_cases hlt : k < L
    · have hcell := (HE.out.cell (p := ⟨gb, k, none⟩) (hbk (by omega))).trans (HCB.out k hlt)
      have HCB0 := Lib.hid (HCB.out k hlt)
      have hgb : gb < wr.heap.size := by have := hbk (by omega); omega
      have HS := Lib.hid (partB_set N k)
      have HBA := Lib.hid (byte_add N k).2
      have hb : (N.testBit k).toNat ≤ 1 := by cases N.testBit k <;> simp
      generalize (N.testBit k).toNat = b at *
      by_cases h8 : k % 8 = 0
      · have hpn := partB_new N k h8
        have h8i : ((k : Int) % 8 == 0) = true := by simp; omega
        have hlW := Lib.hid (below_alloc wr (.cells #[.int .u8 0] 5))
        have HX : Hid (Sl (wr.alloc (.cells #[.int .u8 0] 5)) (.slice (some ⟨wr.heap.size, 0, none⟩) 1 1) [.int .u8 0]) := Lib.hid (by simpa using sl_lit wr #[.int .u8 0] 5 (by simp))
        have HT1 := Lib.hid (HO.out.up hlW.out)
        have HT2 : Hid (∀ u ∈ [Value.int .u8 0], u.oneCell' = true) := Lib.hid (by intro u hu; simp at hu; subst hu; rfl)
        have HT3 : Hid ((partB N k).length + 1 ≤ 4294967296) := Lib.hid (by unfold partB; rw [bytesN_length]; omega)
        have HT4 : Hid (w.heap.size ≤ (wr.alloc (.cells #[.int .u8 0] 5)).heap.size) := Lib.hid (Nat.le_trans hsz hlW.out.size)
        have HPN := Lib.hid hpn
        clear hpn
        go_wp2_with (at_builtin; refine wpList_app rfl (.tmp 17) (.tmp 18) 53 rfl w.heap.size 5 (.int .u8 0) 1 Try.underlying53 (by kernel_rfl) rfl (by decide) u3 (partB N k) rfl HT1.out (.slice (some ⟨wr.heap.size, 0, none⟩) 1 1) [.int .u8 0] rfl HX.out HT2.out HT3.out HT4.out ?_; intro v' w5 hown1 hg1 hk1; have HO1 := Lib.hid hown1; have HG1 := Lib.hid hg1; clear hown1 hg1 hk1)
        have HE2 : Hid (Below w.heap.size w w5) := Lib.hid (below_grown (HE.out.trans (hlW.out.mono hsz)) HT4.out HT1.out HG1.out)
        have HO2 : Hid (Own w5 w.heap.size 5 v' (bytesN (N % 2 ^ k) (k / 8 + 1))) := Lib.hid (by rw [← HPN.out]; exact HO1.out)
        have hcell5 := (HE2.out.cell (p := ⟨gb, k, none⟩) (hbk (by omega))).trans (HCB0.out)
        have c05 := (HE2.out.cell (p := ⟨g, 0, none⟩) hg).trans c0
        have hsz5 := HE2.out.size
        have hg5 : g < w5.heap.size := by omega
        have hgb5 : gb < w5.heap.size := by have := hbk (by omega); omega
        clear hcell c0w HO HE HO1 HG1 HT1 HX hsz hgw hgb HT2 HT3 HT4 hlW HPN
        obtain ⟨oo, co, go, rfl, hdo, hgo, hco, hfo, hst⟩ := HO2.out.cases
        rw [bytesN_length] at hdo hgo hco hfo hst ⊢
        have hixo := index_any (P := Try.prog) 53 5 Try.underlying53 (by kernel_rfl) hdo
        have hco8 := hco (k / 8) (by omega)
        rw [bytesN_getD _ _ _ (by omega)] at hco8
        have hfo8 := hfo (k / 8) (by omega)
        have hgo8 := hdo.hblk (by omega)
        generalize byteAt (N % 2 ^ k) (k / 8) = y at *
        have HST := Lib.hid (hst (k / 8) (.int .u8 ((y + b * 2 ^ (k % 8) : Nat) : Int)) (by omega))
        have HGO := Lib.hid (hgo (by omega))
        clear hdo hgo hco hfo hst
        have hqi : (k : Int) / 8 = ((k / 8 : Nat) : Int) := by omega
        have hmi : (k : Int) % 8 = ((k % 8 : Nat) : Int) := by omega
        have hix8 := fun W => hixo W .i64 ((k / 8 : Nat) : Int) (by omega) (by omega)
        rw [show 0 + ((k / 8 : Nat) : Int).toNat = k / 8 by omega] at hix8
        have hm8 : k % 8 < 8 := by omega
        generalize k / 8 = q at *
        generalize hmm : k % 8 = m at *
        clear hixo
        have HV : Hid (((y + b * 2 ^ m : Nat) : Int) = ((y : Int) + (b : Int) * 2 ^ m) % 256) := Lib.hid (by
          have h1 : 2 ^ m ≤ 2 ^ 7 := Nat.pow_le_pow_right (by decide) (by omega)
          have h2 : b * 2 ^ m ≤ 1 * 2 ^ m := Nat.mul_le_mul_right _ hb
          have h3 := HBA.out
          have h4 : (b : Int) * 2 ^ m = ((b * 2 ^ m : Nat) : Int) := by norm_cast
          rw [h4]
          generalize b * 2 ^ m = z at *
          omega)
        refine wp_region_tailg [0,1,2,3,4,5,6,7,8,9,10,11,12,13,14,15,16,17,18,19,20] [] [21] (by kernel_rfl) (by kernel_rfl) ?_
        simp only [pick, List.map_cons, List.map_nil, List.getD_cons_zero, List.getD_cons_succ]
        repeat (go_big_quiet_step (fail))
        refine wpQuiet_nil ?_
        unfold wpAct
        unfold wpAct
        go_wp2
        refine ⟨trivial, ?_⟩
        unfold wpAct
        go_wp2
        go_roundg (L + 1 - (k + 1))
        case measure => omega
        case rel =>
          refine ⟨k + 1, by omega, by go_num, ?_, ?_, rfl⟩
          · have h5 := HST.out.1.up (below_drewN _ 1)
            rw [← World.drew_is_drewN, HS.out, HV.out] at h5
            rw [h8, Int.pow_zero, Int.mul_one] at h5
            exact h5
          · have h5 := (HE2.out.grown HST.out.2 HE2.out.size (fun k hk => by cases hk; exact HGO.out.2)).trans ((below_drewN _ 1).mono (Nat.le_trans HE2.out.size HST.out.2.size))
            rw [← World.drew_is_drewN, HV.out] at h5
            rw [h8, Int.pow_zero, Int.mul_one] at h5
            exact h5
      · have h8i : ((k : Int) % 8 == 0) = false := by simp; omega
        have hpo := partB_old N k h8
        rw [hpo] at HO
        clear hpo
        obtain ⟨oo, co, go, rfl, hdo, hgo, hco, hfo, hst⟩ := HO.out.cases
        rw [bytesN_length] at hdo hgo hco hfo hst ⊢
        have hixo := index_any (P := Try.prog) 53 5 Try.underlying53 (by kernel_rfl) hdo
        have hco8 := hco (k / 8) (by omega)
        rw [bytesN_getD _ _ _ (by omega)] at hco8
        have hfo8 := hfo (k / 8) (by omega)
        have hgo8 := hdo.hblk (by omega)
        generalize byteAt (N % 2 ^ k) (k / 8) = y at *
        have HST := Lib.hid (hst (k / 8) (.int .u8 ((y + b * 2 ^ (k % 8) : Nat) : Int)) (by omega))
        have HGO := Lib.hid (hgo (by omega))
        clear hdo hgo hco hfo hst
        have hqi : (k : Int) / 8 = ((k / 8 : Nat) : Int) := by omega
        have hmi : (k : Int) % 8 = ((k % 8 : Nat) : Int) := by omega
        have hix8 := fun W => hixo W .i64 ((k / 8 : Nat) : Int) (by omega) (by omega)
        rw [show 0 + ((k / 8 : Nat) : Int).toNat = k / 8 by omega] at hix8
        have hm8 : k % 8 < 8 := by omega
        generalize k / 8 = q at *
        generalize hmm : k % 8 = m at *
        clear hixo
        have HV : Hid (((y + b * 2 ^ m : Nat) : Int) = ((y : Int) + (b : Int) * 2 ^ m) % 256) := Lib.hid (by
          have h1 : 2 ^ m ≤ 2 ^ 7 := Nat.pow_le_pow_right (by decide) (by omega)
          have h2 : b * 2 ^ m ≤ 1 * 2 ^ m := Nat.mul_le_mul_right _ hb
          have h3 := HBA.out
          have h4 : (b : Int) * 2 ^ m = ((b * 2 ^ m : Nat) : Int) := by norm_cast
          rw [h4]
          generalize b * 2 ^ m = z at *
          omega)
        go_wp2
        refine wp_region_tailg [0,1,2,3,4,5,6,7,8,9,10,11,12,13,14,15,16,17,18,19,20] [] [21] (by kernel_rfl) (by kernel_rfl) ?_
        simp only [pick, List.map_cons, List.map_nil, List.getD_cons_zero, List.getD_cons_succ]
        repeat (go_big_quiet_step (fail))
        refine wpQuiet_nil ?_
        unfold wpAct
        unfold wpAct
        go_wp2
        refine ⟨trivial, ?_⟩
        unfold wpAct
        go_wp2
        go_roundg (L + 1 - (k + 1))
        case measure => omega
        case rel =>
          refine ⟨k + 1, by omega, by go_num, ?_, ?_, rfl⟩
          · have h5 := HST.out.1.up (below_drewN _ 1)
            rw [← World.drew_is_drewN, HS.out, HV.out] at h5
            exact h5
          · have h5 := (HE.out.grown HST.out.2 hsz (fun k hk => by cases hk; exact HGO.out.2)).trans ((below_drewN _ 1).mono (Nat.le_trans hsz HST.out.2.size))
            rw [← World.drew_is_drewN, HV.out] at h5
            exact h5
    · obtain rfl : k = L := by omega
      rw [HPT.out] at HO
      have hcv := run_bytes_string (P := Try.prog) wr 53 9 5 Try.underlying53 Try.underlying5 Try.underlying9 _ _ HO.out.sl
      go_wp2
      go_ret
      exact ⟨rfl, HE.out⟩
end Go.Cm
