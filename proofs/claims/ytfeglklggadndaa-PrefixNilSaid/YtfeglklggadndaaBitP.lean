/- The walks of the bit writer. Conditions: none. -/
import Derived.Test.YtfeglklggadndaaBitB
import Derived.Test.YtfeglklggadndaaRegT
import Derived.Deep.LoopGhost
namespace Go.Cm
open Go.RowKit Go.Proofs

theorem thereP {w : World} {g : Nat} {vb : Value} {rest n : Nat} (h : BoxW w g vb rest n) : Calls Try.prog 27 #[.pointer (some ⟨g, 0, none⟩)] w fun e w' => e = .returned (.bool true) ∧ w' = w := by
  have h0 := h.c0
  have hg := h.lt
  go_enter Try.func27, Try.ntmps27
  go_wp2
  go_ret
  exact ⟨rfl, rfl⟩
theorem openP (w : World) : Calls Try.prog 8 #[] w fun e w' => ∃ g, e = .returned (.pointer (some ⟨g, 0, none⟩)) ∧ WrtP w' w.heap.size g 0 0 ∧ Below w.heap.size w w' := by
  go_enter Try.func8, Try.ntmps8
  go_wp2
  go_ret
  have ho := own_lit w w.heap.size #[Value.bool true, Value.slice none 0 0, Value.int .u64 0, Value.int .i64 0] 66 (by decide) (Nat.le_refl _)
  exact ⟨w.heap.size, rfl, ⟨⟨.slice none 0 0, ⟨ho⟩, Own.nil _ _ _, by simp [Value.ownBlock]⟩, Nat.le_refl _, by decide⟩, below_alloc _ _⟩

theorem putV {w : World} {B g N L : Nat} {vb0 : Value} (h : WrtV w B g N L vb0) (v n : Nat) (hv : v < 2 ^ n) (hn : n ≤ 32) (hL : L + n ≤ 34359738368) :
    Calls Try.prog 23 #[.pointer (some ⟨g, 0, none⟩), .int .i64 v, .int .i64 n] w fun e w' => e = .returned (.int .i64 0) ∧ ∃ vb0', WrtV w' B g (N + v * 2 ^ L) (L + n) vb0' ∧ Below B w w' ∧ Fr g vb0 vb0' w w' := by
  obtain ⟨hbox, hown, hne, hge, hlt⟩ := h
  have hv32 : v < 4294967296 := Nat.lt_of_lt_of_le hv (Nat.pow_le_pow_right (n := 2) (by decide) hn)
  have hd : decide (0 ≤ (n : Int) ∧ (n : Int) ≤ 32) = true := by simp; omega
  have hn0 : (0 : Int) ≤ (n : Int) := by omega
  have hz : (v : Int) / 2 ^ n = 0 := by
    have : (v : Int) / 2 ^ n = ((v / 2 ^ n : Nat) : Int) := by norm_cast
    rw [this, Nat.div_eq_of_lt hv]; rfl
  have hrl := rest_lt N L hlt
  have hl8 : L % 8 < 8 := Nat.mod_lt _ (by decide)
  have HOR : Hid (bits .or .u64 ((N / 256 ^ (L / 8) : Nat) : Int) (IntKind.u64.wrap ((v : Int) * 2 ^ (L % 8))) = ((N / 256 ^ (L / 8) + v * 2 ^ (L % 8) : Nat) : Int)) := Lib.hid (by rw [IntKind.wrap_u64]; exact or_u64 (N / 256 ^ (L / 8)) v (L % 8) hrl hl8 hv32)
  have hv0 : ¬ (v : Int) < 0 := by omega
  have HRA := Lib.hid (rest_add N v L)
  have HBA := Lib.hid (bytesN_add N v L)
  have HB := Lib.hid hbox
  have HO := Lib.hid hown
  have c2 := hbox.c2
  have c3 := hbox.c3
  have f2 := hbox.free 2
  have f3 := hbox.free 3
  have hg := hbox.lt
  clear hbox hown hrl
  go_enter Try.func23, Try.ntmps23
  go_wp2_with (first | (go_at_call 27; refine (thereP HB.out).mono ?_; rintro e w' ⟨rfl, hw'⟩; rw [hw']; clear hw') | (go_at_call 40; refine (many _ _).mono ?_; rintro e w' ⟨rfl, hw'⟩; rw [hw', hd]; clear hw'))
  have hgB : Below B w w := Below.refl _ _
  generalize hR : N / 256 ^ (L / 8) = r at *
  generalize hM : L % 8 = m at *
  obtain ⟨q, hq⟩ : ∃ q, q = r + v * 2 ^ m := ⟨_, rfl⟩
  have HQ := Lib.hid hq
  rw [← hq] at HOR
  clear hq
  refine wp_region_tailg [0,1,2,3,4,5,6,7,8,9,10,11,12] [13,14] [15] (by kernel_rfl) (by kernel_rfl) ?_
  simp only [pick, List.map_cons, List.map_nil, List.getD_cons_zero, List.getD_cons_succ]
  repeat (go_big_quiet_step (fail))
  refine wpQuiet_nil ?_
  rw [HOR.out]
  (unfold wpAct; go_wp2; refine ⟨(ex_ext (by repeat (first | exact Below.refl _ _ | assumption | refine b_drewN ?_ _ | refine Below.drew ?_ | refine b_ext' ?_ _ | refine b_alloc' ?_ _))), ?_⟩)
  (unfold wpAct; go_wp2; refine ⟨(ex_ext (by repeat (first | exact Below.refl _ _ | assumption | refine b_drewN ?_ _ | refine Below.drew ?_ | refine b_ext' ?_ _ | refine b_alloc' ?_ _))), ?_⟩)
  unfold wpAct
  have HST := Lib.hid (HB.out.set2 q)
  unfold wpAct
  go_wp2
  refine ⟨trivial, ?_⟩
  unfold wpAct
  have HG1 := Lib.hid (grown_trans HST.out.2 (grown_drew _ (some g)))
  have HB1 := Lib.hid (HST.out.1.up (b_drew1 (Below.refl _ _)))
  clear HST
  generalize (w.setCell ⟨g, 2, none⟩ (.int .u64 (q : Int))).drew = w1 at *
  have HO1 := Lib.hid (HO.out.keep HG1.out (.inr hne))
  have HL1 : Hid (Below B w w1) := Lib.hid ((Below.refl B w).grown HG1.out (Nat.le_of_lt (Nat.lt_of_le_of_lt hge hg)) (fun k hk => by cases hk; exact hge))
  have HF1 := Lib.hid ((Fr.refl g vb0 w).step HG1.out (fun k e => by cases e; exact .inl rfl))
  clear c2 c3 f2 f3 hg HB HO HG1 HOR hgB
  have c3 := HB1.out.c3
  have f3 := HB1.out.free 3
  have hg := HB1.out.lt
  obtain ⟨s, hs⟩ : ∃ s, s = m + n := ⟨_, rfl⟩
  have hst := HB1.out.set3 (m + n)
  rw [Int.natCast_add, ← hs] at hst
  have HST := Lib.hid hst
  clear hst
  have HS := Lib.hid hs
  have HR := Lib.hid hR
  have HM := Lib.hid hM
  have HV := Lib.hid hv
  have HLT := Lib.hid hlt
  have HL := Lib.hid hL
  clear hs hR hM hv hlt hL hz hd hv0 hn0
  go_wp2
  have HB2 := Lib.hid HST.out.1
  have HO2 := Lib.hid (HO1.out.keep HST.out.2 (.inr hne))
  have HL2 : Hid (Below B w (w1.setCell ⟨g, 3, none⟩ (.int .i64 ((m : Int) + (n : Int))))) := Lib.hid (HL1.out.grown HST.out.2 (by omega) (fun k hk => by cases hk; exact hge))
  have HF2 := Lib.hid (HF1.out.step HST.out.2 (fun k e => by cases e; exact .inl rfl))
  clear HST HB1 HO1 HL1 c3 f3 hg HF1
  generalize w1.setCell ⟨g, 3, none⟩ (.int .i64 ((m : Int) + (n : Int))) = w2 at *
  obtain ⟨N', hN'⟩ : ∃ N', N' = N + v * 2 ^ L := ⟨_, rfl⟩
  rw [← hN'] at HRA HBA
  have HN := Lib.hid hN'
  clear hN'
  go_loopg [] s (fun gk wr => ∃ (k nn : Nat) (vb : Value), 8 * k + nn = L + n ∧ BoxW wr g vb (N' / 256 ^ k) nn ∧ Own wr B 5 vb (bytesN N' k) ∧ vb.ownBlock ≠ some g ∧ Below B w wr ∧ Fr g vb0 vb w wr ∧ gk = nn)
  case atStart =>
    refine ⟨L / 8, s, vb0, ?_, ?_, ?_, hne, HL2.out, HF2.out, ?_⟩
    · have := HS.out; have := HM.out; omega
    · rw [HRA.out, ← HQ.out]; exact HB2.out
    · rw [HBA.out]; exact HO2.out
    · rfl
  case round =>
    obtain ⟨k, nn, vb, hkn, hbox, hown, hne, hbel, hfr, rfl⟩ := hrel
    have HFR := Lib.hid hfr
    clear hfr
    clear HF2
    clear HQ HRA HBA HB2 HO2 HL2
    have c1 := hbox.c1
    have c2 := hbox.c2
    have c3 := hbox.c3
    have f1 := hbox.free 1
    have f2 := hbox.free 2
    have f3 := hbox.free 3
    have hg := hbox.lt
    have HB := Lib.hid hbox
    have HO := Lib.hid hown
    have HE := Lib.hid hbel
    have HNS := Lib.hid (rest_next N' k)
    have HBS := Lib.hid (bytesN_succ N' k)
    have HBY : Hid (((N' / 256 ^ k : Nat) : Int) % 256 = (byteAt N' k : Nat)) := Lib.hid (by unfold byteAt; exact (Int.natCast_emod _ _).symm)
    have hklt : k ≤ 4294967296 := by have := HL.out; omega
    have HK := Lib.hid hkn
    clear hbox hown hbel hkn
    by_cases h8 : 8 ≤ gk
    · generalize N' / 256 ^ k = r at *
      go_wp2
      have hne2 : some g ≠ vb.ownBlock := fun e => hne e.symm
      have hBg : B ≤ wr.heap.size := by omega
      refine wp_region_tail (fun w' => ∃ x, w' = chg wr vb.ownBlock x) [0,1,2,3,4,5,6,7,8,9] [10,11,12,13] [14] (by kernel_rfl) (by kernel_rfl) (ex_chg (grown_drew _ _)) ?_
      simp only [pick, List.map_cons, List.map_nil, List.getD_cons_zero, List.getD_cons_succ]
      repeat (go_big_quiet_step (fail))
      refine wpQuiet_nil ?_
      (unfold wpAct; go_wp2; refine ⟨ex_chg (grown_below (by repeat (first | exact Below.refl _ _ | assumption | refine b_drewN ?_ _ | refine Below.drew ?_ | refine b_ext' ?_ _ | refine b_alloc' ?_ _)) _), ?_⟩)
      unfold wpAct
      have HX : Hid (Sl (wr.alloc (.cells #[.int .u8 ((byteAt N' k : Nat) : Int)] 5)).drew (.slice (some ⟨wr.heap.size, 0, none⟩) 1 1) [.int .u8 ((byteAt N' k : Nat) : Int)]) := Lib.hid (by
        have h1 := (sl_lit wr #[.int .u8 ((byteAt N' k : Nat) : Int)] 5 (by simp)).up (below_drewN _ 1)
        rw [← World.drew_is_drewN] at h1
        simpa using h1)
      rw [HBY.out]
      have HT1 := Lib.hid (HO.out.up (show Below wr.heap.size wr (wr.alloc (.cells #[.int .u8 ((byteAt N' k : Nat) : Int)] 5)).drew from (by repeat (first | exact Below.refl _ _ | assumption | refine b_drewN ?_ _ | refine Below.drew ?_ | refine b_ext' ?_ _ | refine b_alloc' ?_ _))))
      have HT3 : Hid ((bytesN N' k).length + 1 ≤ 4294967296) := Lib.hid (by rw [bytesN_length]; have := HK.out; have := HL.out; omega)
      have HT2 : Hid (∀ u ∈ [Value.int .u8 ((byteAt N' k : Nat) : Int)], u.oneCell' = true) := Lib.hid (by intro u hu; simp at hu; subst hu; rfl)
      have HT4 : Hid (B ≤ (wr.alloc (.cells #[.int .u8 ((byteAt N' k : Nat) : Int)] 5)).drew.heap.size) := Lib.hid (Nat.le_trans hBg (show Below wr.heap.size wr (wr.alloc (.cells #[.int .u8 ((byteAt N' k : Nat) : Int)] 5)).drew from (by repeat (first | exact Below.refl _ _ | assumption | refine b_drewN ?_ _ | refine Below.drew ?_ | refine b_ext' ?_ _ | refine b_alloc' ?_ _))).size)
      go_wp2_with (at_builtin; refine wpList_app rfl (.tmp 63) (.tmp 69) 27 rfl B 5 (.int .u8 0) 1 Try.underlying27 (by kernel_rfl) rfl (by decide) vb (bytesN N' k) rfl HT1.out (.slice (some ⟨wr.heap.size, 0, none⟩) 1 1) [.int .u8 ((byteAt N' k : Nat) : Int)] rfl HX.out HT2.out HT3.out HT4.out ?_; intro v' w5 hown1 hg1 hk1; have HO1 := Lib.hid hown1; have HG1 := Lib.hid hg1; have HK1 := Lib.hid hk1; clear hown1 hg1 hk1)
      refine ⟨ex_chg (grown_trans (grown_below (by repeat (first | exact Below.refl _ _ | assumption | refine b_drewN ?_ _ | refine Below.drew ?_ | refine b_ext' ?_ _ | refine b_alloc' ?_ _)) _) HG1.out), ?_⟩
      (unfold wpAct; go_wp2; refine ⟨ex_chg (grown_trans (grown_below (by repeat (first | exact Below.refl _ _ | assumption | refine b_drewN ?_ _ | refine Below.drew ?_ | refine b_ext' ?_ _ | refine b_alloc' ?_ _)) _) HG1.out), ?_⟩)
      (unfold wpAct; go_wp2; refine ⟨ex_chg (grown_trans (grown_below (by repeat (first | exact Below.refl _ _ | assumption | refine b_drewN ?_ _ | refine Below.drew ?_ | refine b_ext' ?_ _ | refine b_alloc' ?_ _)) _) HG1.out), ?_⟩)
      unfold wpAct
      have hlW : Below wr.heap.size wr (wr.alloc (.cells #[.int .u8 ((byteAt N' k : Nat) : Int)] 5)).drew := (by repeat (first | exact Below.refl _ _ | assumption | refine b_drewN ?_ _ | refine Below.drew ?_ | refine b_ext' ?_ _ | refine b_alloc' ?_ _))
      have HB5 := Lib.hid ((HB.out.up hlW).keep HG1.out hne)
      have HL5 : Hid (Below B w w5) := Lib.hid (below_grown (HE.out.trans (hlW.mono hBg)) (Nat.le_trans hBg hlW.size) HT1.out HG1.out)
      have hne5 : Hid (v'.ownBlock ≠ some g) := Lib.hid (fun e => by
        rcases HK1.out g e with h | h
        · exact hne h
        · have := hlW.size; omega)
      have HO5 : Hid (Own w5 B 5 v' (bytesN N' (k + 1))) := Lib.hid (by rw [HBS.out]; exact HO1.out)
      have HF5 : Hid (Fr g vb0 v' w w5) := Lib.hid (((HFR.out.below hlW).step HG1.out (fun k e => .inr e)).val HK1.out (Nat.le_trans HFR.out.2.2 hlW.size))
      clear HO1 HG1 HK1 HT1 HX c1 c2 c3 f1 f2 f3 hg HB HO HE hlW hne hne2 HT3
      have f1 := HB5.out.free 1
      have c1 := HB5.out.c1
      have hg := HB5.out.lt
      obtain ⟨o5, c5, g5, rfl, -⟩ := HO5.out.cases
      generalize (bytesN N' (k + 1)).length = l5 at *
      have HST := Lib.hid (HB5.out.set1 (.slice o5 l5 c5))
      unfold wpAct
      go_wp2
      refine ⟨trivial, ?_⟩
      unfold wpAct
      have HB6 := Lib.hid HST.out.1
      have HO6 := Lib.hid (HO5.out.keep HST.out.2 (.inr hne5.out))
      have HL6 : Hid (Below B w (w5.setCell ⟨g, 1, none⟩ (.slice o5 l5 c5))) := Lib.hid (HL5.out.grown HST.out.2 (by omega) (fun k hk => by cases hk; exact hge))
      have HF6 := Lib.hid (HF5.out.step HST.out.2 (fun k e => by cases e; exact .inl rfl))
      clear HST HB5 HO5 HL5 c1 f1 hg HF5
      generalize w5.setCell ⟨g, 1, none⟩ (.slice o5 l5 c5) = w6 at *
      have c2 := HB6.out.c2
      have c3 := HB6.out.c3
      have f2 := HB6.out.free 2
      have f3 := HB6.out.free 3
      have hg := HB6.out.lt
      have h9 : (8 : Int) ≤ (gk : Int) := by omega
      go_wp2
      go_roundg (gk - 8)
      case measure => omega
      case rel =>
        have hst := HB6.out.set2 (r / 256)
        have hst2 := hst.1.set3 (gk - 8)
        have e1 : ((r / 256 : Nat) : Int) = (r : Int) / 256 := Int.natCast_ediv r 256
        have e2 : ((gk - 8 : Nat) : Int) = (gk : Int) - 8 := by omega
        have hO := HO6.out.keep (grown_trans hst.2 hst2.2) (.inr hne5.out)
        have hL := HL6.out.grown (grown_trans hst.2 hst2.2) (by omega) (fun k hk => by cases hk; exact hge)
        have hF := HF6.out.step (grown_trans hst.2 hst2.2) (fun k e => by cases e; exact .inl rfl)
        rw [e1, e2] at hst2 hO hL hF
        have hk := HK.out
        have hl := HL.out
        rw [IntWalk.wrap64_in ((gk : Int) - 8) ⟨by omega, by omega⟩]
        refine ⟨k + 1, gk - 8, _, by omega, ?_, hO, hne5.out, hL, hF, rfl⟩
        rw [← HNS.out]
        exact hst2.1
    · go_wp2
      go_ret
      have hk := HK.out
      have hmod : (L + n) % 8 = gk ∧ (L + n) / 8 = k := by omega
      rw [← HN.out]
      refine ⟨rfl, vb, ⟨?_, ?_, hne, hge, ?_⟩, HE.out, HFR.out⟩
      · rw [hmod.1, hmod.2]; exact HB.out
      · rw [hmod.2]; exact HO.out
      · rw [HN.out]; exact num_add_lt HLT.out HV.out
theorem putP {w : World} {B g N L : Nat} (h : WrtP w B g N L) (v n : Nat) (hv : v < 2 ^ n) (hn : n ≤ 32) (hL : L + n ≤ 34359738368) :
    Calls Try.prog 23 #[.pointer (some ⟨g, 0, none⟩), .int .i64 v, .int .i64 n] w fun e w' => e = .returned (.int .i64 0) ∧ WrtP w' B g (N + v * 2 ^ L) (L + n) ∧ Below B w w' := by
  obtain ⟨vb, hV⟩ := h.v
  exact (putV hV v n hv hn hL).mono fun e w' ⟨h1, vb', h2, h3, _⟩ => ⟨h1, h2.p, h3⟩
end Go.Cm
