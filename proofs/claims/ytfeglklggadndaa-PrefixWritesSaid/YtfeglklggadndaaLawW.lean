/- The walk of the law PrefixWrites. Conditions: the arguments read as lists. -/
import Derived.Test.YtfeglklggadndaaLawK
import Derived.Test.YtfeglklggadndaaRegS
import Derived.Deep.LoopGhost
namespace Go.Cm
open Go.RowKit Go.Proofs
theorem Own.of_block {w w' : World} {B E : Nat} {v : Value} {xs : List Value} (h : Own w B E v xs) (hb : ∀ k, v.ownBlock = some k → w'.heap[k]? = w.heap[k]?) : Own w' B E v xs := by
  refine ⟨⟨h.1.1, h.1.2.imp id ?_⟩, h.2⟩
  rintro ⟨g, cap, cur, rfl, h2, h3, h4⟩
  exact ⟨g, cap, cur, rfl, h2, by rw [hb g rfl]; exact h3, h4⟩
/-- two writers that share nothing -/
structure Dj (g g' : Nat) (vb vr : Value) : Prop where
  a : g ≠ g'
  b : vb.ownBlock ≠ some g'
  c : vr.ownBlock ≠ some g
  d : ∀ k, vb.ownBlock = some k → vr.ownBlock ≠ some k
theorem WrtRV.other {w w' : World} {B g g' N L : Nat} {vb vb' vr : Value} (h : WrtRV w B g' N L vr) (hf : Fr g vb vb' w w') (hd : Dj g g' vb vr) : WrtRV w' B g' N L vr :=
  ⟨h.box.of_block (fun k hk => by cases hk; exact hf.1 _ h.box.blk.2 (fun e => hd.a e.symm) hd.b), h.own.of_block (fun k hk => hf.1 k (h.own.lt k hk).2 (fun e => hd.c (by rw [hk, e])) (fun e => hd.d k e hk)), h.ne, h.ge, h.lt⟩
theorem WrtV.other {w w' : World} {B g g' N L : Nat} {vb vr vr' : Value} (h : WrtV w B g N L vb) (hf : Fr g' vr vr' w w') (hd : Dj g g' vb vr) : WrtV w' B g N L vb :=
  ⟨⟨h.box.own.of_block (fun k hk => by cases hk; exact hf.1 _ h.box.lt hd.a hd.c)⟩, h.own.of_block (fun k hk => hf.1 k (h.own.lt k hk).2 (fun e => hd.b (by rw [hk, e])) (fun e => hd.d k hk e)), h.ne, h.ge, h.lt⟩
theorem Dj.left {w w' : World} {B g g' N L : Nat} {vb vb' vr : Value} (hd : Dj g g' vb vr) (hf : Fr g vb vb' w w') (h : WrtRV w B g' N L vr) : Dj g g' vb' vr :=
  ⟨hd.a, fun e => by rcases hf.2.1 _ e with q | q
                     · exact hd.b q
                     · have := h.box.blk.2; omega, hd.c, fun k hk => by rcases hf.2.1 _ hk with q | q
                                                                        · exact hd.d k q
                                                                        · intro e; have := (h.own.lt k e).2; omega⟩
theorem Dj.right {w w' : World} {B g g' N L : Nat} {vb vr vr' : Value} (hd : Dj g g' vb vr) (hf : Fr g' vr vr' w w') (h : WrtV w B g N L vb) : Dj g g' vb vr' :=
  ⟨hd.a, hd.b, fun e => by rcases hf.2.1 _ e with q | q
                           · exact hd.c q
                           · have := h.box.lt; omega, fun k hk e => by rcases hf.2.1 _ e with q | q
                                                                       · exact hd.d k hk q
                                                                       · have := (h.own.lt k hk).2; omega⟩
theorem numW_le (l : List Int) (n : Int) (NL : Nat × Nat) : (numW l n NL).2 ≤ NL.2 + 15 := by
  unfold numW
  split
  · rename_i h
    have he : errI l = 0 := by
      apply Classical.byContradiction; intro hn
      rw [errW_codes hn] at h; exact hn h
    obtain ⟨L, rfl, -, h15, -⟩ := errI_zero he
    show NL.2 + ((nls L).getD n.toNat 0).toNat ≤ _
    rw [nls_getD, Int.toNat_natCast]
    by_cases hi : n.toNat < L.length
    · have := h15 _ (getD_mem L n.toNat 0 hi); omega
    · rw [List.getD_eq_getElem?_getD, List.getElem?_eq_none (by omega)]; simp
  · omega

set_option maxRecDepth 100000 in
set_option maxHeartbeats 4000000 in
theorem prefixWrites (v u : Value) (l ss : List Int) (w : World) (hv : IntsAt w v l) (hu : IntsAt w u ss) : Calls Try.prog 3 #[v, u] w fun e w' => e = .returned (.bool true) ∧ ∃ x, w' = ext w x := by
  have HV := Lib.hid hv
  obtain ⟨oa, cap, b, off, rfl, hd, -⟩ := hv.open
  obtain ⟨ou, capu, bu, offu, rfl, hdu, hcu⟩ := hu.open
  have hixu := index_any (P := Try.prog) 22 3 Try.underlying22 (by kernel_rfl) hdu
  have hm := hd.len
  have hmu := hdu.len
  have hbku := hdu.hblk
  have HCU := Lib.hid hcu
  clear hv hu hd hdu hcu
  by_cases hbig : l.length > 1000
  · have hbi : (l.length : Int) > 1000 := by omega
    go_enter Try.func3, Try.ntmps3
    go_wp2_with (go_at_call 7; refine (knownP _).mono ?_; rintro e w1 ⟨rfl, x, rfl⟩)
    go_ret
    exact ⟨rfl, (ex_ext (by repeat (first | exact Below.refl _ _ | assumption | refine b_drewN ?_ _ | refine Below.drew ?_ | refine b_ext' ?_ _ | refine b_alloc' ?_ _)))⟩
  · have hbi : ¬ (l.length : Int) > 1000 := by omega
    go_enter Try.func3, Try.ntmps3
    go_wp2_with (go_at_call 8; refine (openP w).mono ?_; rintro e w1 ⟨gw, rfl, hO, hb1⟩; have HO1 := Lib.hid hO; have HB1 := Lib.hid hb1; clear hO hb1)
    have hvn := HO1.out.v
    obtain ⟨vb0, hV0⟩ := hvn
    have hown0 := own_lit w1 w1.heap.size #[Value.slice none 0 0] 29 (by simp) (Nat.le_refl _)
    have hR0 : WrtRV (w1.alloc (.cells #[Value.slice none 0 0] 29)) w.heap.size w1.heap.size 0 0 (.slice none 0 0) := ⟨by simpa using hown0, Own.nil _ _ _, by simp [Value.ownBlock], HB1.out.size, by decide⟩
    have hV1 := hV0.up (below_alloc w1 (.cells #[Value.slice none 0 0] 29))
    have hD1 : Dj gw w1.heap.size vb0 (.slice none 0 0) := ⟨by have := hV0.box.lt; omega, fun e => by have := (hV0.own.lt _ e).2; omega, by simp [Value.ownBlock], fun k _ => by simp [Value.ownBlock]⟩
    have hBA : Below w.heap.size w (w1.alloc (.cells #[Value.slice none 0 0] 29)) := HB1.out.alloc HB1.out.size _
    have HV1 := Lib.hid hV1
    have HR1 := Lib.hid hR0
    have HD1 := Lib.hid hD1
    have HBA := Lib.hid hBA
    clear hV0 hown0 hR0 hV1 hD1 hBA HO1 HB1
    generalize w1.alloc (.cells #[Value.slice none 0 0] 29) = w2 at *
    go_loopg [7] 30 (fun gk i wr => ∃ (k N L : Nat) (vb vr : Value), k ≤ 30 ∧ k ≤ ss.length ∧ i = .int .i64 k ∧ Hid (L ≤ 15 * k) ∧ WrtV wr w.heap.size gw N L vb ∧ WrtRV wr w.heap.size w1.heap.size N L vr ∧ Dj gw w1.heap.size vb vr ∧ Below w.heap.size w wr ∧ gk = 30 - k)
    case atStart => exact ⟨0, 0, 0, vb0, _, by omega, by omega, rfl, Lib.hid (by omega), HV1.out, HR1.out, HD1.out, HBA.out, rfl⟩
    case round =>
      clear HV1 HR1 HD1 HBA
      obtain ⟨k, N, L, vb, vr, hk, hks, rfl, HL15, hVk, hRk, hDk, hBk, rfl⟩ := hrel
      have HPD := Lib.hid (hVk.up (b_drew1 (Below.refl wr.heap.size wr)))
      have HRD := Lib.hid (hRk.up (b_drew1 (Below.refl wr.heap.size wr)))
      have HDJ := Lib.hid hDk
      have HBD := Lib.hid (b_drew1 hBk)
      have HBW := Lib.hid hBk
      clear hVk hRk hDk hBk
      by_cases hlt : k < ss.length
      · by_cases h30 : k < 30
        · have hlti : (k : Int) < (ss.length : Int) := by omega
          have h30i : (k : Int) < 30 := by omega
          have hbu := hbku (by omega)
          have hcell := HCU.out k hlt
          generalize ss.getD k 0 = y at *
          have HC0 : Hid (∃ x, wr.drew = ext w x) := Lib.hid (ex_ext HBD.out)
          have HWP := Lib.hid (writeV (.slice oa l.length cap) l y HV.out HBD.out HPD.out (by have := HL15.out; omega))
          have HCY : Hid (0 = 0) := Lib.hid rfl
          have HLW : Hid (0 = 0) := Lib.hid rfl
          have HN0 : Hid (0 = 0) := Lib.hid rfl
          go_wp2
          refine wp_region_scr (C := fun w' => ∃ x, w' = ext w x) (.q 0 (.q 1 (.q 2 (.q 3 (.q 4 (.q 5 (.q 7 (.q 8 (.q 9 (.q 10 (.q 11 (.q 12 (.br 6 (.br 13 (.q 14 (.q 15 (.q 16 (.q 18 (.q 19 (.q 20 (.br 17 (.br 21 (.q 22 (.q 23 (.q 24 (.q 25 (.q 26 (.q 28 (.br 27 (.br 29 (.q 30 (.q 31 .done)) .no) .no))))))) .no) (.br 21 (.q 22 (.br 17 (.q 23 (.q 24 (.q 25 (.q 26 (.q 28 (.br 27 (.br 29 (.q 30 (.q 31 .done)) .no) .no)))))) .no)) .no)))))))) .no) .no))))))))))))) (by kernel_rfl) (by kernel_rfl) HC0.out ?_
          repeat ((unfold wpScr; simp only [pick, List.map_cons, List.map_nil, List.getD_cons_zero, List.getD_cons_succ]); go_big_quiet_step (fail); refine wpQuiet_nil ?_)
          (unfold wpScr; simp only [pick, List.map_cons, List.map_nil, List.getD_cons_zero, List.getD_cons_succ])
          refine ⟨?_, by unfold wpScr; trivial⟩
          unfold wpAct
          go_wp2_with (go_at_call 9; (with_reducible refine HWP.out.mono ?_); rintro e w5 ⟨rfl, vb', hq1, hq2, hq3⟩; have HP5 := Lib.hid hq1; have HB5 := Lib.hid (HBD.out.trans hq2); have HF5 := Lib.hid hq3; clear hq1 hq2 hq3)
          refine ⟨ex_ext HB5.out, ?_⟩
          have HR5 := Lib.hid (HRD.out.other HF5.out HDJ.out)
          have HD5 := Lib.hid (HDJ.out.left HF5.out HRD.out)
          have HWR := Lib.hid (writeRV (.slice oa l.length cap) l y HV.out HB5.out HR5.out (by have := HL15.out; omega))
          unfold wpAct
          (unfold wpScr; simp only [pick, List.map_cons, List.map_nil, List.getD_cons_zero, List.getD_cons_succ])
          refine ⟨?_, by unfold wpScr; trivial⟩
          unfold wpAct
          go_wp2_with (go_at_call 10; (with_reducible refine HWR.out.mono ?_); rintro e w6 ⟨rfl, vr', hq1, hq2, hq3⟩; have HR6 := Lib.hid hq1; have HB6 := Lib.hid (HB5.out.trans hq2); have HF6 := Lib.hid hq3; clear hq1 hq2 hq3)
          refine ⟨ex_ext HB6.out, ?_⟩
          have HP6 := Lib.hid (HP5.out.other HF6.out HD5.out)
          have HD6 := Lib.hid (HD5.out.right HF6.out HP5.out)
          have HNB := Lib.hid (numW_le l y (N, L))
          generalize (numW l y (N, L)).1 = N' at *
          generalize (numW l y (N, L)).2 = L' at *
          have hL' : L' ≤ 1000 := by have := HNB.out; have := HL15.out; omega
          obtain ⟨oR, cR, gRb, hvR, -⟩ := HR6.out.own.cases
          rw [bitsN_length] at hvR
          subst hvR
          have hcR : w6.cell? ⟨w1.heap.size, 0, none⟩ = some (.slice oR L' cR) := HR6.out.box.cell (by simp)
          have hgR : w1.heap.size < w6.heap.size := HR6.out.box.blk.2
          have HLN := Lib.hid (lenP HP6.out.p (by omega))
          clear HWP HWR HF5 HF6 HP5 HR5 HD5 HPD HRD HDJ HB5 HBD HCY HLW HN0
          unfold wpAct
          repeat ((unfold wpScr; simp only [pick, List.map_cons, List.map_nil, List.getD_cons_zero, List.getD_cons_succ]); go_big_quiet_step (fail); refine wpQuiet_nil ?_)
          (unfold wpScr; simp only [pick, List.map_cons, List.map_nil, List.getD_cons_zero, List.getD_cons_succ])
          refine ⟨?_, ?_⟩
          · unfold wpAct
            go_wp2_with (go_at_call 11; (with_reducible refine HLN.out.mono ?_); rintro e w7 ⟨rfl, x7, rfl⟩)
            have HB7 := Lib.hid (HB6.out.trans ((ext_below w6 x7).mono HB6.out.size))
            refine ⟨ex_ext HB7.out, ?_⟩
            have hcR7 := (cell?_ext w6 x7 w1.heap.size 0 hgR).trans hcR
            have hgR7 : w1.heap.size < (ext w6 x7).heap.size := Nat.lt_of_lt_of_le hgR (size_ext _ _)
            unfold wpAct
            (unfold wpScr; simp only [pick, List.map_cons, List.map_nil, List.getD_cons_zero, List.getD_cons_succ])
            refine ⟨?_, by unfold wpScr; trivial⟩
            unfold wpAct
            go_wp2
            refine ⟨ex_ext HB7.out, ?_⟩
            unfold wpAct
            repeat ((unfold wpScr; simp only [pick, List.map_cons, List.map_nil, List.getD_cons_zero, List.getD_cons_succ]); go_big_quiet_step (fail); refine wpQuiet_nil ?_)
            (unfold wpScr; simp only [pick, List.map_cons, List.map_nil, List.getD_cons_zero, List.getD_cons_succ])
            refine ⟨?_, by unfold wpScr; trivial⟩
            have HTP := Lib.hid (textP (HP6.out.p.up (ext_below w6 x7)) (by omega))
            unfold wpAct
            go_wp2_with (go_at_call 12; (with_reducible refine HTP.out.mono ?_); rintro e w8 ⟨rfl, x8, rfl⟩)
            have HB8 := Lib.hid (HB7.out.trans ((ext_below (ext w6 x7) x8).mono HB7.out.size))
            refine ⟨ex_ext HB8.out, ?_⟩
            have HTR := Lib.hid (textR ((HR6.out.p.up (ext_below w6 x7)).up (ext_below _ x8)) (by omega))
            unfold wpAct
            (unfold wpScr; simp only [pick, List.map_cons, List.map_nil, List.getD_cons_zero, List.getD_cons_succ])
            refine ⟨?_, by unfold wpScr; trivial⟩
            unfold wpAct
            go_wp2_with (go_at_call 13; (with_reducible refine HTR.out.mono ?_); rintro e w9 ⟨rfl, hb9⟩)
            have HB9 := Lib.hid (HB8.out.trans (hb9.mono HB8.out.size))
            refine ⟨ex_ext HB9.out, ?_⟩
            have HB69 : Hid (Below w6.heap.size w6 w9) := Lib.hid (((ext_below w6 x7).trans ((ext_below _ x8).mono (size_ext _ _))).trans (hb9.mono (Nat.le_trans (size_ext _ _) (size_ext _ _))))
            unfold wpAct
            repeat ((unfold wpScr; simp only [pick, List.map_cons, List.map_nil, List.getD_cons_zero, List.getD_cons_succ]); go_big_quiet_step (fail); refine wpQuiet_nil ?_)
            unfold wpScr
            first | (intro _ hq; clear hq) | (intro hq; clear hq)
            go_wp2
            go_roundg (30 - (k + 1))
            case measure => omega
            case rel => exact ⟨k + 1, N', L', vb', _, by omega, by omega, by go_num, Lib.hid (by have := HNB.out; have := HL15.out; omega), HP6.out.up HB69.out, HR6.out.up HB69.out, HD6.out, HB9.out, rfl⟩
          · (unfold wpScr; simp only [pick, List.map_cons, List.map_nil, List.getD_cons_zero, List.getD_cons_succ])
            refine ⟨?_, by unfold wpScr; trivial⟩
            unfold wpAct
            go_wp2
            refine ⟨ex_ext HB6.out, ?_⟩
            unfold wpAct
            repeat ((unfold wpScr; simp only [pick, List.map_cons, List.map_nil, List.getD_cons_zero, List.getD_cons_succ]); go_big_quiet_step (fail); refine wpQuiet_nil ?_)
            (unfold wpScr; simp only [pick, List.map_cons, List.map_nil, List.getD_cons_zero, List.getD_cons_succ])
            refine ⟨?_, by unfold wpScr; trivial⟩
            unfold wpAct
            go_wp2_with (go_at_call 11; (with_reducible refine HLN.out.mono ?_); rintro e w7 ⟨rfl, x7, rfl⟩)
            have HB7 := Lib.hid (HB6.out.trans ((ext_below w6 x7).mono HB6.out.size))
            refine ⟨ex_ext HB7.out, ?_⟩
            unfold wpAct
            repeat ((unfold wpScr; simp only [pick, List.map_cons, List.map_nil, List.getD_cons_zero, List.getD_cons_succ]); go_big_quiet_step (fail); refine wpQuiet_nil ?_)
            (unfold wpScr; simp only [pick, List.map_cons, List.map_nil, List.getD_cons_zero, List.getD_cons_succ])
            refine ⟨?_, by unfold wpScr; trivial⟩
            have HTP := Lib.hid (textP (HP6.out.p.up (ext_below w6 x7)) (by omega))
            unfold wpAct
            go_wp2_with (go_at_call 12; (with_reducible refine HTP.out.mono ?_); rintro e w8 ⟨rfl, x8, rfl⟩)
            have HB8 := Lib.hid (HB7.out.trans ((ext_below (ext w6 x7) x8).mono HB7.out.size))
            refine ⟨ex_ext HB8.out, ?_⟩
            have HTR := Lib.hid (textR ((HR6.out.p.up (ext_below w6 x7)).up (ext_below _ x8)) (by omega))
            unfold wpAct
            (unfold wpScr; simp only [pick, List.map_cons, List.map_nil, List.getD_cons_zero, List.getD_cons_succ])
            refine ⟨?_, by unfold wpScr; trivial⟩
            unfold wpAct
            go_wp2_with (go_at_call 13; (with_reducible refine HTR.out.mono ?_); rintro e w9 ⟨rfl, hb9⟩)
            have HB9 := Lib.hid (HB8.out.trans (hb9.mono HB8.out.size))
            refine ⟨ex_ext HB9.out, ?_⟩
            have HB69 : Hid (Below w6.heap.size w6 w9) := Lib.hid (((ext_below w6 x7).trans ((ext_below _ x8).mono (size_ext _ _))).trans (hb9.mono (Nat.le_trans (size_ext _ _) (size_ext _ _))))
            unfold wpAct
            repeat ((unfold wpScr; simp only [pick, List.map_cons, List.map_nil, List.getD_cons_zero, List.getD_cons_succ]); go_big_quiet_step (fail); refine wpQuiet_nil ?_)
            unfold wpScr
            first | (intro _ hq; clear hq) | (intro hq; clear hq)
            go_wp2
            go_roundg (30 - (k + 1))
            case measure => omega
            case rel => exact ⟨k + 1, N', L', vb', _, by omega, by omega, by go_num, Lib.hid (by have := HNB.out; have := HL15.out; omega), HP6.out.up HB69.out, HR6.out.up HB69.out, HD6.out, HB9.out, rfl⟩
        · obtain rfl : k = 30 := by omega
          have h30i : ¬ ((30 : Nat) : Int) < 30 := by omega
          have hlti : ((30 : Nat) : Int) < (ss.length : Int) := by omega
          go_wp2_with (go_at_call 7; refine (knownP _).mono ?_; rintro e w5 ⟨rfl, x, rfl⟩)
          go_ret
          exact ⟨rfl, ex_ext (HBW.out.trans ((ext_below _ _).mono HBW.out.size))⟩
      · obtain rfl : k = ss.length := by omega
        go_wp2_with (go_at_call 7; refine (knownP _).mono ?_; rintro e w5 ⟨rfl, x, rfl⟩)
        go_ret
        exact ⟨rfl, ex_ext (HBW.out.trans ((ext_below _ _).mono HBW.out.size))⟩
end Go.Cm
