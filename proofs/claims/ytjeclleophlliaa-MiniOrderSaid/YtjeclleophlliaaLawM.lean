/- The walk of MiniMakes. Conditions: the argument reads as an automaton. -/
import Derived.Test.YtjeclleophlliaaKnown
import Derived.Test.YtjeclleophlliaaAlikeR
import Derived.Test.YtjeclleophlliaaReachR
import Derived.Test.YtjeclleophlliaaSameW
import Derived.Test.YtjeclleophlliaaRegP
namespace Go.Cm
open Go.RowKit Go.Proofs

theorem sameB_refl (d : Dfa) : sameB d d = true := by simp [sameB]
theorem ints_same (v v' : Value) (l : List Int) (w : World) (h : IntsAt w v l) (h' : IntsAt w v' l) :
    Calls Try.prog 14 #[v, v'] w fun e w' => e = .returned (.bool true) ∧ ∃ x, w' = ext w x := by
  have := ints_eq v v' l l w h h'
  have e : decide (l = l) = true := by simp
  rwa [e] at this
theorem same_same (v v' : Value) (d : Dfa) (w : World) (h : DfaAt w v d) (h' : DfaAt w v' d) :
    Calls Try.prog 13 #[v, v'] w fun e w' => e = .returned (.bool true) ∧ ∃ x, w' = ext w x := by
  have := same v v' d d w h h'
  rwa [sameB_refl] at this
/-- an automaton that lies in a variable -/
def DfaIn (w : World) (g : Nat) (A : Array Value) (d : Dfa) : Prop := w.heap[g]? = some (.cells A 26 (0, 0)) ∧ DfaV w A d
theorem DfaIn.up {w w' : World} {g : Nat} {A : Array Value} {d : Dfa} (h : DfaIn w g A d) (hb : Below w.heap.size w w') : DfaIn w' g A d := ⟨(hb.block g (lt_of_block h.1)).trans h.1, h.2.up hb⟩
theorem DfaIn.lt {w : World} {g : Nat} {A : Array Value} {d : Dfa} (h : DfaIn w g A d) : g < w.heap.size := lt_of_block h.1
theorem DfaIn.new {w w' : World} {A Z : Array Value} {d : Dfa} (h : DfaV w A d) (hg : w'.heap[w.heap.size]? = some (.cells A 26 (0, 0))) (hgr : (w.alloc (.cells Z 26)).grownBy w' (some w.heap.size)) : DfaIn w' w.heap.size A d ∧ Below w.heap.size w w' := by
  have hb : Below w.heap.size w w' := (below_alloc w (.cells Z 26)).grown hgr (by simp) (fun j hj => by cases hj; exact Nat.le_refl _)
  exact ⟨⟨hg, h.up hb⟩, hb⟩

set_option maxRecDepth 100000 in
set_option maxHeartbeats 4000000 in
theorem miniMakes (v : Value) (d : Dfa) (w : World) (h : DfaAt w v d) : Calls Try.prog 3 #[v] w fun e w' => e = .returned (.bool true) ∧ ∃ x, w' = ext w x := by
  obtain ⟨A, rfl, hv⟩ := h
  have HIN : Hid (DfaIn (w.alloc (.cells A 26)) w.heap.size A d) := Lib.hid ⟨heap_alloc_new w (.cells A 26), hv.up (below_alloc _ _)⟩
  have HS := Lib.hid hv.hsize
  have HSM := Lib.hid (fun W (hW : DfaIn W w.heap.size A d) => small (.agg A) d W ⟨A, rfl, hW.2⟩)
  clear hv
  have hz := zero_dfa
  obtain ⟨Z, hZ⟩ : ∃ Z, Z = zArr := ⟨_, rfl⟩
  rw [← hZ] at hz
  have HBN : Hid (∀ W : World, BoxD (W.alloc (.cells Z 26)) W.heap.size (.slice none 0 0) (.slice none 0 0) (List.replicate 256 0)) := Lib.hid (fun W => hZ ▸ box_new W)
  clear hZ
  cases hsm : smallB d with
  | false =>
    go_enter Try.func3, Try.ntmps3
    go_wp2_with (first | (refine load_dfa rfl _ rfl w.heap.size rfl A HS.out HIN.out.1 ?_) | (go_at_call 7; refine (HSM.out _ HIN.out).mono ?_; rintro e w' ⟨rfl, x, rfl⟩; rw [hsm]) | (go_at_call 8; refine (known _).mono ?_; rintro e w' ⟨rfl, x2, rfl⟩))
    go_ret
    exact ⟨rfl, (ex_ext (by repeat (first | exact Below.refl _ _ | assumption | refine b_drewN ?_ _ | refine Below.drew ?_ | refine b_ext' ?_ _ | refine b_alloc' ?_ _)))⟩
  | true =>
    go_enter Try.func3, Try.ntmps3
    go_wp2_with (first | (refine load_dfa rfl _ rfl w.heap.size rfl A HS.out HIN.out.1 ?_) | (go_at_call 7; refine (HSM.out _ HIN.out).mono ?_; rintro e w' ⟨rfl, x, rfl⟩; rw [hsm]; have HIN1 := Lib.hid (HIN.out.up (ext_below _ x))) | (refine load_dfa rfl _ rfl w.heap.size rfl A HS.out HIN1.out.1 ?_))
    clear hsm HSM
    have hb0 : Below w.heap.size w (ext (w.alloc (.cells A 26)) x) := (by repeat (first | exact Below.refl _ _ | assumption | refine b_drewN ?_ _ | refine Below.drew ?_ | refine b_ext' ?_ _ | refine b_alloc' ?_ _))
    generalize ext (w.alloc (.cells A 26)) x = w1 at *
    have HB0 := Lib.hid hb0; clear hb0
    generalize hee : makeE d = ee
    have HEE := Lib.hid hee; clear hee
    refine (makeP (.agg A) d w1 ⟨A, rfl, HIN1.out.2⟩).mono ?_
    rintro e w2 ⟨v2, rfl, ⟨C2, rfl, hv2⟩, hb2⟩
    rw [HEE.out]
    have HV2 := Lib.hid hv2
    have HB2 := Lib.hid hb2
    have HIN2 := Lib.hid (HIN1.out.up hb2)
    clear hv2 hb2
    go_wp2_with (first | (refine store_new rfl _ _ rfl w2.heap.size rfl C2 rfl HV2.out (HBN.out w2) ?_; intro w3 hg3 hgr3; have HN3 := Lib.hid (DfaIn.new HV2.out hg3 hgr3); have HIN3 := Lib.hid (HIN2.out.up HN3.out.2); clear hg3 hgr3) | (refine load_dfa rfl _ rfl w.heap.size rfl A HS.out HIN3.out.1 ?_))
    refine (makeR (.agg A) d w3 ⟨A, rfl, HIN3.out.2⟩).mono ?_
    rintro e w4 ⟨v4, rfl, ⟨C4, rfl, hv4⟩, hb4⟩
    rw [HEE.out]
    have HV4 := Lib.hid hv4
    have HB4 := Lib.hid hb4
    have HIN4 := Lib.hid (HIN3.out.up hb4)
    clear hv4 hb4
    go_wp2_with (first | (refine store_new rfl _ _ rfl w4.heap.size rfl C4 rfl HV4.out (HBN.out w4) ?_; intro w5 hg5 hgr5; have HN5 := Lib.hid (DfaIn.new HV4.out hg5 hgr5); have HIN5 := Lib.hid (HIN4.out.up HN5.out.2); clear hg5 hgr5) | (refine load_dfa rfl _ rfl w.heap.size rfl A HS.out HIN5.out.1 ?_))
    refine (alikeP (.agg A) d w5 ⟨A, rfl, HIN5.out.2⟩).mono ?_
    rintro e w6 ⟨r6, rfl, hr6, hb6⟩
    have HR6 := Lib.hid hr6
    have HB6 := Lib.hid hb6
    have HIN6 := Lib.hid (HIN5.out.up hb6)
    clear hr6 hb6
    go_wp2_with (refine load_dfa rfl _ rfl w.heap.size rfl A HS.out HIN6.out.1 ?_)
    refine (alikeR (.agg A) d w6 ⟨A, rfl, HIN6.out.2⟩).mono ?_
    rintro e w7 ⟨r7, rfl, hr7, hb7⟩
    have HR7 := Lib.hid hr7
    have HB7 := Lib.hid hb7
    clear hr7 hb7
    have hin7 : DfaIn w7 w.heap.size A d := HIN6.out.up HB7.out
    have h57 : Below w5.heap.size w5 w7 := HB6.out.trans (HB7.out.mono HB6.out.size)
    have h37 : Below w3.heap.size w3 w7 := HB4.out.trans ((HN5.out.2.trans (h57.mono HN5.out.2.size)).mono HB4.out.size)
    have HI7 := Lib.hid hin7
    have HI3 : Hid (DfaIn w7 w2.heap.size C2 (makeI d)) := Lib.hid (HN3.out.1.up h37)
    have HI5 : Hid (DfaIn w7 w4.heap.size C4 (makeI d)) := Lib.hid (HN5.out.1.up h57)
    have HW7 : Hid (Below w.heap.size w w7) := Lib.hid (HB0.out.trans ((HB2.out.trans ((HN3.out.2.trans (h37.mono HN3.out.2.size)).mono HB2.out.size)).mono HB0.out.size))
    have HX7 : Hid (RowsAt w7 r6 (alikeI d)) := Lib.hid (HR6.out.up HB7.out)
    have HS2 := Lib.hid HV2.out.hsize
    have HS4 := Lib.hid HV4.out.hsize
    clear hin7 h57 h37 HIN1 HIN2 HIN3 HIN4 HIN5 HIN6 HN3 HN5 HB2 HB4 HB6 HB7 HV2 HV4 HIN HB0 HR6 HBN hz
    obtain ⟨ox, cx, bx, fx, rfl, hdx, hrx⟩ := HX7.out.open
    obtain ⟨oy, cy, by_, fy, rfl, hdy, hry⟩ := HR7.out.open
    have HDX := Lib.hid hdx
    have HDY := Lib.hid hdy
    have HRX := Lib.hid hrx
    have HRY := Lib.hid hry
    clear hdx hdy hrx hry HX7 HR7
    go_wp2
    refine wp_region_phg [([0,1],[2]), ([3,4,5,6,7,8,9,10,12],[11,13,14]), ([15,16,17,18,19,20,21,22,23],[])] (by kernel_rfl) (by kernel_rfl) ?_
    (unfold wpPhases; simp only [pick, List.map_cons, List.map_nil, List.getD_cons_zero, List.getD_cons_succ])
    repeat (first | (go_big_quiet_want; refine quiet_load_dfa _ rfl w2.heap.size rfl C2 HS2.out HI3.out.1 ?_; go_simp; go_big_quiet_on) | (go_big_quiet_want; refine quiet_load_dfa _ rfl w4.heap.size rfl C4 HS4.out HI5.out.1 ?_; go_simp; go_big_quiet_on) | go_big_quiet_step (fail))
    refine wpQuiet_nil ?_
    unfold wpAct
    go_wp2_with (go_at_call 13; refine (same_same (.agg C2) (.agg C4) (makeI d) _ ⟨C2, rfl, (HI3.out.up (below_drewN _ 1)).2⟩ ⟨C4, rfl, (HI5.out.up (below_drewN _ 1)).2⟩).mono ?_; rintro e w' ⟨rfl, x1, rfl⟩)
    refine ⟨(ex_ext (by repeat (first | exact Below.refl _ _ | assumption | refine b_drewN ?_ _ | refine Below.drew ?_ | refine b_ext' ?_ _ | refine b_alloc' ?_ _))), ?_⟩
    unfold wpAct
    (unfold wpPhases; simp only [pick, List.map_cons, List.map_nil, List.getD_cons_zero, List.getD_cons_succ])
    have hne : (ee != ee) = false := by simp
    repeat (first | (go_big_quiet_want; refine quiet_load_dfa _ rfl w.heap.size rfl A HS.out HI7.out.1 ?_; go_simp; go_big_quiet_on) | go_big_quiet_step (fail))
    refine wpQuiet_nil ?_
    have hba : Below w7.heap.size w7 (ext (w7.drewN 1) x1) := (by repeat (first | exact Below.refl _ _ | assumption | refine b_drewN ?_ _ | refine Below.drew ?_ | refine b_ext' ?_ _ | refine b_alloc' ?_ _))
    generalize ext (w7.drewN 1) x1 = wa at *
    have HBA := Lib.hid hba; clear hba
    unfold wpAct
    go_wp2_with (go_at_call 15; refine (reachedP (.agg A) d wa ⟨A, rfl, (HI7.out.up HBA.out).2⟩).mono ?_; rintro e wb ⟨rb, rfl, hrb, hbb⟩; have HRB := Lib.hid hrb; have HBB := Lib.hid (HBA.out.trans (hbb.mono HBA.out.size)); clear hrb hbb)
    refine ⟨ex_ext HBB.out, ?_⟩
    unfold wpAct
    go_wp2_with (go_at_call 16; refine (reachedR (.agg A) d wb ⟨A, rfl, (HI7.out.up HBB.out).2⟩).mono ?_; rintro e wc ⟨rc, rfl, hrc, hbc⟩; have HRC := Lib.hid hrc; have HRB2 := Lib.hid (HRB.out.up hbc); have HBC := Lib.hid (HBB.out.trans (hbc.mono HBB.out.size)); clear hrc hbc)
    refine ⟨ex_ext HBC.out, ?_⟩
    unfold wpAct
    go_wp2_with (go_at_call 14; refine (ints_same rb rc (reachI d) wc HRB2.out HRC.out).mono ?_; rintro e w' ⟨rfl, x2, rfl⟩)
    refine ⟨ex_ext (b_ext' HBC.out x2), ?_⟩
    unfold wpAct
    have hbd : Below w7.heap.size w7 (ext wc x2) := b_ext' HBC.out x2
    generalize ext wc x2 = wd at *
    have HBD := Lib.hid hbd; clear hbd
    (unfold wpPhases; simp only [pick, List.map_cons, List.map_nil, List.getD_cons_zero, List.getD_cons_succ])
    have hne2 : (((alikeI d).length : Int) != ((alikeI d).length : Int)) = false := by simp
    repeat (go_big_quiet_step (fail))
    refine wpQuiet_nil ?_
    unfold wpAct
    unfold wpPhases
    intro hz; clear hz
    go_wp2
    have hal : (alikeI d).length ≤ 140737488351232 := HDX.out.hsml
    have hixx := index_any (P := Try.prog) 23 24 Try.underlying23 (by kernel_rfl) HDX.out
    have hixy := index_any (P := Try.prog) 23 24 Try.underlying23 (by kernel_rfl) HDY.out
    clear hne hne2
    go_loopg [9] ((alikeI d).length + 1) (fun gk i wr => ∃ k : Nat, k ≤ (alikeI d).length ∧ i = .int .i64 k ∧ Below w7.heap.size w7 wr ∧ gk = (alikeI d).length + 1 - k)
    case atStart => exact ⟨0, Nat.zero_le _, rfl, HBD.out, rfl⟩
    case round =>
      clear HBD HBC HBB HRB HRC HRB2 HBA
      obtain ⟨k, hk, rfl, hbel, rfl⟩ := hrel
      have hsz := hbel.size
      have HB := Lib.hid hbel; clear hbel
      by_cases hlt : k < (alikeI d).length
      · obtain ⟨oi, ci, bi, fi, hck, -, -, hii⟩ := HRX.out k hlt
        obtain ⟨oj, cj, bj, fj, hcj, -, -, hij⟩ := HRY.out k hlt
        have hbx := HDX.out.hblk (by omega)
        have hby := HDY.out.hblk (by omega)
        have hw1 := (HB.out.cell (p := ⟨bx, fx + k, none⟩) hbx).trans hck
        have hw2 := (HB.out.cell (p := ⟨by_, fy + k, none⟩) hby).trans hcj
        have HIE : Hid (∀ x, Calls Try.prog 14 #[.slice oi ((alikeI d).getD k []).length ci, .slice oj ((alikeI d).getD k []).length cj] (ext wr x) fun e w' => e = .returned (.bool true) ∧ ∃ y, w' = ext (ext wr x) y) := Lib.hid (fun x => ints_same _ _ _ _ (hii.up (HB.out.trans ((ext_below wr x).mono hsz))) (hij.up (HB.out.trans ((ext_below wr x).mono hsz))))
        have hs1 : bx < wr.heap.size := by omega
        have hs2 : by_ < wr.heap.size := by omega
        clear hck hcj hii hij
        generalize (alikeI d).getD k [] = row at *
        go_wp2
        refine wp_region_ext (by kernel_rfl) (by kernel_rfl) ?_
        repeat (go_big_quiet_step ((go_at_call 14; exact calls_in (HIE.out _))))
        refine wpQuiet_nil ?_
        rintro w' ⟨x2, rfl⟩
        go_wp2
        go_roundg ((alikeI d).length + 1 - (k + 1))
        case measure => omega
        case rel => exact ⟨k + 1, by omega, by go_num, HB.out.trans ((ext_below wr x2).mono hsz), rfl⟩
      · go_wp2_with (go_at_call 8; refine (known _).mono ?_; rintro e w' ⟨rfl, x2, rfl⟩)
        go_ret
        exact ⟨rfl, ex_ext ((HW7.out.trans (HB.out.mono HW7.out.size)).trans ((ext_below _ _).mono (by have := HW7.out.size; omega)))⟩
end Go.Cm
