/- Texts of this claim, joined: walks of small functions and plain facts about them. Conditions: as each says. -/
import Derived.Test.YtmophmeiemfikaaQF
import Derived.Test.YtmophmeiemfikaaRows
import Derived.WalkKit
import Derived.WalkSpells
import Derived.WalkLawsBesides
import Derived.Deep.QuietTactic
import Derived.BigQuiet
import Derived.Lib.Hide
import Derived.Laws.Small
import Derived.Deep.LoopGhost
import Derived.Laws.BitsLemmas
import Derived.Deep.DeepCutAuto
import Derived.Deep.CutBlock
import Derived.Deep.CutRange
import Derived.Laws.IdiomStrings
/- The walk of the program's text: an op. Conditions: the text is there. -/
namespace Go.Cm
open Go.RowKit Go.Proofs

/-- the text that is made, in block g, its bytes a row from block B on -/
structure TxV (w : World) (B g : Nat) (b : Byts) (vb : Value) : Prop where
  box : Own w g 78 (.slice (some ⟨g, 0, none⟩) 1 1) [vb]
  own : Own w B 5 vb (bytesV b)
  ne : vb.ownBlock ≠ some g
  ge : B ≤ g
def Tx (w : World) (B g : Nat) (b : Byts) : Prop := ∃ vb, TxV w B g b vb
theorem TxV.up {w w' : World} {B g : Nat} {b : Byts} {vb : Value} (h : TxV w B g b vb) (hb : Below w.heap.size w w') : TxV w' B g b vb := ⟨h.box.up hb, h.own.up hb, h.ne, h.ge⟩
theorem Tx.up {w w' : World} {B g : Nat} {b : Byts} (h : Tx w B g b) (hb : Below w.heap.size w w') : Tx w' B g b := by obtain ⟨vb, h⟩ := h; exact ⟨vb, h.up hb⟩
theorem bytesV_getD (l : Byts) (i : Nat) (h : i < l.length) : (bytesV l).getD i undef = .int .u8 ((l.getD i 0).toNat : Nat) := by
  simp [bytesV, List.getD, h]
theorem byte_u8 (l : Nat) (h : l < 256) : bytesV [UInt8.ofNat l] = [.int .u8 (l : Nat)] := by
  simp only [bytesV, List.map_cons, List.map_nil]
  congr 2
  have : (UInt8.ofNat l).toNat = l := by simp [Nat.mod_eq_of_lt h]
  rw [this]
/-- a byte is laid behind the text -/
theorem TxV.push {w0 w w5 : World} {B B0 g : Nat} {b : Byts} {vb v' : Value} {l : Nat} (hl : l < 256) (h : TxV w B g b vb) (hb : Below B w0 w) (hown : Own w5 B 5 v' (bytesV b ++ [.int .u8 (l : Nat)])) (hg : w.grownBy w5 vb.ownBlock) (hk : ∀ k, v'.ownBlock = some k → vb.ownBlock = some k ∨ w.heap.size ≤ k) (hB : B ≤ w.heap.size) (_hB0 : B0 = B) :
    TxV (w5.setCell ⟨g, 0, none⟩ v') B g (b ++ [UInt8.ofNat l]) v' ∧ Below B w0 (w5.setCell ⟨g, 0, none⟩ v') := by
  have hbx := h.box.keep hg (.inr (fun e => h.ne e.symm))
  have hst := hbx.store 0 v'
  have hne : v'.ownBlock ≠ some g := fun e => by
    rcases hk g e with h1 | h1
    · exact h.ne h1
    · have := h.box.blk.2; omega
  refine ⟨⟨by simpa using hst.1, ?_, hne, h.ge⟩, ?_⟩
  · rw [bytesV_append, byte_u8 l hl]
    exact hown.keep hst.2 (.inr hne)
  · exact (below_grown hb hB h.own hg).grown hst.2 (Nat.le_trans hB hg.size) (fun k e => by cases e; exact h.ge)
set_option maxRecDepth 100000 in
set_option maxHeartbeats 4000000 in
theorem doP {w : World} {B g : Nat} {b : Byts} (h : Tx w B g b) (hlen : b.length ≤ 100000000) (l : Nat) (n d : Int) (hl : l < 256) :
    Calls Try.prog 64 #[.pointer (some ⟨g, 0, none⟩), .agg #[.int .u8 l, .int .i64 n, .int .i64 d]] w fun e w' => e = .returned (.int .i64 ((opN 10 b ⟨l, n, d⟩).1 : Nat)) ∧ Tx w' B g (opN 10 b ⟨l, n, d⟩).2 ∧ Below B w w' := by
  obtain ⟨vb, hx⟩ := h
  have hBw : B ≤ w.heap.size := by have := hx.ge; have := hx.box.blk.2; omega
  obtain ⟨w1, hw1⟩ : ∃ w1, w1 = w.alloc (.cells #[.int .u8 (l : Nat), .int .i64 n, .int .i64 d] 75) := ⟨_, rfl⟩
  have hb1 : Below w.heap.size w w1 := by rw [hw1]; exact below_alloc _ _
  have hop := op_box w l n d
  rw [← hw1] at hop
  have HX := Lib.hid (hx.up hb1)
  have HBL := Lib.hid (hb1.mono hBw)
  have HOP := Lib.hid hop
  have HLEN := Lib.hid hlen
  have HLB := Lib.hid hlen
  have hlen2 := hlen
  have hgw := hx.box.blk.2
  have HW1 := Lib.hid hw1
  have c0 : w1.cell? ⟨g, 0, none⟩ = some vb := HX.out.box.cell (by simp)
  have f0 := HX.out.box.free 0
  have hg := HX.out.box.blk.2
  have p0 : w1.cell? ⟨w.heap.size, 0, none⟩ = some (.int .u8 (l : Nat)) := hop.cell (by simp [opV])
  have p1 : w1.cell? ⟨w.heap.size, 1, none⟩ = some (.int .i64 n) := hop.cell (by simp [opV])
  have p2 : w1.cell? ⟨w.heap.size, 2, none⟩ = some (.int .i64 d) := hop.cell (by simp [opV])
  have hp := hop.blk.2
  obtain ⟨ov, cv, gv, hvb, hdv, hgv, hcv, -⟩ := HX.out.own.cases
  rw [bytesV_length] at hvb hdv hgv hcv
  obtain ⟨y, hy⟩ : ∃ y, y = opN 10 b ⟨l, n, d⟩ := ⟨_, rfl⟩
  rw [← hy]
  have HY := Lib.hid hy
  unfold opN at HY
  simp only at HY
  obtain ⟨row, hrow⟩ : ∃ row, row = vb.ownBlock := ⟨_, rfl⟩
  have HROW := Lib.hid hrow
  have hne1 : some g ≠ row := fun e => HX.out.ne (by rw [← hrow, ← e])
  have hne2 : some w.heap.size ≠ row := fun e => by have := (hx.own.lt _ (by rw [← hrow, ← e])).2; omega
  clear hy hx hw1 hb1 hop hlen hrow
  by_cases hn0 : n = 0
  · rw [if_pos hn0] at HY
    subst hn0
    clear hvb hdv hgv hcv
    go_enter Try.func64, Try.ntmps64
    go_upto_region 2 with fail
    rw [← HW1.out]
    have hBg : B ≤ w1.heap.size := by have := HX.out.ge; have := HX.out.box.blk.2; omega
    refine wp_region_tail (fun w' => ∃ x, w' = chg w1 row x) [0,1,2,3,4,5,6] [7,8,9,10] [11] (by kernel_rfl) (by kernel_rfl) (ex_chg (grown_drew _ _)) ?_
    simp only [pick, List.map_cons, List.map_nil, List.getD_cons_zero, List.getD_cons_succ]
    repeat (go_big_quiet_step (fail))
    refine wpQuiet_nil ?_
    (unfold wpAct; go_wp2; refine ⟨ex_chg (grown_below (by repeat (first | exact Below.refl _ _ | assumption | refine b_drewN ?_ _ | refine Below.drew ?_ | refine b_ext' ?_ _ | refine b_alloc' ?_ _)) _), ?_⟩)
    unfold wpAct
    have HXT : Hid (Sl (w1.alloc (.cells #[.int .u8 (l : Nat)] 5)).drew (.slice (some ⟨w1.heap.size, 0, none⟩) 1 1) [.int .u8 (l : Nat)]) := Lib.hid (by
      have h1 := (sl_lit w1 #[.int .u8 (l : Nat)] 5 (by simp)).up (below_drewN _ 1)
      rw [← World.drew_is_drewN] at h1
      simpa using h1)
    have hlW : Below w1.heap.size w1 (w1.alloc (.cells #[.int .u8 (l : Nat)] 5)).drew := (by repeat (first | exact Below.refl _ _ | assumption | refine b_drewN ?_ _ | refine Below.drew ?_ | refine b_ext' ?_ _ | refine b_alloc' ?_ _))
    have HT1 := Lib.hid (HX.out.own.up hlW)
    have HT3 : Hid ((bytesV b).length + 1 ≤ 4294967296) := Lib.hid (by rw [bytesV_length]; have := HLEN.out; omega)
    have HT2 : Hid (∀ u ∈ [Value.int .u8 (l : Nat)], u.oneCell' = true) := Lib.hid (by intro u hu; simp at hu; subst hu; rfl)
    have HT4 : Hid (B ≤ (w1.alloc (.cells #[.int .u8 (l : Nat)] 5)).drew.heap.size) := Lib.hid (Nat.le_trans hBg hlW.size)
    go_wp2_with (at_builtin; refine wpList_app2 rfl (.tmp 13) (.tmp 16) 43 rfl B 5 (.int .u8 0) 1 Try.underlying43 (by kernel_rfl) rfl (by decide) vb (bytesV b) rfl HT1.out (.slice (some ⟨w1.heap.size, 0, none⟩) 1 1) [.int .u8 (l : Nat)] rfl HXT.out HT2.out HT3.out HT4.out ?_; intro v' w5 hown1 hg1 hk1 hc1; rw [← HROW.out] at hg1 hk1 hc1; have HC5 := Lib.hid hc1; clear hc1; have HO1 := Lib.hid hown1; have HG1 := Lib.hid hg1; have HK1 := Lib.hid hk1; clear hown1 hg1 hk1)
    refine ⟨ex_chg (grown_trans (grown_below (by repeat (first | exact Below.refl _ _ | assumption | refine b_drewN ?_ _ | refine Below.drew ?_ | refine b_ext' ?_ _ | refine b_alloc' ?_ _)) _) HG1.out), ?_⟩
    (unfold wpAct; go_wp2; refine ⟨ex_chg (grown_trans (grown_below (by repeat (first | exact Below.refl _ _ | assumption | refine b_drewN ?_ _ | refine Below.drew ?_ | refine b_ext' ?_ _ | refine b_alloc' ?_ _)) _) HG1.out), ?_⟩)
    (unfold wpAct; go_wp2; refine ⟨ex_chg (grown_trans (grown_below (by repeat (first | exact Below.refl _ _ | assumption | refine b_drewN ?_ _ | refine Below.drew ?_ | refine b_ext' ?_ _ | refine b_alloc' ?_ _)) _) HG1.out), ?_⟩)
    unfold wpAct
    have HXW := Lib.hid (HX.out.up hlW)
    have HPU := Lib.hid (TxV.push (B0 := B) hl HXW.out (HBL.out.trans (hlW.mono hBg)) HO1.out (by have h := HG1.out; rw [HROW.out] at h; exact h) (by have h := HK1.out; rw [HROW.out] at h; exact h) HT4.out rfl)
    have hb5 := HXW.out.box.keep HG1.out (.inr (by rw [HROW.out]; exact fun e => HXW.out.ne e.symm))
    have f0 := hb5.free 0
    have c0 : w5.cell? ⟨g, 0, none⟩ = some vb := hb5.cell (by simp)
    have hg := hb5.blk.2
    obtain ⟨o5, k5, g5, hv5, -⟩ := HO1.out.cases
    subst hv5
    generalize (bytesV b ++ [Value.int .u8 (l : Nat)]).length = l5 at *
    clear HC5 hb5 HXW HO1 HG1 HK1 HT1 HT2 HT3 HT4 HXT hlW HX
    unfold wpAct
    go_wp2
    refine ⟨trivial, ?_⟩
    unfold wpAct
    go_wp2
    go_ret
    rw [HY.out]
    exact ⟨rfl, ⟨_, HPU.out.1⟩, HPU.out.2⟩
  · rw [if_neg hn0] at HY
    subst hvb
    have hn0i : (n == 0) = false := by simpa using hn0
    have hm := hdv.len
    by_cases hbad : n < 3 ∨ 258 < n ∨ d < 1 ∨ 32768 < d
    · have hor : decide (n < 3) = true ∨ (decide (n < 3) = false ∧ decide (n > 258) = true) ∨ (decide (n < 3) = false ∧ decide (n > 258) = false ∧ decide (d < 1) = true) ∨ (decide (n < 3) = false ∧ decide (n > 258) = false ∧ decide (d < 1) = false ∧ decide (d > 32768) = true) := by
        simp only [decide_eq_true_eq, decide_eq_false_iff_not]; omega
      rw [if_pos hbad] at HY
      clear hbad hdv hgv hcv hne1 hne2
      rcases hor with h1 | ⟨h1, h2⟩ | ⟨h1, h2, h3⟩ | ⟨h1, h2, h3, h4⟩ <;>
      · go_enter Try.func64, Try.ntmps64
        go_upto_region 4 with fail
        rw [← HW1.out]
        go_wp2
        go_ret
        rw [HY.out]
        exact ⟨rfl, ⟨_, HX.out⟩, HBL.out⟩
    · rw [if_neg hbad] at HY
      have h1 : decide (n < 3) = false := by rw [decide_eq_false_iff_not]; omega
      have h2 : decide (n > 258) = false := by rw [decide_eq_false_iff_not]; omega
      have h3 : decide (d < 1) = false := by rw [decide_eq_false_iff_not]; omega
      have h4 : decide (d > 32768) = false := by rw [decide_eq_false_iff_not]; omega
      obtain ⟨m, rfl⟩ : ∃ m : Nat, n = m := ⟨n.toNat, by omega⟩
      obtain ⟨e, rfl⟩ : ∃ e : Nat, d = e := ⟨d.toNat, by omega⟩
      have hm3 : 3 ≤ m ∧ m ≤ 258 := by omega
      have he1 : 1 ≤ e ∧ e ≤ 32768 := by omega
      clear hbad
      by_cases hfar : (b.length : Int) < e
      · rw [if_pos hfar] at HY
        have h5 : decide ((e : Int) > (b.length : Int)) = true := by rw [decide_eq_true_iff]; omega
        have h6 : b.length < e := by omega
        clear hdv hgv hcv hne1 hne2
        generalize b.length = L at *
        go_enter Try.func64, Try.ntmps64
        go_upto_region 6 with fail
        rw [← HW1.out]
        go_quiet (fail)
        go_wp2
        go_ret
        rw [HY.out]
        exact ⟨rfl, ⟨_, HX.out.up (below_drewN _ _)⟩, HBL.out.trans ((below_drewN _ _).mono (Nat.le_trans hBw (by have := HBL.out.size; exact this)))⟩
      · rw [if_neg hfar] at HY
        simp only [Int.toNat_natCast] at HY
        have h6 : e ≤ b.length := by omega
        have h5 : decide (b.length < e) = false := by rw [decide_eq_false_iff_not]; omega
        have hqg : g < w.heap.size := hgw
        have HOV : Hid ((Value.slice ov b.length cv).ownBlock ≠ some w.heap.size) := Lib.hid (by intro e2; exact hne2 (by rw [HROW.out, e2]))
        have HLQ : Hid (b.length = b.length) := Lib.hid rfl
        have HCP := Lib.hid (fun k => copyN_len b e k)
        obtain ⟨L, hL⟩ : ∃ L, L = b.length := ⟨_, rfl⟩
        rw [← hL] at h5 c0 h6 HCP hlen2
        have HX0 := Lib.hid HX.out
        clear hdv hgv hcv hne1 hne2 HROW hm hL HLQ hfar
        go_enter Try.func64, Try.ntmps64
        go_upto_region 6 with fail
        rw [← HW1.out]
        go_quiet (fail)
        have HXD := Lib.hid (HX.out.up (below_drewN w1 nq))
        have HBD : Hid (Below B w (w1.drewN nq)) := Lib.hid (HBL.out.trans ((below_drewN _ _).mono (Nat.le_trans hBw HBL.out.size)))
        have HOD := Lib.hid (HOP.out.up (below_drewN w1 nq))
        clear HX HBL HOP HX0
        generalize w1.drewN nq = w2 at *
        have p1 : w2.cell? ⟨w.heap.size, 1, none⟩ = some (.int .i64 m) := HOD.out.cell (by simp [opV])
        have hp2 := HOD.out.blk.2
        go_wp2
        go_loopg [50] m (fun gk iv wr => ∃ (k : Nat) (bk : Byts) (vb : Value), iv = .int .i64 k ∧ k ≤ m ∧ Hid (bk = copyN b e k) ∧ TxV wr B g bk vb ∧ Below B w wr ∧ Own wr w.heap.size 75 (.slice (some ⟨w.heap.size, 0, none⟩) 3 3) (opV ⟨l, m, e⟩) ∧ vb.ownBlock ≠ some w.heap.size ∧ gk = m - k)
        case atStart => exact ⟨0, b, _, rfl, Nat.zero_le _, Lib.hid rfl, HXD.out, HBD.out, HOD.out, HOV.out, rfl⟩
        case round =>
          clear HXD HBD HOD HOV
          obtain ⟨k, bk, vb, rfl, hk, HBK, hx, hbl, hop, hvq, rfl⟩ := hrel
          have HX := Lib.hid hx
          have HBL := Lib.hid hbl
          have HOP := Lib.hid hop
          by_cases hlt : k < m
          · have hlti : decide ((k : Int) < (m : Int)) = true := by rw [decide_eq_true_iff]; omega
            have hbl2 : bk.length = L + k := by rw [HBK.out, HCP.out]
            have HBN : Hid (copyN b e (k + 1) = bk ++ [bk.getD (L + k - e) 0]) := Lib.hid (by
              show copyN b e k ++ [(copyN b e k).getD ((copyN b e k).length - e) 0] = _
              rw [← HBK.out, hbl2])
            obtain ⟨ov, cv, gv, hvb, hdv, hgv, hcv, -⟩ := hx.own.cases
            rw [bytesV_length] at hvb hdv hgv hcv
            rw [hbl2] at hvb hdv hgv hcv
            have hix := index_any (P := Try.prog) 43 5 Try.underlying43 (by kernel_rfl) hdv
            have hcell := hcv (L + k - e) (by omega)
            rw [bytesV_getD _ _ (by rw [hbl2]; omega)] at hcell
            have hby : (bk.getD (L + k - e) 0).toNat < 256 := UInt8.toNat_lt _
            have HOF : Hid (UInt8.ofNat (bk.getD (L + k - e) 0).toNat = bk.getD (L + k - e) 0) := Lib.hid (by simp)
            generalize hxx : (bk.getD (L + k - e) 0).toNat = x at *
            have hsub : ((L + k : Nat) : Int) - (e : Int) = ((L + k - e : Nat) : Int) := by omega
            have hix2 := fun W => hix W .i64 ((L + k - e : Nat) : Int) (by omega) (by omega)
            simp only [Int.toNat_natCast, Nat.zero_add] at hix2
            rw [← hsub] at hix2
            have c0 : wr.cell? ⟨g, 0, none⟩ = some vb := hx.box.cell (by simp)
            have f0 := hx.box.free 0
            have hg := hx.box.blk.2
            have p2 : wr.cell? ⟨w.heap.size, 2, none⟩ = some (.int .i64 e) := hop.cell (by simp [opV])
            have hp := hop.blk.2
            have HLEN : Hid (bk.length ≤ 100001000) := Lib.hid (by rw [hbl2]; have := HLB.out; omega)
            have hgvb := hdv.hblk (by omega)
            have hgvr := hgv (by omega)
            have hrow : some gv = vb.ownBlock := hgvr.1.symm
            have hgn : g ≠ gv := fun e => hx.ne (by rw [← hrow, ← e])
            have hqn : w.heap.size ≠ gv := fun e => hvq (by rw [← hrow, ← e])
            have hne2 : some w.heap.size ≠ some gv := fun e => hqn (Option.some.inj e)
            have HROW := Lib.hid hrow
            have HVQ := Lib.hid hvq
            obtain ⟨M, hM⟩ : ∃ M, M = L + k := ⟨_, rfl⟩
            have HMB : Hid (bk.length = M) := Lib.hid (by rw [hbl2, hM])
            have hlt3 : M - e < M := by omega
            have hM2 : M ≤ 100001000 := by omega
            rw [← hM] at hvb hsub hix2 hcell
            subst hvb
            clear hx hbl hop hdv hgv hcv hix hxx hbl2 hrow hvq hM hsub hgvr
            go_upto_region 10 with fail
            have hBg : B ≤ wr.heap.size := by have := HX.out.ge; have := HX.out.box.blk.2; omega
            refine wp_region_tail (fun w' => ∃ x, w' = kept wr gv M x) [0,1,2,3,4,5,6,7,8,9,10,11,12,13,14,15,16,17,18] [19,20,21,22] [23] (by kernel_rfl) (by kernel_rfl) (kept_below (below_drewN _ 1) hgvb) ?_
            simp only [pick, List.map_cons, List.map_nil, List.getD_cons_zero, List.getD_cons_succ]
            repeat (go_big_quiet_step (fail))
            refine wpQuiet_nil ?_
            (unfold wpAct; go_wp2; refine ⟨kept_below (by repeat (first | exact Below.refl _ _ | assumption | refine b_drewN ?_ _ | refine Below.drew ?_ | refine b_ext' ?_ _ | refine b_alloc' ?_ _)) hgvb, ?_⟩)
            unfold wpAct
            have HXT : Hid (Sl (wr.alloc (.cells #[.int .u8 (x : Nat)] 5)).drew (.slice (some ⟨wr.heap.size, 0, none⟩) 1 1) [.int .u8 (x : Nat)]) := Lib.hid (by
              have h1 := (sl_lit wr #[.int .u8 (x : Nat)] 5 (by simp)).up (below_drewN _ 1)
              rw [← World.drew_is_drewN] at h1
              simpa using h1)
            have hlW : Below wr.heap.size wr (wr.alloc (.cells #[.int .u8 (x : Nat)] 5)).drew := (by repeat (first | exact Below.refl _ _ | assumption | refine b_drewN ?_ _ | refine Below.drew ?_ | refine b_ext' ?_ _ | refine b_alloc' ?_ _))
            have HT1 := Lib.hid (HX.out.own.up hlW)
            have HT3 : Hid ((bytesV bk).length + 1 ≤ 4294967296) := Lib.hid (by rw [bytesV_length]; have := HLEN.out; omega)
            have HT2 : Hid (∀ u ∈ [Value.int .u8 (x : Nat)], u.oneCell' = true) := Lib.hid (by intro u hu; simp at hu; subst hu; rfl)
            have HT4 : Hid (B ≤ (wr.alloc (.cells #[.int .u8 (x : Nat)] 5)).drew.heap.size) := Lib.hid (Nat.le_trans hBg hlW.size)
            go_wp2_with (at_builtin; refine wpList_app2 rfl (.tmp 56) (.tmp 71) 43 rfl B 5 (.int .u8 0) 1 Try.underlying43 (by kernel_rfl) rfl (by decide) (.slice ov M cv) (bytesV bk) rfl HT1.out (.slice (some ⟨wr.heap.size, 0, none⟩) 1 1) [.int .u8 (x : Nat)] rfl HXT.out HT2.out HT3.out HT4.out ?_; intro v' w5 hown1 hg1 hk1 hc1; rw [← HROW.out] at hg1 hk1 hc1; have HC5 := Lib.hid hc1; clear hc1; have HO1 := Lib.hid hown1; have HG1 := Lib.hid hg1; have HK1 := Lib.hid hk1; clear hown1 hg1 hk1)
            refine ⟨ex_kept (grown_trans (grown_below (by repeat (first | exact Below.refl _ _ | assumption | refine b_drewN ?_ _ | refine Below.drew ?_ | refine b_ext' ?_ _ | refine b_alloc' ?_ _)) _) HG1.out) (fun o ho => by rw [HC5.out gv o rfl (by rw [bytesV_length]; have := HMB.out; omega)]; exact hlW.cell (p := ⟨gv, o, none⟩) hgvb), ?_⟩
            (unfold wpAct; go_wp2; refine ⟨ex_kept (grown_trans (grown_below (by repeat (first | exact Below.refl _ _ | assumption | refine b_drewN ?_ _ | refine Below.drew ?_ | refine b_ext' ?_ _ | refine b_alloc' ?_ _)) _) HG1.out) (fun o ho => by rw [HC5.out gv o rfl (by rw [bytesV_length]; have := HMB.out; omega)]; exact hlW.cell (p := ⟨gv, o, none⟩) hgvb), ?_⟩)
            (unfold wpAct; go_wp2; refine ⟨ex_kept (grown_trans (grown_below (by repeat (first | exact Below.refl _ _ | assumption | refine b_drewN ?_ _ | refine Below.drew ?_ | refine b_ext' ?_ _ | refine b_alloc' ?_ _)) _) HG1.out) (fun o ho => by rw [HC5.out gv o rfl (by rw [bytesV_length]; have := HMB.out; omega)]; exact hlW.cell (p := ⟨gv, o, none⟩) hgvb), ?_⟩)
            unfold wpAct
            have HXW := Lib.hid (HX.out.up hlW)
            have HPU := Lib.hid (TxV.push (B0 := B) hby HXW.out (HBL.out.trans (hlW.mono hBg)) HO1.out (by have h := HG1.out; rw [HROW.out] at h; exact h) (by have h := HK1.out; rw [HROW.out] at h; exact h) HT4.out rfl)
            have hb5 := HXW.out.box.keep HG1.out (.inr (by rw [HROW.out]; exact fun e => HXW.out.ne e.symm))
            have HOPU : Hid (Own (w5.setCell ⟨g, 0, none⟩ v') w.heap.size 75 (.slice (some ⟨w.heap.size, 0, none⟩) 3 3) (opV ⟨l, m, e⟩)) := Lib.hid (((HOP.out.up hlW).keep HG1.out (.inr (fun e => hne2 e))).keep (hb5.store 0 v').2 (.inr (by intro e; have e2 : some w.heap.size = some g := e; injection e2 with e2; omega)))
            have HNEQ : Hid (v'.ownBlock ≠ some w.heap.size) := Lib.hid (fun e => by
              rcases HK1.out _ e with h | h
              · exact hne2 h.symm
              · have := hlW.size; omega)
            have f0 := hb5.free 0
            have c0 : w5.cell? ⟨g, 0, none⟩ = some (.slice ov M cv) := hb5.cell (by simp)
            have hg := hb5.blk.2
            obtain ⟨o5, k5, g5, hv5, -⟩ := HO1.out.cases
            subst hv5
            generalize (bytesV bk ++ [Value.int .u8 (x : Nat)]).length = l5 at *
            clear HC5 hb5 HXW HO1 HG1 HK1 HT1 HT2 HT3 HT4 HXT hlW HX
            unfold wpAct
            go_wp2
            refine ⟨trivial, ?_⟩
            unfold wpAct
            go_wp2
            go_roundg (m - (k + 1))
            case measure => omega
            case rel => exact ⟨k + 1, bk ++ [UInt8.ofNat x], _, by go_num, by omega, Lib.hid (by rw [HBN.out, HOF.out]), HPU.out.1, HPU.out.2, HOPU.out, HNEQ.out, rfl⟩
          · obtain rfl : k = m := by omega
            clear hlt
            go_wp2
            go_ret
            rw [HY.out, ← HBK.out]
            exact ⟨rfl, ⟨_, HX.out⟩, HBL.out⟩
end Go.Cm

/- The walk of the program's text: a part. Conditions: the text is there, the ops read as a list. -/
namespace Go.Cm
open Go.RowKit Go.Proofs

theorem ops_open {w : World} {v : Value} {l : List OpN} (h : SlK 3 w v (l.map opV)) :
    ∃ oa cap b off, v = .slice oa l.length cap ∧ Hd w oa l.length cap b off ∧ ∀ i (hi : i < l.length), ∀ c, c < 3 → w.cell? ⟨b, off + i * 3 + c, none⟩ = some ((opV (l[i]'hi)).getD c undef) := by
  obtain ⟨oa, cap, b, off, rfl, hd, hc⟩ := h
  rw [List.length_map] at hd hc ⊢
  refine ⟨oa, cap, b, off, rfl, hd, fun i hi c hcl => ?_⟩
  have := hc i hi c hcl
  rw [this]
  simp [List.getD, hi]
theorem opsN_take {eD : Nat} {b bk : Byts} {l : List OpN} {k : Nat} (hk : k < l.length) (h : opsN eD b (l.take k) = (0, bk)) :
    opsN eD b (l.take (k + 1)) = if (opN eD bk l[k]).1 ≠ 0 then opN eD bk l[k] else if 16777216 < (opN eD bk l[k]).2.length then (3, (opN eD bk l[k]).2) else opN eD bk l[k] := by
  rw [List.take_succ_eq_append_getElem hk, opsN_snoc, h]
  rfl
/-- a text is laid behind the text -/
theorem TxV.pushS {w0 w w5 : World} {B g : Nat} {b : Byts} {vb v' : Value} {s : ByteArray} (h : TxV w B g b vb) (hb : Below B w0 w) (hown : Own w5 B 5 v' (bytesV b ++ bytesV s.data.toList)) (hg : w.grownBy w5 vb.ownBlock) (hk : ∀ k, v'.ownBlock = some k → vb.ownBlock = some k ∨ w.heap.size ≤ k) (hB : B ≤ w.heap.size) :
    TxV (w5.setCell ⟨g, 0, none⟩ v') B g (b ++ s.data.toList) v' ∧ Below B w0 (w5.setCell ⟨g, 0, none⟩ v') := by
  have hbx := h.box.keep hg (.inr (fun e => h.ne e.symm))
  have hst := hbx.store 0 v'
  have hne : v'.ownBlock ≠ some g := fun e => by
    rcases hk g e with h1 | h1
    · exact h.ne h1
    · have := h.box.blk.2; omega
  refine ⟨⟨by simpa using hst.1, ?_, hne, h.ge⟩, ?_⟩
  · rw [bytesV_append]
    exact hown.keep hst.2 (.inr hne)
  · exact (below_grown hb hB h.own hg).grown hst.2 (Nat.le_trans hB hg.size) (fun k e => by cases e; exact h.ge)
theorem TxV.len {w : World} {B g : Nat} {b : Byts} {vb : Value} (h : TxV w B g b vb) : ∃ oa cap q, vb = .slice oa b.length cap ∧ w.cell? ⟨g, 0, none⟩ = some (.slice oa b.length cap) ∧ Hd w oa b.length cap q 0 := by
  obtain ⟨oa, cap, q, hv, hd, -⟩ := h.own.cases
  rw [bytesV_length] at hv hd
  exact ⟨oa, cap, q, hv, by rw [h.box.cell (by simp), ← hv]; rfl, hd⟩
set_option maxRecDepth 100000 in
set_option maxHeartbeats 4000000 in
theorem partP {w : World} {B g : Nat} {b : Byts} (h : Tx w B g b) (hlen : b.length ≤ 16777216) (p : PtN) (vo vl vd : Value) (hvo : ∀ W, Below B w W → SlK 3 W vo (p.ops.map opV)) (hlit : ∀ o ∈ p.ops, o.lit < 256) (hts : p.text.size ≤ 140737488351232)
    (_h1 : vl.oneCell' = true) (_h2 : vd.oneCell' = true) :
    Calls Try.prog 40 #[.pointer (some ⟨g, 0, none⟩), .agg #[.int .i64 p.kind, .string p.text, vo, vl, vd]] w fun e w' => e = .returned (.int .i64 ((pkPart 10 b p).1 : Nat)) ∧ Tx w' B g (pkPart 10 b p).2 ∧ Below B w w' := by
  obtain ⟨kd, tx, ops, lits, dists⟩ := p
  simp only at hvo hlit hts ⊢
  obtain ⟨y, hy⟩ : ∃ y, y = pkPart 10 b ⟨kd, tx, ops, lits, dists⟩ := ⟨_, rfl⟩
  rw [← hy]
  have HY := Lib.hid hy
  unfold pkPart at HY
  simp only at HY
  clear hy
  have HVO := Lib.hid hvo
  obtain ⟨oo, oc, ob, off, hvo2, hdo, -⟩ := ops_open (hvo w (Below.refl _ _))
  subst hvo2
  obtain ⟨vb, hx⟩ := h
  have hBw : B ≤ w.heap.size := by have := hx.ge; have := hx.box.blk.2; omega
  have hgw := hx.box.blk.2
  have HX0 := Lib.hid hx
  have HA := Lib.hid (below_alloc w (.cells #[.int .i64 kd, .string tx, .slice oo ops.length oc, vl, vd] 41))
  have HLEN := Lib.hid hlen
  obtain ⟨w1, hw1⟩ : ∃ w1, w1 = w.alloc (.cells #[.int .i64 kd, .string tx, .slice oo ops.length oc, vl, vd] 41) := ⟨_, rfl⟩
  have HW1 := Lib.hid hw1
  have hpt := own_lit w w.heap.size #[.int .i64 kd, .string tx, .slice oo ops.length oc, vl, vd] 41 (by simp) (Nat.le_refl _)
  rw [← hw1] at hpt HA
  have HPT := Lib.hid hpt
  have HX := Lib.hid (hx.up HA.out)
  have HBL := Lib.hid (HA.out.mono hBw)
  have c0 : w1.cell? ⟨g, 0, none⟩ = some vb := HX.out.box.cell (by simp)
  have f0 := HX.out.box.free 0
  have hg := HX.out.box.blk.2
  have p0 : w1.cell? ⟨w.heap.size, 0, none⟩ = some (.int .i64 kd) := hpt.cell (by simp)
  have p1 : w1.cell? ⟨w.heap.size, 1, none⟩ = some (.string tx) := hpt.cell (by simp)
  have p2 : w1.cell? ⟨w.heap.size, 2, none⟩ = some (.slice oo ops.length oc) := hpt.cell (by simp)
  have hp := hpt.blk.2
  have hml := hdo.len
  clear hx hpt hvo hlen hw1 hdo
  by_cases k0 : kd = 0
  · rw [if_pos k0] at HY
    subst k0
    by_cases hbig : 65535 < tx.size
    · rw [if_pos hbig] at HY
      have hbi : (tx.size : Int) > 65535 := by omega
      clear hbig
      go_enter Try.func40, Try.ntmps40
      go_upto_region 1 with fail
      rw [← HW1.out]
      go_wp2
      go_ret
      rw [HY.out]
      exact ⟨rfl, ⟨_, HX.out⟩, HBL.out⟩
    · rw [if_neg hbig] at HY
      have hbi : ¬ (tx.size : Int) > 65535 := by omega
      go_enter Try.func40, Try.ntmps40
      go_upto_region 1 with fail
      rw [← HW1.out]
      go_upto_region 6 with fail
      obtain ⟨row, hrow⟩ : ∃ row, row = vb.ownBlock := ⟨_, rfl⟩
      have HROW := Lib.hid hrow
      have hne1 : some g ≠ row := fun e => HX.out.ne (by rw [← hrow, ← e])
      have hne2 : some w.heap.size ≠ row := fun e => by have := (HX0.out.own.lt _ (by rw [← hrow, ← e])).2; omega
      have hT3 : (bytesV b).length + tx.size ≤ 4294967296 := by rw [bytesV_length]; have := HLEN.out; omega
      have hB1 : B ≤ w1.drew.heap.size := Nat.le_trans hBw HA.out.size
      have HT1 := Lib.hid (HX.out.own.up (below_drewN w1 1))
      rw [← World.drew_is_drewN] at HT1
      have HT3 := Lib.hid hT3
      have HT4 := Lib.hid hB1
      clear hrow hT3 hB1
      refine wp_region_tail (fun w' => ∃ x, w' = chg w1 row x) [0,1,2,3,4,5,6] [7,8,9] [10] (by kernel_rfl) (by kernel_rfl) (ex_chg (grown_drew _ _)) ?_
      simp only [pick, List.map_cons, List.map_nil, List.getD_cons_zero, List.getD_cons_succ]
      repeat (go_big_quiet_step (fail))
      refine wpQuiet_nil ?_
      unfold wpAct
      go_wp2_with (at_builtin; refine wpList_app_str rfl (.tmp 20) (.tmp 22) 43 9 rfl B 5 (.int .u8 0) 1 Try.underlying43 Try.underlying9 (by kernel_rfl) rfl (by decide) vb (bytesV b) rfl HT1.out tx rfl HT3.out HT4.out ?_; intro v' w5 hown1 hg1 hk1; rw [← HROW.out] at hg1 hk1; have HO1 := Lib.hid hown1; have HG1 := Lib.hid hg1; have HK1 := Lib.hid hk1; clear hown1 hg1 hk1)
      refine ⟨ex_chg (grown_trans (grown_drew _ _) HG1.out), ?_⟩
      (unfold wpAct; go_wp2; refine ⟨ex_chg (grown_trans (grown_drew _ _) HG1.out), ?_⟩)
      (unfold wpAct; go_wp2; refine ⟨ex_chg (grown_trans (grown_drew _ _) HG1.out), ?_⟩)
      unfold wpAct
      have HXW := Lib.hid (HX.out.up (below_drewN w1 1))
      rw [← World.drew_is_drewN] at HXW
      have HPU := Lib.hid (TxV.pushS HXW.out (b_drew1 HBL.out) HO1.out (by have h := HG1.out; rw [HROW.out] at h; exact h) (by have h := HK1.out; rw [HROW.out] at h; exact h) HT4.out)
      have hb5 := HXW.out.box.keep HG1.out (.inr (by rw [HROW.out]; exact fun e => HXW.out.ne e.symm))
      have f0 := hb5.free 0
      have c0 : w5.cell? ⟨g, 0, none⟩ = some vb := hb5.cell (by simp)
      have hg := hb5.blk.2
      obtain ⟨o5, k5, g5, hv5, -⟩ := HO1.out.cases
      subst hv5
      have hl5 : (bytesV b ++ bytesV tx.data.toList).length = (b ++ tx.data.toList).length := by rw [List.length_append, bytesV_length, bytesV_length, List.length_append]
      rw [hl5] at HPU ⊢
      generalize hl5' : (b ++ tx.data.toList).length = l5 at *
      have hc6 : (w5.setCell ⟨g, 0, none⟩ (.slice o5 l5 k5)).cell? ⟨g, 0, none⟩ = some (.slice o5 l5 k5) := HPU.out.1.box.cell (by simp)
      have HL5 := Lib.hid hl5'
      clear hb5 HXW HO1 HG1 HK1 HT1 HT3 HT4 HX hl5 hl5'
      unfold wpAct
      go_wp2
      refine ⟨trivial, ?_⟩
      unfold wpAct
      generalize w5.setCell ⟨g, 0, none⟩ (.slice o5 l5 k5) = w6 at *
      have hg6 := HPU.out.1.box.blk.2
      unfold chkN at HY
      simp only at HY
      rw [if_neg (fun h => h rfl), HL5.out] at HY
      have hm6 : l5 ≤ 16842752 := by rw [← HL5.out, List.length_append]; simp; have := HLEN.out; omega
      by_cases hmx : 16777216 < l5
      · rw [if_pos hmx] at HY
        have hmi : (l5 : Int) > 16777216 := by omega
        clear hmx
        go_wp2
        go_ret
        rw [HY.out]
        exact ⟨rfl, ⟨_, HPU.out.1⟩, HPU.out.2⟩
      · rw [if_neg hmx] at HY
        have hmi : ¬ (l5 : Int) > 16777216 := by omega
        clear hmx
        go_wp2
        go_ret
        rw [HY.out]
        exact ⟨rfl, ⟨_, HPU.out.1⟩, HPU.out.2⟩
  · rw [if_neg k0] at HY
    have k0i : (kd == 0) = false := by simpa using k0
    by_cases k12 : kd = 1 ∨ kd = 2
    · rw [if_pos k12] at HY
      have hor : (kd == 1) = true ∨ ((kd == 1) = false ∧ (kd == 2) = true) := by
        by_cases h1 : kd = 1
        · exact .inl (by simpa using h1)
        · exact .inr ⟨by simpa using h1, by have : kd = 2 := by omega
                                            simpa using this⟩
      have HDO := Lib.hid (fun (W : World) (bk : Byts) (o : OpN) (ho : o ∈ ops) (ht : Tx W B g bk) (hb : bk.length ≤ 16777216) => doP ht (by omega) o.lit o.len o.dist (hlit o ho))
      have HST : Hid (∀ k bk, (hk : k < ops.length) → opsN 10 b (ops.take k) = (0, bk) → opsN 10 b (ops.take (k + 1)) = if (opN 10 bk ops[k]).1 ≠ 0 then opN 10 bk ops[k] else if 16777216 < (opN 10 bk ops[k]).2.length then (3, (opN 10 bk ops[k]).2) else opN 10 bk ops[k]) := Lib.hid (fun k bk hk h => opsN_take hk h)
      have HSTOP : Hid (∀ k, (opsN 10 b (ops.take k)).1 ≠ 0 → opsN 10 b ops = opsN 10 b (ops.take k)) := Lib.hid (fun k h => opsN_stop h)
      have HMEM : Hid (∀ k, (hk : k < ops.length) → ops[k] ∈ ops) := Lib.hid (fun k hk => List.getElem_mem hk)
      clear k12 hlit
      rcases hor with h1 | ⟨h1, h2⟩ <;>
      · go_enter Try.func40, Try.ntmps40
        go_upto_region 1 with fail
        rw [← HW1.out]
        go_wp2
        go_loopg [32] (ops.length + 1) (fun gk iv wr => ∃ (k : Nat) (bk : Byts), iv = .int .i64 k ∧ k ≤ ops.length ∧ Hid (opsN 10 b (ops.take k) = (0, bk)) ∧ bk.length ≤ 16777216 ∧ Tx wr B g bk ∧ Below B w wr ∧ gk = ops.length + 1 - k)
        case atStart => exact ⟨0, b, rfl, Nat.zero_le _, Lib.hid rfl, HLEN.out, ⟨_, HX.out⟩, HBL.out, rfl⟩
        case round =>
          clear HX
          obtain ⟨k, bk, rfl, hk, HK, hbk, htx, hbl, rfl⟩ := hrel
          have HT := Lib.hid htx
          have HBW := Lib.hid hbl
          clear htx hbl
          by_cases hlt : k < ops.length
          · have hlti : (k : Int) < (ops.length : Int) := by omega
            obtain ⟨oo', oc', ob', off', hv', hdo, hco⟩ := ops_open (HVO.out wr HBW.out)
            obtain ⟨rfl, -, rfl⟩ : oo = oo' ∧ ops.length = ops.length ∧ oc = oc' := by
              injection hv' with e1 e2 e3; exact ⟨e1, rfl, e3⟩
            have hix := index_anyK (P := Try.prog) 3 32 75 Try.underlying32 (by kernel_rfl) hdo
            have hix2 := fun W kd => hix W kd (k : Int) (by omega) (by omega)
            simp only [Int.toNat_natCast] at hix2
            have hcc := hco k hlt
            have hbb := hdo.hblk (by omega)
            have hst := HST.out k bk hlt HK.out
            have HDK := Lib.hid (fun W => HDO.out W bk ops[k] (HMEM.out k hlt))
            have hsk := HSTOP.out (k + 1)
            rw [hst] at hsk
            have hoe : ops[k] = ⟨ops[k].lit, ops[k].len, ops[k].dist⟩ := rfl
            generalize ops[k] = o at *
            obtain ⟨ol, on, od⟩ := o
            simp only at HDK
            generalize hyo : opN 10 bk ⟨ol, on, od⟩ = yo at *
            obtain ⟨er, b2⟩ := yo
            simp only at HDK hst hsk
            have HC3 : Hid (∀ c, c < 3 → wr.cell? ⟨ob', off' + k * 3 + c, none⟩ = some ((#[.int .u8 (ol : Nat), .int .i64 on, .int .i64 od] : Array Value).getD c undef)) := Lib.hid (fun c hc => by
              rw [hcc c hc]
              match c, hc with
              | 0, _ => rfl
              | 1, _ => rfl
              | 2, _ => rfl)
            have HST2 := Lib.hid hst
            have HSK2 := Lib.hid hsk
            have HB2 : Hid (er = 0 → b2.length ≤ bk.length + 258) := Lib.hid (fun _ => by have h := opN_len (eD := 10) (b := bk) (o := ⟨ol, on, od⟩); rw [hyo] at h; exact h)
            have HD1 := Lib.hid (HDK.out (wr.alloc (.cells #[.int .u8 (ol : Nat), .int .i64 on, .int .i64 od] 75)) (HT.out.up (below_alloc _ _)) hbk)
            have hwB : B ≤ wr.heap.size := Nat.le_trans hBw HBW.out.size
            have HAL : Hid (Below B wr (wr.alloc (.cells #[.int .u8 (ol : Nat), .int .i64 on, .int .i64 od] 75))) := Lib.hid ((below_alloc _ _).mono hwB)
            clear hco hix hdo hv' hoe hcc hst hsk hyo HSTOP HST HMEM HDO HDK
            by_cases her : er = 0
            · subst her
              go_upto_region 15 with (first
                | (refine wpList_load_cells rfl 75 _ rfl ob' (off' + k * 3) 3 rfl #[.int .u8 (ol : Nat), .int .i64 on, .int .i64 od] _ HC3.out rfl Try.underlying75 rfl (by kernel_rfl) ?_)
                | (go_at_call 64; (with_reducible refine HD1.out.mono ?_); rintro e w5 ⟨rfl, ht5, hb5⟩; have HT5 := Lib.hid ht5; have HB5 := Lib.hid (HBW.out.trans (HAL.out.trans hb5)); clear ht5 hb5))
              obtain ⟨v5, hx5⟩ := HT5.out
              obtain ⟨o5, k5, q5, -, hc5, hd5⟩ := hx5.len
              have hg5 := hx5.box.blk.2
              have hl5 := hd5.len
              have hb2 := HB2.out (by trivial)
              clear hx5 hd5
              generalize hlb : b2.length = l2 at *
              have HLB := Lib.hid hlb
              clear hlb
              by_cases hmx : 16777216 < l2
              · have hmi : (l2 : Int) > 16777216 := by omega
                have HE : Hid (y = (3, b2)) := Lib.hid (by
                  have h2 := HSK2.out
                  rw [if_neg (fun h => h rfl), if_pos hmx] at h2
                  rw [HY.out, h2 (by intro h; cases h)]
                  rfl)
                clear hmx HSK2 HST2
                go_wp2
                go_ret
                rw [HE.out]
                exact ⟨rfl, HT5.out, HB5.out⟩
              · have hmi : ¬ (l2 : Int) > 16777216 := by omega
                have HK2 : Hid (opsN 10 b (ops.take (k + 1)) = (0, b2)) := Lib.hid (by
                  rw [HST2.out, if_neg (fun h => h rfl), if_neg hmx])
                go_wp2
                go_roundg (ops.length + 1 - (k + 1))
                case measure => omega
                case rel => exact ⟨k + 1, b2, by go_num, by omega, HK2, by rw [HLB.out]; omega, HT5.out, HB5.out, rfl⟩
            · have hei : ((er : Int) != 0) = true := by simpa using her
              have HE : Hid (y = (er, b2)) := Lib.hid (by
                have h2 := HSK2.out
                rw [if_pos her] at h2
                rw [HY.out, h2 her]
                unfold chkN
                rw [if_pos her])
              clear her HSK2 HST2
              go_wp2_with (first
                | (refine wpList_load_cells rfl 75 _ rfl ob' (off' + k * 3) 3 rfl #[.int .u8 (ol : Nat), .int .i64 on, .int .i64 od] _ HC3.out rfl Try.underlying75 rfl (by kernel_rfl) ?_)
                | (go_at_call 64; (with_reducible refine HD1.out.mono ?_); rintro e w5 ⟨rfl, ht5, hb5⟩; have HT5 := Lib.hid ht5; have HB5 := Lib.hid (HBW.out.trans (HAL.out.trans hb5)); clear ht5 hb5))
              go_ret
              rw [HE.out]
              exact ⟨rfl, HT5.out, HB5.out⟩
          · obtain rfl : k = ops.length := by omega
            have HE : Hid (y = (0, bk)) := Lib.hid (by
              have h2 := HK.out
              rw [List.take_length] at h2
              rw [HY.out, h2]
              unfold chkN
              rw [if_neg (fun h => h rfl), if_neg (by simp only; omega)])
            obtain ⟨v5, hx5⟩ := HT.out
            obtain ⟨o5, k5, q5, -, hc5, hd5⟩ := hx5.len
            have hg5 := hx5.box.blk.2
            clear hx5 hd5
            generalize bk.length = l2 at *
            have hmi : ¬ (l2 : Int) > 16777216 := by omega
            go_wp2
            go_ret
            rw [HE.out]
            exact ⟨rfl, HT.out, HBW.out⟩
    · rw [if_neg k12] at HY
      have h1i : (kd == 1) = false := by simp; omega
      have h2i : (kd == 2) = false := by simp; omega
      clear k12
      go_enter Try.func40, Try.ntmps40
      go_upto_region 1 with fail
      rw [← HW1.out]
      go_wp2
      go_ret
      rw [HY.out]
      exact ⟨rfl, ⟨_, HX.out⟩, HBL.out⟩
end Go.Cm

/- The walk of the program's Text. Conditions: the parts read as a list. -/
namespace Go.Cm
open Go.RowKit Go.Proofs

def zPt : PtN := ⟨0, ⟨#[]⟩, [], [], []⟩
/-- a part's five cells -/
def PtCells (w : World) (c : List Value) (p : PtN) : Prop := ∃ vo vl vd, c = [.int .i64 p.kind, .string p.text, vo, vl, vd] ∧ SlK 3 w vo (p.ops.map opV) ∧ IntsAt w vl p.lits ∧ IntsAt w vd p.dists
/-- a list of parts -/
def PartsAt (w : World) (v : Value) (l : List PtN) : Prop := ∃ cs, SlK 5 w v cs ∧ cs.length = l.length ∧ ∀ i, i < l.length → PtCells w (cs.getD i []) (l.getD i zPt)
theorem PtCells.up {w w' : World} {c : List Value} {p : PtN} (h : PtCells w c p) (hb : Below w.heap.size w w') : PtCells w' c p := by
  obtain ⟨vo, vl, vd, hc, h1, h2, h3⟩ := h
  exact ⟨vo, vl, vd, hc, h1.up hb, h2.up hb, h3.up hb⟩
theorem PartsAt.up {w w' : World} {v : Value} {l : List PtN} (h : PartsAt w v l) (hb : Below w.heap.size w w') : PartsAt w' v l := by
  obtain ⟨cs, h1, h2, h3⟩ := h
  exact ⟨cs, h1.up hb, h2, fun i hi => (h3 i hi).up hb⟩
/-- what the parts hold fits -/
structure PtOk (p : PtN) : Prop where
  lit : ∀ o ∈ p.ops, o.lit < 256
  text : p.text.size ≤ 140737488351232
theorem PartsAt.open {w : World} {v : Value} {l : List PtN} (h : PartsAt w v l) :
    ∃ oa cap b off, v = .slice oa l.length cap ∧ Hd w oa l.length cap b off ∧ ∀ i, i < l.length →
      ∃ oo oc o1 c1 o2 c2, (∀ c, c < 5 → w.cell? ⟨b, off + i * 5 + c, none⟩ = some ((#[.int .i64 (l.getD i zPt).kind, .string (l.getD i zPt).text, .slice oo (l.getD i zPt).ops.length oc, .slice o1 (l.getD i zPt).lits.length c1, .slice o2 (l.getD i zPt).dists.length c2] : Array Value).getD c undef)) ∧
        SlK 3 w (.slice oo (l.getD i zPt).ops.length oc) ((l.getD i zPt).ops.map opV) ∧ IntsAt w (.slice o1 (l.getD i zPt).lits.length c1) (l.getD i zPt).lits ∧ IntsAt w (.slice o2 (l.getD i zPt).dists.length c2) (l.getD i zPt).dists := by
  obtain ⟨cs, ⟨oa, cap, b, off, rfl, hd, hc⟩, h2, h3⟩ := h
  rw [h2] at hd hc ⊢
  refine ⟨oa, cap, b, off, rfl, hd, fun i hi => ?_⟩
  obtain ⟨vo, vl, vd, he, g1, g2, g3⟩ := h3 i hi
  obtain ⟨oo, oc, ob, of, rfl, -⟩ := ops_open g1
  obtain ⟨o1, c1, b1, f1, rfl, -⟩ := g2.open
  obtain ⟨o2, c2, b2, f2, rfl, -⟩ := g3.open
  refine ⟨oo, oc, o1, c1, o2, c2, fun c hcl => ?_, g1, g2, g3⟩
  rw [hc i hi c hcl, he]
  match c, hcl with
  | 0, _ => rfl
  | 1, _ => rfl
  | 2, _ => rfl
  | 3, _ => rfl
  | 4, _ => rfl
def RetTextN (y : Nat × Byts) (w : World) (e : Ending) (w' : World) : Prop := e = .returned (.tuple #[.string ⟨y.2.toArray⟩, .int .i64 (y.1 : Nat)]) ∧ ∃ x, w' = ext w x
theorem pkPart_len {eD : Nat} {b : Byts} {p : PtN} (h : (pkPart eD b p).1 = 0) : (pkPart eD b p).2.length ≤ 16777216 := by
  have hc : ∀ z : Nat × Byts, (chkN z).1 = 0 → (chkN z).2.length ≤ 16777216 := by
    intro z hz
    unfold chkN at hz ⊢
    by_cases h1 : z.1 ≠ 0
    · rw [if_pos h1] at hz; exact absurd hz h1
    · rw [if_neg h1] at hz ⊢
      by_cases h2 : 16777216 < z.2.length
      · rw [if_pos h2] at hz; exact absurd hz (by intro h; cases h)
      · rw [if_neg h2]; omega
  unfold pkPart at h ⊢
  by_cases h0 : p.kind = 0
  · rw [if_pos h0] at h ⊢
    by_cases h1 : 65535 < p.text.size
    · rw [if_pos h1] at h; exact absurd h (by intro h; cases h)
    · rw [if_neg h1] at h ⊢; exact hc _ h
  · rw [if_neg h0] at h ⊢
    by_cases h1 : p.kind = 1 ∨ p.kind = 2
    · rw [if_pos h1] at h ⊢; exact hc _ h
    · rw [if_neg h1] at h; exact absurd h (by intro h; cases h)
theorem partsN_take {eD : Nat} {b : Byts} {l : List PtN} {k : Nat} (hk : k < l.length) (h : partsN eD (l.take k) = (0, b)) : partsN eD (l.take (k + 1)) = pkPart eD b (l.getD k zPt) := by
  rw [List.take_succ_eq_append_getElem hk, partsN_snoc, h]
  simp [pkPartS, List.getD, hk]
set_option maxRecDepth 100000 in
set_option maxHeartbeats 4000000 in
theorem textPk {w : World} {v : Value} {l : List PtN} (h : PartsAt w v l) (hok : ∀ p ∈ l, PtOk p) : Calls Try.prog 14 #[v] w (RetTextN (textOf 10 17 l) w) := by
  have HH := Lib.hid h
  have HOK : Hid (∀ i, i < l.length → PtOk (l.getD i zPt)) := Lib.hid (fun i hi => by
    have : l.getD i zPt = l[i] := by simp [List.getD, hi]
    rw [this]; exact hok _ (List.getElem_mem hi))
  obtain ⟨oa, cap, bl, off, rfl, hd, hco⟩ := h.open
  have HCO := Lib.hid hco
  have HD := Lib.hid hd
  obtain ⟨y, hy⟩ : ∃ y, y = textOf 10 17 l := ⟨_, rfl⟩
  rw [← hy]
  have HY := Lib.hid hy
  unfold textOf at HY
  have hm := hd.len
  clear hy h hok hd hco
  by_cases hl : l = []
  · rw [if_pos hl] at HY
    subst hl
    go_enter Try.func14, Try.ntmps14
    go_wp2
    go_ret2
    exact ⟨by rw [HY.out]; rfl, (ex_ext (by repeat (first | exact Below.refl _ _ | assumption | refine b_drewN ?_ _ | refine Below.drew ?_ | refine b_ext' ?_ _ | refine b_alloc' ?_ _)))⟩
  · rw [if_neg hl] at HY
    have hl0 : 0 < l.length := List.length_pos_iff.2 hl
    have hl1 : ((l.length : Int) == 0) = false := by simp; exact hl
    clear hl
    go_enter Try.func14, Try.ntmps14
    go_wp2
    have HT0 : Hid (Tx (w.alloc (.cells #[Value.slice none 0 0] 78)) w.heap.size w.heap.size []) := Lib.hid ⟨.slice none 0 0, own_lit w w.heap.size #[Value.slice none 0 0] 78 (by simp) (Nat.le_refl _), Own.nil _ _ _, by simp [Value.ownBlock], Nat.le_refl _⟩
    have HB0 := Lib.hid (below_alloc w (.cells #[Value.slice none 0 0] 78))
    go_loopg [15] (l.length + 1) (fun gk iv wr => ∃ (k : Nat) (b : Byts), iv = .int .i64 k ∧ k ≤ l.length ∧ Hid (partsN 10 (l.take k) = (0, b)) ∧ b.length ≤ 16777216 ∧ Tx wr w.heap.size w.heap.size b ∧ Below w.heap.size w wr ∧ gk = l.length + 1 - k)
    case atStart => exact ⟨0, [], rfl, Nat.zero_le _, Lib.hid rfl, Nat.zero_le _, HT0.out, HB0.out, rfl⟩
    case round =>
      clear HT0 HB0
      obtain ⟨k, b, rfl, hk, HK, hbk, htx, hbl, rfl⟩ := hrel
      have HT := Lib.hid htx
      have HBW := Lib.hid hbl
      have hsz := hbl.size
      clear htx hbl
      by_cases hlt : k < l.length
      · have hix := index_anyK (P := Try.prog) 5 28 41 Try.underlying28 (by kernel_rfl) HD.out
        have hix2 := fun W kd => hix W kd (k : Int) (by omega) (by omega)
        simp only [Int.toNat_natCast] at hix2
        obtain ⟨oo, oc, o1, c1, o2, c2, hcc, hs, hl1', hl2'⟩ := HCO.out k hlt
        have hok := HOK.out k hlt
        have HSK := Lib.hid (partsN_take hlt HK.out)
        have HSTOP := Lib.hid (partsN_stop (eD := 10) (l := l) (k := k + 1))
        have hbb := HD.out.hblk (by omega)
        have HLN := Lib.hid (pkPart_len (eD := 10) (b := b) (p := l.getD k zPt))
        obtain ⟨p, hp⟩ : ∃ p, p = l.getD k zPt := ⟨_, rfl⟩
        rw [← hp] at hcc hs hl1' hl2' hok HSK HLN
        have HC5 : Hid (∀ c, c < 5 → wr.cell? ⟨bl, off + k * 5 + c, none⟩ = some ((#[.int .i64 p.kind, .string p.text, .slice oo p.ops.length oc, .slice o1 p.lits.length c1, .slice o2 p.dists.length c2] : Array Value).getD c undef)) := Lib.hid (fun c hc => (HBW.out.cell (p := ⟨bl, off + k * 5 + c, none⟩) hbb).trans (hcc c hc))
        have hAL := below_alloc wr (.cells #[.int .i64 p.kind, .string p.text, .slice oo p.ops.length oc, .slice o1 p.lits.length c1, .slice o2 p.dists.length c2] 41)
        have HAL := Lib.hid (hAL.mono hsz)
        obtain ⟨A, hgA, hsA, hA⟩ := (own_lit wr wr.heap.size #[.int .i64 p.kind, .string p.text, .slice oo p.ops.length oc, .slice o1 p.lits.length c1, .slice o2 p.dists.length c2] 41 (by simp) (Nat.le_refl _)).whole
        have hA' : A = #[.int .i64 p.kind, .string p.text, .slice oo p.ops.length oc, .slice o1 p.lits.length c1, .slice o2 p.dists.length c2] := by rw [← Array.toArray_toList (xs := A), hA]
        subst hA'
        have HPC := Lib.hid (partP (HT.out.up hAL) hbk p (.slice oo p.ops.length oc) (.slice o1 p.lits.length c1) (.slice o2 p.dists.length c2) (fun W hW => hs.up ((HBW.out.trans HAL.out).trans hW)) hok.lit hok.text rfl rfl)
        have HX : Hid (∀ W', Below w.heap.size (wr.alloc (.cells #[.int .i64 p.kind, .string p.text, .slice oo p.ops.length oc, .slice o1 p.lits.length c1, .slice o2 p.dists.length c2] 41)) W' → Below w.heap.size w W') := Lib.hid (fun W' h => (HBW.out.trans HAL.out).trans h)
        generalize hz : pkPart 10 b p = z at *
        obtain ⟨er, b2⟩ := z
        simp only at HPC HLN
        clear hcc hs hl1' hl2' hok hAL hA hsA hz hix HAL hp
        generalize p.ops.length = n3 at *
        generalize p.lits.length = n4 at *
        generalize p.dists.length = n5 at *
        by_cases her : er = 0
        · subst her
          have hb2 := HLN.out (by trivial)
          go_wp2_with (first
            | (refine wpList_load_cells rfl 41 _ rfl bl (off + k * 5) 5 rfl #[.int .i64 p.kind, .string p.text, .slice oo n3 oc, .slice o1 n4 c1, .slice o2 n5 c2] _ HC5.out rfl Try.underlying41 rfl (by kernel_rfl) ?_)
            | (refine load_box rfl 41 5 _ rfl wr.heap.size rfl #[.int .i64 p.kind, .string p.text, .slice oo n3 oc, .slice o1 n4 c1, .slice o2 n5 c2] rfl hgA _ Try.underlying41 rfl (by kernel_rfl) ?_)
            | (go_at_call 40; (with_reducible refine HPC.out.mono ?_); rintro e w5 ⟨rfl, ht5, hb5⟩; have HT5 := Lib.hid ht5; have HB5 := Lib.hid (HX.out _ hb5); clear ht5 hb5))
          go_roundg (l.length + 1 - (k + 1))
          case measure => omega
          case rel => exact ⟨k + 1, b2, by go_num, by omega, HSK, hb2, HT5.out, HB5.out, rfl⟩
        · have hei : ((er : Int) != 0) = true := by simpa using her
          have HE : Hid (y = (er, [])) := Lib.hid (by
            have h2 := HSTOP.out (by rw [HSK.out]; exact her)
            rw [HSK.out] at h2
            rw [HY.out, h2, if_pos her])
          clear her HSK HSTOP HLN
          go_wp2_with (first
            | (refine wpList_load_cells rfl 41 _ rfl bl (off + k * 5) 5 rfl #[.int .i64 p.kind, .string p.text, .slice oo n3 oc, .slice o1 n4 c1, .slice o2 n5 c2] _ HC5.out rfl Try.underlying41 rfl (by kernel_rfl) ?_)
            | (refine load_box rfl 41 5 _ rfl wr.heap.size rfl #[.int .i64 p.kind, .string p.text, .slice oo n3 oc, .slice o1 n4 c1, .slice o2 n5 c2] rfl hgA _ Try.underlying41 rfl (by kernel_rfl) ?_)
            | (go_at_call 40; (with_reducible refine HPC.out.mono ?_); rintro e w5 ⟨rfl, ht5, hb5⟩; have HT5 := Lib.hid ht5; have HB5 := Lib.hid (HX.out _ hb5); clear ht5 hb5))
          go_ret2
          exact ⟨by rw [HE.out]; rfl, ex_ext HB5.out⟩
      · obtain rfl : k = l.length := by omega
        have HE : Hid (y = (0, b)) := Lib.hid (by
          have h2 := HK.out
          rw [List.take_length] at h2
          rw [HY.out, h2, if_neg (fun h => h rfl)])
        obtain ⟨v5, hx5⟩ := HT.out
        obtain ⟨o5, k5, q5, hv5, hc5, hd5⟩ := hx5.len
        have hg5 := hx5.box.blk.2
        subst hv5
        have HCV := Lib.hid (fun W (h : Below wr.heap.size wr W) => run_bytes_string (P := Try.prog) W 43 9 5 Try.underlying43 Try.underlying5 Try.underlying9 _ b (hx5.own.sl.up h))
        have hcv := HCV.out wr (Below.refl _ _)
        clear hx5 hd5 hlt
        generalize b.length = l2 at *
        go_wp2
        go_ret2
        exact ⟨by rw [HE.out]; rfl, ex_ext HBW.out⟩
end Go.Cm

/- The walk of a coded block's writing. Conditions: the writer is there, the part lies below it. -/
namespace Go.Cm
open Go.RowKit Go.Proofs

theorem sl_heap {w W : World} {v : Value} {l : List Value} (h : Sl w v l) (hb : ∀ k, k < w.heap.size → W.heap[k]? = w.heap[k]?) (hs : w.heap.size ≤ W.heap.size) : Sl W v l := by
  obtain ⟨oa, cap, b, off, rfl, hd, hc⟩ := h
  refine ⟨oa, cap, b, off, rfl, ⟨hd.hat, hd.hcap, hd.hmax, hd.hsml, fun h => Nat.lt_of_lt_of_le (hd.hblk h) hs⟩, fun i hi => ?_⟩
  rw [World.cell?_of_block (w := w) (w' := W) (hb b (hd.hblk (by omega)))]
  exact hc i hi
theorem slK_heap {k : Nat} {w W : World} {v : Value} {l : List (List Value)} (h : SlK k w v l) (hb : ∀ k, k < w.heap.size → W.heap[k]? = w.heap[k]?) (hs : w.heap.size ≤ W.heap.size) : SlK k W v l := by
  obtain ⟨oa, cap, b, off, rfl, hd, hc⟩ := h
  refine ⟨oa, cap, b, off, rfl, ⟨hd.hat, hd.hcap, hd.hmax, hd.hsml, fun h => Nat.lt_of_lt_of_le (hd.hblk h) hs⟩, fun i hi c hcl => ?_⟩
  rw [World.cell?_of_block (w := w) (w' := W) (hb b (hd.hblk (by omega)))]
  exact hc i hi c hcl
/-- what lies below the writer stays -/
theorem FrC.low {w0 w W : World} {B g gc N L : Nat} {vb vb' : Value} (hf : FrC g gc vb vb' w W) (hw : WrtV w B g N L vb) (hgc : B ≤ gc) (hB0 : w0.heap.size ≤ B) (hb0 : Below w0.heap.size w0 w) : (∀ k, k < w0.heap.size → W.heap[k]? = w0.heap[k]?) ∧ w0.heap.size ≤ W.heap.size := by
  refine ⟨fun k hk => ?_, Nat.le_trans hb0.size hf.2.2⟩
  rw [hf.1 k (Nat.lt_of_lt_of_le hk hb0.size) (by have := hw.ge; omega) (by omega) (fun e => by have := (hw.own.lt k e).1; omega), hb0.block k hk]
theorem Stay.low {w0 w : World} {B g gc N L : Nat} {vb v : Value} {l : List Int} (h : IntsAt w0 v l) (hw : WrtV w B g N L vb) (hgc : B ≤ gc) (hB0 : w0.heap.size ≤ B) (hb0 : Below w0.heap.size w0 w) : Stay g gc vb w v l := fun W vb' hf => by
  obtain ⟨h1, h2⟩ := hf.low hw hgc hB0 hb0
  exact sl_heap h h1 h2
theorem Stay.own {w : World} {B' g gc : Nat} {vb v : Value} {l : List Int} (h : Own w B' 3 v (ints l)) (hk : ∀ k, v.ownBlock = some k → k ≠ g ∧ k ≠ gc ∧ vb.ownBlock ≠ some k) : Stay g gc vb w v l := fun W _vb' hf =>
  (h.of_blk (w' := W) fun k e => hf.1 k (h.lt k e).2 (hk k e).1 (hk k e).2.1 (hk k e).2.2).sl
theorem CdV.setl {w : World} {B g gc : Nat} {vb vl vd : Value} {x : Nat × Nat × Nat} (h : CdV w B g gc vb vl vd x) (v : Value) : CdV (w.setCell ⟨gc, 1, none⟩ v) B g gc vb v vd x ∧ w.grownBy (w.setCell ⟨gc, 1, none⟩ v) (some gc) := by
  have hst := h.cd.store 1 v
  exact ⟨⟨⟨h.wr.box.keep hst.2 (fun e => h.gg (Option.some.inj e)), h.wr.own.keep hst.2 (.inr h.ne), h.wr.ne, h.wr.ge, h.wr.lt⟩, hst.1, h.ne, h.gg⟩, hst.2⟩
theorem CdV.setd {w : World} {B g gc : Nat} {vb vl vd : Value} {x : Nat × Nat × Nat} (h : CdV w B g gc vb vl vd x) (v : Value) : CdV (w.setCell ⟨gc, 2, none⟩ v) B g gc vb vl v x ∧ w.grownBy (w.setCell ⟨gc, 2, none⟩ v) (some gc) := by
  have hst := h.cd.store 2 v
  exact ⟨⟨⟨h.wr.box.keep hst.2 (fun e => h.gg (Option.some.inj e)), h.wr.own.keep hst.2 (.inr h.ne), h.wr.ne, h.wr.ge, h.wr.lt⟩, hst.1, h.ne, h.gg⟩, hst.2⟩
def litsN (p : PtN) : List Int := if p.kind = 1 then nls fixL else p.lits
def distsN (p : PtN) : List Int := if p.kind = 1 then nls fixD else p.dists
/-- what an op may hold -/
structure OpOk (o : OpN) : Prop where
  lit : o.lit < 256
  n1 : -9223372036854775808 ≤ o.len
  n2 : o.len ≤ 9223372036854775807
  d1 : -9223372036854775808 ≤ o.dist
  d2 : o.dist ≤ 9223372036854775807
set_option maxRecDepth 100000 in
set_option maxHeartbeats 4000000 in
theorem codedP {w0 w : World} {B g N L : Nat} {vb : Value} (h : WrtV w B g N L vb) (hB0 : w0.heap.size ≤ B) (hb0 : Below w0.heap.size w0 w) (p : PtN) (oo o1 o2 : Option Addr) (oc c1 c2 : Nat)
    (hvo : SlK 3 w0 (.slice oo p.ops.length oc) (p.ops.map opV)) (hv1 : IntsAt w0 (.slice o1 p.lits.length c1) p.lits) (hv2 : IntsAt w0 (.slice o2 p.dists.length c2) p.dists) (hok : ∀ o ∈ p.ops, OpOk o) (hL : L + 48 * p.ops.length ≤ 800000000) :
    Calls Try.prog 45 #[.pointer (some ⟨g, 0, none⟩), .agg #[.int .i64 p.kind, .string p.text, .slice oo p.ops.length oc, .slice o1 p.lits.length c1, .slice o2 p.dists.length c2]] w fun e w' =>
      e = .returned (.int .i64 ((cAll (litsN p) (distsN p) p.ops (N, L)).1 : Nat)) ∧ WSt w B g vb (cAll (litsN p) (distsN p) p.ops (N, L)).2 w' := by
  obtain ⟨kd, tx, ops, lits, dists⟩ := p
  simp only at hvo hv1 hv2 hok hL
  unfold litsN distsN
  simp only
  have hBw : B ≤ w.heap.size := by have := h.ge; have := h.box.lt; omega
  have hgw := h.box.lt
  have hge := h.ge
  obtain ⟨q, hq⟩ : ∃ q, q = w.heap.size := ⟨_, rfl⟩
  obtain ⟨w1, hw1⟩ : ∃ w1, w1 = w.alloc (.cells #[.int .i64 kd, .string tx, .slice oo ops.length oc, .slice o1 lits.length c1, .slice o2 dists.length c2] 41) := ⟨_, rfl⟩
  have hb1 : Below w.heap.size w w1 := by rw [hw1]; exact below_alloc _ _
  have hs1 : w1.heap.size = w.heap.size + 1 := by rw [hw1]; simp
  have hpt := own_lit w w.heap.size #[.int .i64 kd, .string tx, .slice oo ops.length oc, .slice o1 lits.length c1, .slice o2 dists.length c2] 41 (by simp) (Nat.le_refl _)
  rw [← hw1] at hpt
  obtain ⟨w2, hw2⟩ : ∃ w2, w2 = w1.alloc (.cells #[.pointer (some ⟨g, 0, none⟩), .slice o1 lits.length c1, .slice o2 dists.length c2, .int .i64 0] 118) := ⟨_, rfl⟩
  have hb2 : Below w1.heap.size w1 w2 := by rw [hw2]; exact below_alloc _ _
  have hcd := own_lit w1 B #[.pointer (some ⟨g, 0, none⟩), .slice o1 lits.length c1, .slice o2 dists.length c2, .int .i64 0] 118 (by simp) (by omega)
  rw [← hw2, hs1] at hcd
  have hb12 : Below w.heap.size w w2 := hb1.trans (hb2.mono hb1.size)
  have hbk2 : ∀ k, vb.ownBlock = some k → k < w.heap.size := fun k e => (h.own.lt k e).2
  have hcv : CdV w2 B g (w.heap.size + 1) vb (.slice o1 lits.length c1) (.slice o2 dists.length c2) (0, N, L) := ⟨h.up hb12, hcd, fun e => by have := hbk2 _ e; omega, by omega⟩
  have HCV := Lib.hid hcv
  have HF2 : Hid (FrC g (w.heap.size + 1) vb vb w w2) := Lib.hid ((FrC.refl g (w.heap.size + 1) vb w).below hb12)
  have HB2 := Lib.hid (hb12.mono hBw)
  have HW1 := Lib.hid hw1
  have HW2 := Lib.hid hw2
  have HPT := Lib.hid (hpt.up hb2)
  have HVB := Lib.hid hbk2
  have HLOW : Hid (∀ W vb', FrC g (w.heap.size + 1) vb vb' w2 W → SlK 3 W (.slice oo ops.length oc) (ops.map opV)) := Lib.hid (fun W vb' hf => by
    obtain ⟨h1, h2⟩ := hf.low hcv.wr (by omega) hB0 (hb0.trans (hb12.mono hb0.size))
    exact slK_heap hvo h1 h2)
  have HST1 := Lib.hid (Stay.low hv1 hcv.wr (gc := w.heap.size + 1) (by omega) hB0 (hb0.trans (hb12.mono hb0.size)))
  have HST2 := Lib.hid (Stay.low hv2 hcv.wr (gc := w.heap.size + 1) (by omega) hB0 (hb0.trans (hb12.mono hb0.size)))
  have hno : ops.length ≤ 9223372036854775807 := by omega
  have p0 : w1.cell? ⟨w.heap.size, 0, none⟩ = some (.int .i64 kd) := hpt.cell (by simp)
  have p3 : w1.cell? ⟨w.heap.size, 3, none⟩ = some (.slice o1 lits.length c1) := hpt.cell (by simp)
  have p4 : w1.cell? ⟨w.heap.size, 4, none⟩ = some (.slice o2 dists.length c2) := hpt.cell (by simp)
  have hp1 := hpt.blk.2
  have q0 : w2.cell? ⟨w.heap.size, 0, none⟩ = some (.int .i64 kd) := HPT.out.cell (by simp)
  have q2 : w2.cell? ⟨w.heap.size, 2, none⟩ = some (.slice oo ops.length oc) := HPT.out.cell (by simp)
  have hq2 := HPT.out.blk.2
  have HS1 := Lib.hid hs1
  clear hq h hvo hv1 hv2 hw1 hw2 hb1 hb2 hb12 hpt hcd hcv hbk2 hs1 hB0 hb0
  obtain ⟨ya, hya⟩ : ∃ ya, ya = cAll (if kd = 1 then nls fixL else lits) (if kd = 1 then nls fixD else dists) ops (N, L) := ⟨_, rfl⟩
  rw [← hya]
  have HYA := Lib.hid hya
  clear hya
  by_cases hk : kd = 1
  · rw [if_pos hk, if_pos hk] at HYA
    subst hk
    clear HST1 HST2
    go_enter Try.func45, Try.ntmps45
    go_upto_region 1 with fail
    rw [← HW1.out]
    go_upto_region 2 with fail
    rw [← HW2.out, HS1.out]
    clear p0 p3 p4 hp1
    have hc0 : w2.cell? ⟨w.heap.size + 1, 0, none⟩ = some (.pointer (some ⟨g, 0, none⟩)) := HCV.out.cd.cell (by simp)
    have hgc2 := HCV.out.cd.blk.2
    go_upto_region 4 with (first
      | (go_at_call 70; (with_reducible refine (fixLP _).mono ?_); rintro e w3 ⟨v3, rfl, ho3, hb3⟩; have HO3 := Lib.hid ho3; have HB3 := Lib.hid hb3; obtain ⟨oa3, ca3, ga3, hv3, -⟩ := ho3.cases; subst hv3; generalize (ints (nls fixL)).length = n3 at *; clear ho3 hb3)
      | (go_at_call 71; (with_reducible refine (fixDP _).mono ?_); rintro e w4 ⟨v4, rfl, ho4, hb4⟩; have HO4 := Lib.hid ho4; have HB4 := Lib.hid hb4; obtain ⟨oa4, ca4, ga4, hv4, -⟩ := ho4.cases; subst hv4; generalize (ints (nls fixD)).length = n4 at *; have HC4 := Lib.hid ((HCV.out.up HB3.out).up HB4.out); have f41 := HC4.out.cd.free 1; have f42 := HC4.out.cd.free 2; have c41 : w4.cell? ⟨w.heap.size + 1, 1, none⟩ = some (.slice o1 lits.length c1) := HC4.out.cd.cell (by simp); have c42 : w4.cell? ⟨w.heap.size + 1, 2, none⟩ = some (.slice o2 dists.length c2) := HC4.out.cd.cell (by simp); have hg4 := HC4.out.cd.blk.2; clear ho4 hb4))
    have hC5 := HC4.out.setl (.slice oa3 n3 ca3)
    have hC6 := hC5.1.setd (.slice oa4 n4 ca4)
    have HC5 := Lib.hid hC6.1
    have hgr := grown_trans hC5.2 hC6.2
    have hl3 : ∀ k, (Value.slice oa3 n3 ca3).ownBlock = some k → w2.heap.size ≤ k ∧ k < w3.heap.size := fun k e => HO3.out.lt k e
    have hl4 : ∀ k, (Value.slice oa4 n4 ca4).ownBlock = some k → w3.heap.size ≤ k ∧ k < w4.heap.size := fun k e => HO4.out.lt k e
    have h23 := HB3.out.size
    have h34 := HB4.out.size
    have ho3 := (HO3.out.up HB4.out).keep hgr (by cases h : (Value.slice oa3 n3 ca3).ownBlock with
      | none => exact .inl rfl
      | some k => exact .inr (by intro e; injection e with e; have := hl3 k h; omega))
    have ho4 := HO4.out.keep hgr (by cases h : (Value.slice oa4 n4 ca4).ownBlock with
      | none => exact .inl rfl
      | some k => exact .inr (by intro e; injection e with e; have := hl4 k h; omega))
    have hF25 : FrC g (w.heap.size + 1) vb vb w2 ((w4.setCell ⟨w.heap.size + 1, 1, none⟩ (.slice oa3 n3 ca3)).setCell ⟨w.heap.size + 1, 2, none⟩ (.slice oa4 n4 ca4)) := (((FrC.refl g (w.heap.size + 1) vb w2).below (HB3.out.trans (HB4.out.mono h23))).trans (FrC.cell 1 _)).trans (FrC.cell 2 _)
    have HF5 := Lib.hid (HF2.out.trans hF25)
    have HB5 : Hid (Below B w ((w4.setCell ⟨w.heap.size + 1, 1, none⟩ (.slice oa3 n3 ca3)).setCell ⟨w.heap.size + 1, 2, none⟩ (.slice oa4 n4 ca4))) := Lib.hid (((HB2.out.trans (HB3.out.mono (Nat.le_trans hBw HF2.out.2.2))).trans (HB4.out.mono (by omega))).grown hgr (by omega) (fun k e => by cases e; omega))
    have hst1 := Stay.own (g := g) (gc := w.heap.size + 1) (vb := vb) ho3 (fun k e => by have := hl3 k e; refine ⟨by omega, by omega, fun e2 => ?_⟩; have := HVB.out k e2; omega)
    have hst2 := Stay.own (g := g) (gc := w.heap.size + 1) (vb := vb) ho4 (fun k e => by have := hl4 k e; refine ⟨by omega, by omega, fun e2 => ?_⟩; have := HVB.out k e2; omega)
    have HT1 := Lib.hid hst1
    have HT2 := Lib.hid hst2
    have hp5 := ((HPT.out.up HB3.out).up HB4.out).keep hgr (.inr (by intro e; have e2 : some w.heap.size = some (w.heap.size + 1) := e; injection e2 with e2; omega))
    have HP5 := Lib.hid hp5
    have HLO5 : Hid (∀ W vb', FrC g (w.heap.size + 1) vb vb' ((w4.setCell ⟨w.heap.size + 1, 1, none⟩ (.slice oa3 n3 ca3)).setCell ⟨w.heap.size + 1, 2, none⟩ (.slice oa4 n4 ca4)) W → SlK 3 W (.slice oo ops.length oc) (ops.map opV)) := Lib.hid (fun W vb' hf => HLOW.out W vb' (hF25.trans hf))
    clear hC5 hC6 hgr hl3 hl4 ho3 ho4 hF25 hst1 hst2 hp5 HC4 HO3 HO4 HB3 HB4 HCV HF2 HB2 HPT HLOW hc0 hgc2 f41 f42 c41 c42 hg4 q0 q2 hq2
    generalize (w4.setCell ⟨w.heap.size + 1, 1, none⟩ (.slice oa3 n3 ca3)).setCell ⟨w.heap.size + 1, 2, none⟩ (.slice oa4 n4 ca4) = w5 at *
    have q2 : w5.cell? ⟨w.heap.size, 2, none⟩ = some (.slice oo ops.length oc) := HP5.out.cell (by simp)
    have hq2 := HP5.out.blk.2
    obtain ⟨l1, hl1⟩ : ∃ l1, l1 = nls fixL := ⟨_, rfl⟩
    obtain ⟨l2, hl2⟩ : ∃ l2, l2 = nls fixD := ⟨_, rfl⟩
    rw [← hl1] at HYA HT1
    rw [← hl2] at HYA HT2
    obtain ⟨vl, hvl⟩ : ∃ vl, vl = Value.slice oa3 n3 ca3 := ⟨_, rfl⟩
    obtain ⟨vd, hvd⟩ : ∃ vd, vd = Value.slice oa4 n4 ca4 := ⟨_, rfl⟩
    rw [← hvl] at HC5 HT1
    rw [← hvd] at HC5 HT2
    clear hl1 hl2 hvl hvd
    have HTK : Hid (∀ k, (hk : k < ops.length) → cOps l1 l2 (ops.take (k + 1)) (0, N, L) = cOp l1 l2 ops[k] (cOps l1 l2 (ops.take k) (0, N, L))) := Lib.hid (fun k hk => by rw [List.take_succ_eq_append_getElem hk, cOps_snoc])
    have HLN : Hid (∀ k, k ≤ ops.length → (cOps l1 l2 (ops.take k) (0, N, L)).2.2 ≤ 800000000) := Lib.hid (fun k hk => by
      have := (cOps_len l1 l2 (ops.take k) (0, N, L)).2
      rw [List.length_take] at this
      have h2 : min k ops.length ≤ ops.length := Nat.min_le_right _ _
      have h3 : 48 * min k ops.length ≤ 48 * ops.length := Nat.mul_le_mul_left _ h2
      simp only at this
      omega)
    have HOKS : Hid (∀ k, (hk : k < ops.length) → OpOk ops[k]) := Lib.hid (fun k hk => hok _ (List.getElem_mem hk))
    have HQC : Hid (∀ (W : World) (vb1 : Value) (x : Nat × Nat × Nat) (o : OpN), CdV W B g (w.heap.size + 1) vb1 vl vd x → FrC g (w.heap.size + 1) vb vb1 w5 W → OpOk o → x.2.2 ≤ 800000000 → Calls Try.prog 72 #[.pointer (some ⟨w.heap.size + 1, 0, none⟩), .agg #[.int .u8 o.lit, .int .i64 o.len, .int .i64 o.dist]] W fun e w' => e = .returned (.tuple #[]) ∧ ∃ vb', CdV w' B g (w.heap.size + 1) vb' vl vd (cOp l1 l2 o x) ∧ FrC g (w.heap.size + 1) vb1 vb' W w' ∧ Below B W w') := Lib.hid (fun W vb1 x o hc hf ho hl => opCP hc l1 l2 (HT1.out.next hf) (HT2.out.next hf) o ho.lit ho.n1 ho.n2 ho.d1 ho.d2 (by omega))
    have HPC : Hid (∀ (W : World) (vb1 : Value) (x : Nat × Nat × Nat), CdV W B g (w.heap.size + 1) vb1 vl vd x → FrC g (w.heap.size + 1) vb vb1 w5 W → x.2.2 ≤ 800000000 → Calls Try.prog 73 #[.pointer (some ⟨w.heap.size + 1, 0, none⟩), vl, .int .i64 256, .int .i64 0, .int .i64 0] W fun e w' => e = .returned (.tuple #[]) ∧ ∃ vb', CdV w' B g (w.heap.size + 1) vb' vl vd (cPut l1 256 0 0 x) ∧ FrC g (w.heap.size + 1) vb1 vb' W w' ∧ Below B W w') := Lib.hid (fun W vb1 x hc hf hl => putCP hc vl l1 (HT1.out.next hf) 256 0 0 (by decide) (by omega) (by omega))
    clear HT1 HT2 hok
    go_wp2
    go_loopg [29] (ops.length + 1) (fun gk iv wr => ∃ (k : Nat) (vb1 : Value), iv = .int .i64 k ∧ k ≤ ops.length ∧ CdV wr B g (w.heap.size + 1) vb1 vl vd (cOps l1 l2 (ops.take k) (0, N, L)) ∧ FrC g (w.heap.size + 1) vb vb1 w5 wr ∧ Below B w wr ∧ gk = ops.length + 1 - k)
    case atStart => exact ⟨0, vb, rfl, Nat.zero_le _, HC5.out, FrC.refl _ _ _ _, HB5.out, rfl⟩
    case round =>
      clear HC5 HB5 HP5 q2 hq2
      obtain ⟨k, vb1, rfl, hk, hc, hf, hbl, rfl⟩ := hrel
      have HC := Lib.hid hc
      have HF := Lib.hid hf
      have HBL := Lib.hid hbl
      have hsz := hbl.size
      have hln := HLN.out k hk
      clear hc hf hbl
      by_cases hlt : k < ops.length
      · obtain ⟨oo', oc', ob', off', hv', hdo, hco⟩ := ops_open (HLO5.out wr vb1 HF.out)
        obtain ⟨rfl, -, rfl⟩ : oo = oo' ∧ ops.length = ops.length ∧ oc = oc' := by
          injection hv' with e1 e2 e3; exact ⟨e1, rfl, e3⟩
        have hix := index_anyK (P := Try.prog) 3 32 75 Try.underlying32 (by kernel_rfl) hdo
        have hix2 := fun W kd => hix W kd (k : Int) (by omega) (by omega)
        simp only [Int.toNat_natCast] at hix2
        have hcc := hco k hlt
        have hbb := hdo.hblk (by omega)
        have HTK2 := Lib.hid (HTK.out k hlt)
        have hal := below_alloc wr (.cells #[.int .u8 (ops[k].lit : Nat), .int .i64 ops[k].len, .int .i64 ops[k].dist] 75)
        have HQ := Lib.hid (HQC.out _ _ _ ops[k] (HC.out.up hal) (HF.out.below hal) (HOKS.out k hlt) hln)
        have HF6 := Lib.hid (HF.out.below hal)
        have HB6 := Lib.hid (HBL.out.trans (hal.mono (Nat.le_trans hBw hsz)))
        generalize ops[k] = o at *
        obtain ⟨ol, on, od⟩ := o
        simp only at HQ HF6 HB6
        have HC3 : Hid (∀ c, c < 3 → wr.cell? ⟨ob', off' + k * 3 + c, none⟩ = some ((#[.int .u8 (ol : Nat), .int .i64 on, .int .i64 od] : Array Value).getD c undef)) := Lib.hid (fun c hc => by
          rw [hcc c hc]
          match c, hc with
          | 0, _ => rfl
          | 1, _ => rfl
          | 2, _ => rfl)
        clear hco hix hdo hv' hcc HTK HLN HOKS HQC HPC hal HC
        go_wp2_with (first
          | (refine wpList_load_cells rfl 75 _ rfl ob' (off' + k * 3) 3 rfl #[.int .u8 (ol : Nat), .int .i64 on, .int .i64 od] _ HC3.out rfl Try.underlying75 rfl (by kernel_rfl) ?_)
          | (go_at_call 72; (with_reducible refine HQ.out.mono ?_); rintro e w6 ⟨rfl, vb6, hq1, hq2, hq3⟩; have HR1 := Lib.hid hq1; have HR2 := Lib.hid hq2; have HR3 := Lib.hid hq3; clear hq1 hq2 hq3))
        go_roundg (ops.length + 1 - (k + 1))
        case measure => omega
        case rel => exact ⟨k + 1, vb6, by go_num, by omega, by rw [HTK2.out]; exact HR1.out, HF6.out.trans HR2.out, HB6.out.trans HR3.out, rfl⟩
      · obtain rfl : k = ops.length := by omega
        have HX := Lib.hid (HPC.out _ _ _ HC.out HF.out hln)
        rw [List.take_length] at HX
        have HYB : Hid (cPut l1 256 0 0 (cOps l1 l2 ops (0, N, L)) = ya) := Lib.hid HYA.out.symm
        rw [HYB.out] at HX
        have hcl : wr.cell? ⟨w.heap.size + 1, 1, none⟩ = some vl := HC.out.cd.cell (by simp)
        have hgc := HC.out.cd.blk.2
        clear hlt HTK HLN HOKS HQC HPC HYB HC
        go_wp2_with (go_at_call 73; (with_reducible refine HX.out.mono ?_); rintro e w6 ⟨rfl, vb6, hq1, hq2, hq3⟩; have HR1 := Lib.hid hq1; have HR2 := Lib.hid hq2; have HR3 := Lib.hid hq3; have c63 : w6.cell? ⟨w.heap.size + 1, 3, none⟩ = some (.int .i64 (ya.1 : Nat)) := hq1.cd.cell (by simp); have hg6 := hq1.cd.blk.2; clear hq1 hq2 hq3)
        go_ret
        have hfr := (HF5.out.trans HF.out).trans HR2.out
        refine ⟨rfl, vb6, HR1.out.wr, HBL.out.trans HR3.out, ⟨fun q hq h1 h2 => hfr.1 q hq h1 (by omega) h2, hfr.2⟩⟩
  · rw [if_neg hk, if_neg hk] at HYA
    have hki : (kd == 1) = false := by simpa using hk
    have HLO5 := HLOW
    have HC5 := HCV
    have HF5 := HF2
    have HB5 := HB2
    have HP5 := HPT
    have HT1 := HST1
    have HT2 := HST2
    clear hk HLOW HCV HF2 HB2 HPT HST1 HST2
    go_enter Try.func45, Try.ntmps45
    go_upto_region 1 with fail
    rw [← HW1.out]
    go_upto_region 2 with fail
    rw [← HW2.out, HS1.out]
    go_upto_region 4 with fail
    clear p0 p3 p4 hp1 q0
    generalize w2 = w5 at *
    obtain ⟨l1, hl1⟩ : ∃ l1, l1 = lits := ⟨_, rfl⟩
    obtain ⟨l2, hl2⟩ : ∃ l2, l2 = dists := ⟨_, rfl⟩
    rw [← hl1] at HYA
    rw [← hl2] at HYA
    obtain ⟨vl, hvl⟩ : ∃ vl, vl = Value.slice o1 lits.length c1 := ⟨_, rfl⟩
    obtain ⟨vd, hvd⟩ : ∃ vd, vd = Value.slice o2 dists.length c2 := ⟨_, rfl⟩
    rw [← hvl, ← hl1] at HT1
    rw [← hvd, ← hl2] at HT2
    rw [← hvl, ← hvd] at HC5
    clear hl1 hl2 hvl hvd
    have HTK : Hid (∀ k, (hk : k < ops.length) → cOps l1 l2 (ops.take (k + 1)) (0, N, L) = cOp l1 l2 ops[k] (cOps l1 l2 (ops.take k) (0, N, L))) := Lib.hid (fun k hk => by rw [List.take_succ_eq_append_getElem hk, cOps_snoc])
    have HLN : Hid (∀ k, k ≤ ops.length → (cOps l1 l2 (ops.take k) (0, N, L)).2.2 ≤ 800000000) := Lib.hid (fun k hk => by
      have := (cOps_len l1 l2 (ops.take k) (0, N, L)).2
      rw [List.length_take] at this
      have h2 : min k ops.length ≤ ops.length := Nat.min_le_right _ _
      have h3 : 48 * min k ops.length ≤ 48 * ops.length := Nat.mul_le_mul_left _ h2
      simp only at this
      omega)
    have HOKS : Hid (∀ k, (hk : k < ops.length) → OpOk ops[k]) := Lib.hid (fun k hk => hok _ (List.getElem_mem hk))
    have HQC : Hid (∀ (W : World) (vb1 : Value) (x : Nat × Nat × Nat) (o : OpN), CdV W B g (w.heap.size + 1) vb1 vl vd x → FrC g (w.heap.size + 1) vb vb1 w5 W → OpOk o → x.2.2 ≤ 800000000 → Calls Try.prog 72 #[.pointer (some ⟨w.heap.size + 1, 0, none⟩), .agg #[.int .u8 o.lit, .int .i64 o.len, .int .i64 o.dist]] W fun e w' => e = .returned (.tuple #[]) ∧ ∃ vb', CdV w' B g (w.heap.size + 1) vb' vl vd (cOp l1 l2 o x) ∧ FrC g (w.heap.size + 1) vb1 vb' W w' ∧ Below B W w') := Lib.hid (fun W vb1 x o hc hf ho hl => opCP hc l1 l2 (HT1.out.next hf) (HT2.out.next hf) o ho.lit ho.n1 ho.n2 ho.d1 ho.d2 (by omega))
    have HPC : Hid (∀ (W : World) (vb1 : Value) (x : Nat × Nat × Nat), CdV W B g (w.heap.size + 1) vb1 vl vd x → FrC g (w.heap.size + 1) vb vb1 w5 W → x.2.2 ≤ 800000000 → Calls Try.prog 73 #[.pointer (some ⟨w.heap.size + 1, 0, none⟩), vl, .int .i64 256, .int .i64 0, .int .i64 0] W fun e w' => e = .returned (.tuple #[]) ∧ ∃ vb', CdV w' B g (w.heap.size + 1) vb' vl vd (cPut l1 256 0 0 x) ∧ FrC g (w.heap.size + 1) vb1 vb' W w' ∧ Below B W w') := Lib.hid (fun W vb1 x hc hf hl => putCP hc vl l1 (HT1.out.next hf) 256 0 0 (by decide) (by omega) (by omega))
    clear HT1 HT2 hok
    go_wp2
    go_loopg [29] (ops.length + 1) (fun gk iv wr => ∃ (k : Nat) (vb1 : Value), iv = .int .i64 k ∧ k ≤ ops.length ∧ CdV wr B g (w.heap.size + 1) vb1 vl vd (cOps l1 l2 (ops.take k) (0, N, L)) ∧ FrC g (w.heap.size + 1) vb vb1 w5 wr ∧ Below B w wr ∧ gk = ops.length + 1 - k)
    case atStart => exact ⟨0, vb, rfl, Nat.zero_le _, HC5.out, FrC.refl _ _ _ _, HB5.out, rfl⟩
    case round =>
      clear HC5 HB5 HP5 q2 hq2
      obtain ⟨k, vb1, rfl, hk, hc, hf, hbl, rfl⟩ := hrel
      have HC := Lib.hid hc
      have HF := Lib.hid hf
      have HBL := Lib.hid hbl
      have hsz := hbl.size
      have hln := HLN.out k hk
      clear hc hf hbl
      by_cases hlt : k < ops.length
      · obtain ⟨oo', oc', ob', off', hv', hdo, hco⟩ := ops_open (HLO5.out wr vb1 HF.out)
        obtain ⟨rfl, -, rfl⟩ : oo = oo' ∧ ops.length = ops.length ∧ oc = oc' := by
          injection hv' with e1 e2 e3; exact ⟨e1, rfl, e3⟩
        have hix := index_anyK (P := Try.prog) 3 32 75 Try.underlying32 (by kernel_rfl) hdo
        have hix2 := fun W kd => hix W kd (k : Int) (by omega) (by omega)
        simp only [Int.toNat_natCast] at hix2
        have hcc := hco k hlt
        have hbb := hdo.hblk (by omega)
        have HTK2 := Lib.hid (HTK.out k hlt)
        have hal := below_alloc wr (.cells #[.int .u8 (ops[k].lit : Nat), .int .i64 ops[k].len, .int .i64 ops[k].dist] 75)
        have HQ := Lib.hid (HQC.out _ _ _ ops[k] (HC.out.up hal) (HF.out.below hal) (HOKS.out k hlt) hln)
        have HF6 := Lib.hid (HF.out.below hal)
        have HB6 := Lib.hid (HBL.out.trans (hal.mono (Nat.le_trans hBw hsz)))
        generalize ops[k] = o at *
        obtain ⟨ol, on, od⟩ := o
        simp only at HQ HF6 HB6
        have HC3 : Hid (∀ c, c < 3 → wr.cell? ⟨ob', off' + k * 3 + c, none⟩ = some ((#[.int .u8 (ol : Nat), .int .i64 on, .int .i64 od] : Array Value).getD c undef)) := Lib.hid (fun c hc => by
          rw [hcc c hc]
          match c, hc with
          | 0, _ => rfl
          | 1, _ => rfl
          | 2, _ => rfl)
        clear hco hix hdo hv' hcc HTK HLN HOKS HQC HPC hal HC
        go_wp2_with (first
          | (refine wpList_load_cells rfl 75 _ rfl ob' (off' + k * 3) 3 rfl #[.int .u8 (ol : Nat), .int .i64 on, .int .i64 od] _ HC3.out rfl Try.underlying75 rfl (by kernel_rfl) ?_)
          | (go_at_call 72; (with_reducible refine HQ.out.mono ?_); rintro e w6 ⟨rfl, vb6, hq1, hq2, hq3⟩; have HR1 := Lib.hid hq1; have HR2 := Lib.hid hq2; have HR3 := Lib.hid hq3; clear hq1 hq2 hq3))
        go_roundg (ops.length + 1 - (k + 1))
        case measure => omega
        case rel => exact ⟨k + 1, vb6, by go_num, by omega, by rw [HTK2.out]; exact HR1.out, HF6.out.trans HR2.out, HB6.out.trans HR3.out, rfl⟩
      · obtain rfl : k = ops.length := by omega
        have HX := Lib.hid (HPC.out _ _ _ HC.out HF.out hln)
        rw [List.take_length] at HX
        have HYB : Hid (cPut l1 256 0 0 (cOps l1 l2 ops (0, N, L)) = ya) := Lib.hid HYA.out.symm
        rw [HYB.out] at HX
        have hcl : wr.cell? ⟨w.heap.size + 1, 1, none⟩ = some vl := HC.out.cd.cell (by simp)
        have hgc := HC.out.cd.blk.2
        clear hlt HTK HLN HOKS HQC HPC HYB HC
        go_wp2_with (go_at_call 73; (with_reducible refine HX.out.mono ?_); rintro e w6 ⟨rfl, vb6, hq1, hq2, hq3⟩; have HR1 := Lib.hid hq1; have HR2 := Lib.hid hq2; have HR3 := Lib.hid hq3; have c63 : w6.cell? ⟨w.heap.size + 1, 3, none⟩ = some (.int .i64 (ya.1 : Nat)) := hq1.cd.cell (by simp); have hg6 := hq1.cd.blk.2; clear hq1 hq2 hq3)
        go_ret
        have hfr := (HF5.out.trans HF.out).trans HR2.out
        refine ⟨rfl, vb6, HR1.out.wr, HBL.out.trans HR3.out, ⟨fun q hq h1 h2 => hfr.1 q hq h1 (by omega) h2, hfr.2⟩⟩
end Go.Cm

/- Parts as blocks, in plain Lean: the bits, their number, what is wrong. Conditions: as each says. -/
namespace Go.Cm
open Go.RowKit Go.Proofs

/-- a part's block, behind bits -/
def encP (n i : Nat) (p : PtN) (st : Nat × Nat) : Nat × Nat × Nat :=
  if mayI p.kind p.text.size p.lits p.dists ≠ 0 then (mayI p.kind p.text.size p.lits p.dists, st)
  else if p.kind = 0 then (0, bytS (bys p.text) (alignW (wrI (decide (i + 1 = n)) p.kind p.text.size p.lits p.dists st)))
  else cAll (litsN p) (distsN p) p.ops (wrI (decide (i + 1 = n)) p.kind p.text.size p.lits p.dists st)
/-- .. so many parts' -/
def encK (l : List PtN) : Nat → Nat × Nat × Nat
  | 0 => (0, 0, 0)
  | k + 1 => if (encK l k).1 ≠ 0 then encK l k else encP l.length k (l.getD k zPt) (encK l k).2
theorem encK_next {l : List PtN} {k : Nat} (h : (encK l k).1 = 0) : encK l (k + 1) = encP l.length k (l.getD k zPt) (encK l k).2 := by
  show (if (encK l k).1 ≠ 0 then encK l k else _) = _
  rw [if_neg (by omega)]
theorem encK_stop {l : List PtN} {k : Nat} (h : (encK l k).1 ≠ 0) : ∀ m, encK l (k + m) = encK l k
  | 0 => rfl
  | m + 1 => by
    show (if (encK l (k + m)).1 ≠ 0 then encK l (k + m) else _) = _
    rw [encK_stop h m, if_pos h]
/-- the bytes of all blocks, or what is wrong -/
def encR (l : List PtN) : Nat × Byts :=
  if (textOf 10 17 l).1 ≠ 0 then ((textOf 10 17 l).1, [])
  else if (encK l l.length).1 ≠ 0 then ((encK l l.length).1, [])
  else (0, textN (encK l l.length).2.1 (encK l l.length).2.2)
/-- parts that are not too long -/
structure PtSm (p : PtN) : Prop where
  ops : p.ops.length ≤ 1000000
  text : p.text.size ≤ 1000000
theorem wrI_add {f : Bool} {k z : Int} {l1 l2 : List Int} {st : Nat × Nat} (hm : mayI k z l1 l2 = 0) : (wrI f k z l1 l2 st).2 ≤ st.2 + 1400 := by
  unfold wrI
  by_cases k0 : k = 0
  · rw [if_pos k0, putS_len]
    have h1 := putS_len [(finN f, 1), (0, 2)] st
    have e : (alignW (putS [(finN f, 1), (0, 2)] st)).2 = alignN (putS [(finN f, 1), (0, 2)] st).2 := rfl
    rw [e, h1]
    simp only [List.map_cons, List.map_nil, List.sum_cons, List.sum_nil]
    unfold alignN
    omega
  · rw [if_neg k0]
    by_cases k1 : k = 1
    · rw [if_pos k1, putS_len]
      simp only [List.map_cons, List.map_nil, List.sum_cons, List.sum_nil]
      omega
    · rw [if_neg k1]
      have hk : k = 2 := by
        unfold mayI at hm
        rw [if_neg k0, if_neg k1] at hm
        apply Classical.byContradiction; intro hn
        rw [if_neg hn] at hm
        cases hm
      subst hk
      obtain ⟨m1, m2, m3, m4, -⟩ := mayI_dyn hm
      unfold dynS
      rw [putS_append, putS_append, putS_append, codS_len, codS_len, putS_len ordS, putS_len (lenS _ _), putS_len [(finN f, 1), (2, 2)]]
      have e1 : (ordS.map Prod.snd).sum = 57 := by decide
      rw [e1]
      unfold lenS
      simp only [List.map_cons, List.map_nil, List.sum_cons, List.sum_nil, List.length_map]
      omega
theorem encP_len (n i : Nat) (p : PtN) (st : Nat × Nat) : (encP n i p st).2.2 ≤ st.2 + 1500 + 8 * p.text.size + 48 * p.ops.length := by
  unfold encP
  by_cases hm : mayI p.kind p.text.size p.lits p.dists ≠ 0
  · rw [if_pos hm]; simp only; omega
  · rw [if_neg hm]
    have hw := wrI_add (f := decide (i + 1 = n)) (st := st) (show mayI p.kind p.text.size p.lits p.dists = 0 by omega)
    generalize wrI (decide (i + 1 = n)) p.kind p.text.size p.lits p.dists st = s1 at *
    by_cases hk : p.kind = 0
    · rw [if_pos hk]
      simp only [bytS_len, bys_len]
      unfold alignW alignN
      simp only
      omega
    · rw [if_neg hk]
      unfold cAll
      have h1 := (cOps_len (litsN p) (distsN p) p.ops (0, s1)).2
      have h2 := (cPut_len (litsN p) 256 0 0 (cOps (litsN p) (distsN p) p.ops (0, s1))).2
      simp only at h1
      omega
theorem encK_len {l : List PtN} {M : Nat} (h : ∀ p ∈ l, 1500 + 8 * p.text.size + 48 * p.ops.length ≤ M) : ∀ k, k ≤ l.length → (encK l k).2.2 ≤ k * M
  | 0, _ => Nat.zero_le _
  | k + 1, hk => by
    have ih := encK_len h k (by omega)
    show (if (encK l k).1 ≠ 0 then encK l k else encP l.length k (l.getD k zPt) (encK l k).2).2.2 ≤ _
    rw [Nat.succ_mul]
    split
    · omega
    · have h1 := encP_len l.length k (l.getD k zPt) (encK l k).2
      have h2 : l.getD k zPt = l[k] := by simp [List.getD, show k < l.length by omega]
      have h3 := h _ (List.getElem_mem (show k < l.length by omega))
      rw [h2] at h1 ⊢
      omega
end Go.Cm

/- What was written is read as it was, whatever stands behind it: heads, symbols, further bits. Conditions: as each says. -/
namespace Go.Cm

/-- bits behind bits -/
structure Grow (st st' : Nat × Nat) : Prop where
  lt : st'.1 < 2 ^ st'.2
  low : st'.1 % 2 ^ st.2 = st.1
  le : st.2 ≤ st'.2
theorem Grow.refl {st : Nat × Nat} (h : st.1 < 2 ^ st.2) : Grow st st := ⟨h, Nat.mod_eq_of_lt h, Nat.le_refl _⟩
theorem Grow.trans {a b c : Nat × Nat} (h : Grow a b) (k : Grow b c) : Grow a c := ⟨k.lt, by rw [mod_low k.low h.le, h.low], Nat.le_trans h.le k.le⟩
/-- the first bits of N -/
structure Pre (N T : Nat) (st : Nat × Nat) : Prop where
  low : N % 2 ^ st.2 = st.1
  le : st.2 ≤ T
theorem Pre.of {N T : Nat} {a b : Nat × Nat} (h : Pre N T b) (g : Grow a b) : Pre N T a := ⟨by rw [mod_low h.low g.le, g.low], Nat.le_trans g.le h.le⟩
theorem grow_putS {xs : List (Nat × Nat)} {st : Nat × Nat} (h : st.1 < 2 ^ st.2) (hx : ∀ x ∈ xs, x.1 < 2 ^ x.2) : Grow st (putS xs st) := by
  obtain ⟨a, b, c⟩ := putS_mod xs st h hx
  exact ⟨a, b, c⟩
theorem grow_put {st : Nat × Nat} {v n : Nat} (h : st.1 < 2 ^ st.2) (hv : v < 2 ^ n) : Grow st (st.1 + v * 2 ^ st.2, st.2 + n) :=
  grow_putS (xs := [(v, n)]) h (by simpa using hv)
theorem grow_align {st : Nat × Nat} (h : st.1 < 2 ^ st.2) : Grow st (alignW st) :=
  ⟨Nat.lt_of_lt_of_le h (Nat.pow_le_pow_right (by decide) (align_ge st.2).1), Nat.mod_eq_of_lt h, (align_ge st.2).1⟩
theorem val_back {N T : Nat} {st : Nat × Nat} {v n : Nat} (h : st.1 < 2 ^ st.2) (hv : v < 2 ^ n) (hp : Pre N T (st.1 + v * 2 ^ st.2, st.2 + n)) : valN N st.2 n = v := by
  have := sees_put N T [(v, n)] st h (by simpa using hv) hp.low hp.le
  exact this.1
theorem bits_back {N T : Nat} {st : Nat × Nat} {v n : Nat} (h : st.1 < 2 ^ st.2) (hv : v < 2 ^ n) (hp : Pre N T (st.1 + v * 2 ^ st.2, st.2 + n)) : bitsA N T st.2 n = (v, 0, st.2 + n) := by
  have h1 := val_back h hv hp
  have h2 := hp.le
  unfold bitsA
  rw [if_pos h2, h1]
/-- a head, whatever stands behind it -/
theorem head_back2 {f : Bool} {k z : Int} {l1 l2 : List Int} {st : Nat × Nat} {N T : Nat} (h0 : st.1 < 2 ^ st.2) (hm : mayI k z l1 l2 = 0) :
    Grow st (wrI f k z l1 l2 st) ∧ (Pre N T (wrI f k z l1 l2 st) → headF N T st.2 = (backH f k z l1 l2, 0, (wrI f k z l1 l2 st).2)) := by
  have hb : ∀ k, k < 4 → ∀ x ∈ [(finN f, 1), (k, 2)], x.1 < 2 ^ x.2 := fun k hk x hx => by
    simp only [List.mem_cons, List.not_mem_nil, or_false] at hx
    rcases hx with rfl | rfl
    · exact finN_lt f
    · exact hk
  unfold wrI backH at *
  by_cases k0 : k = 0
  · subst k0
    simp only [if_true] at *
    have g1 := grow_putS h0 (hb 0 (by decide))
    have e3 : (putS [(finN f, 1), (0, 2)] st).2 = st.2 + 3 := by rw [putS_len]; rfl
    have hs0 := fun N hN hT => sees_put N T [(finN f, 1), (0, 2)] st h0 (hb 0 (by decide)) hN hT
    generalize putS [(finN f, 1), (0, 2)] st = s1 at *
    have hz : z.toNat ≤ 65535 := by
      unfold mayI at hm
      rw [if_pos rfl] at hm
      by_cases c : z < 0 ∨ 65535 < z
      · rw [if_pos c] at hm; cases hm
      · omega
    generalize z.toNat = zn at *
    have hal := align_ge s1.2
    have hx : ∀ x ∈ [(zn, 16), (65535 - zn, 16)], x.1 < 2 ^ x.2 := fun x hx => by
      simp only [List.mem_cons, List.not_mem_nil, or_false] at hx
      rcases hx with rfl | rfl
      · show zn < 65536; omega
      · show 65535 - zn < 65536; omega
    have g2 := grow_align g1.lt
    have g3 := grow_putS g2.lt hx
    have e32 : (putS [(zn, 16), (65535 - zn, 16)] (alignW s1)).2 = alignN s1.2 + 32 := by rw [putS_len]; rfl
    have hs2 := fun hN hT => sees_put N T [(zn, 16), (65535 - zn, 16)] (alignW s1) g2.lt hx hN hT
    generalize putS [(zn, 16), (65535 - zn, 16)] (alignW s1) = s2 at *
    refine ⟨(g1.trans g2).trans g3, fun hp => ?_⟩
    have p1 := hp.of (g2.trans g3)
    have hs1 := hs0 N p1.low p1.le
    rw [head_two hs1]
    have hs2' : Sees N T [(zn, 16), (65535 - zn, 16)] (alignN (st.2 + 3)) := by rw [← e3]; exact hs2 hp.low hp.le
    unfold kindN storedN
    rw [if_neg (by simp), if_pos rfl]
    have hq : 65535 - zn + zn = 65535 := by omega
    simp only [xb_sees hs2', xb_sees hs2'.2.2, hq, if_true, ne_eq, not_true_eq_false, if_false]
    rw [e32, e3]
  · rw [if_neg k0] at *
    by_cases k1 : k = 1
    · subst k1
      simp only [if_true] at *
      have g1 := grow_putS h0 (hb 1 (by decide))
      have e3 : (putS [(finN f, 1), (1, 2)] st).2 = st.2 + 3 := by rw [putS_len]; rfl
      refine ⟨g1, fun hp => ?_⟩
      have hs := sees_put N T [(finN f, 1), (1, 2)] st h0 (hb 1 (by decide)) hp.low hp.le
      rw [head_two hs, e3]
      rfl
    · rw [if_neg k1] at *
      have hk : k = 2 := by
        unfold mayI at hm
        rw [if_neg k0, if_neg k1] at hm
        apply Classical.byContradiction; intro hn
        rw [if_neg hn] at hm
        cases hm
      subst hk
      obtain ⟨m1, m2, m3, m4, q1, q2, m5, m6, m7⟩ := mayI_dyn hm
      have hf : fits2 (l1.map Int.toNat) (l2.map Int.toNat) = 0 := by
        rw [q1, q2, fits2_nls] at m7; exact m7
      have g1 : (l1.map Int.toNat).length = l1.length := by simp
      have g2 : (l2.map Int.toNat).length = l2.length := by simp
      generalize l1.map Int.toNat = n1 at *
      generalize l2.map Int.toNat = n2 at *
      have r1 := grow_putS h0 (hb 2 (by decide))
      have e3 : (putS [(finN f, 1), (2, 2)] st).2 = st.2 + 3 := by rw [putS_len]; rfl
      have hs0 := fun N hN hT => sees_put N T [(finN f, 1), (2, 2)] st h0 (hb 2 (by decide)) hN hT
      generalize putS [(finN f, 1), (2, 2)] st = s1 at *
      have hx := dynS_lt (l1 := n1) (l2 := n2) (by omega) (by omega) (by omega) (by omega)
      have r2 := grow_putS r1.lt hx
      have e4 : (putS (dynS n1 n2) s1).2 = s1.2 + (71 + 4 * (n1.length + n2.length)) := by
        rw [putS_len]
        unfold dynS
        rw [List.map_append, List.sum_append, List.map_append, List.sum_append, lenS_snd, ordS_snd, codS_append]
        have : ∀ l : List Nat, ((codS l).map Prod.snd).sum = 4 * l.length := fun l => by
          induction l with
          | nil => rfl
          | cons x l ih => rw [show codS (x :: l) = (turnN x 4, 4) :: codS l from rfl, List.map_cons, List.sum_cons, ih, List.length_cons]; omega
        rw [this, List.length_append]; omega
      have hs2 := fun hN hT => sees_put N T (dynS n1 n2) s1 r1.lt hx hN hT
      generalize putS (dynS n1 n2) s1 = s2 at *
      refine ⟨r1.trans r2, fun hp => ?_⟩
      have p1 := hp.of r2
      have hs1 := hs0 N p1.low p1.le
      rw [head_two hs1]
      have hs2' : Sees N T (dynS n1 n2) (st.2 + 3) := by rw [← e3]; exact hs2 hp.low hp.le
      have hd := dyn_back hs2' (by omega) (by omega) (by omega) (by omega) m5 m6
      unfold kindN
      rw [if_neg (by simp), if_neg (by decide), if_neg (by decide), if_pos rfl]
      simp only [hd]
      rw [if_neg (by simp [hf]), e4, e3]
      rfl
/-- a symbol -/
theorem errW_inv {l : List Int} {n : Int} (h : errW l n = 0) : ∃ L : List Nat, ∃ i : Nat, l = nls L ∧ n = (i : Int) ∧ i < L.length ∧ L.getD i 0 ≠ 0 ∧ (∀ x ∈ L, x ≤ 15) ∧ kraftN L ≤ 32768 := by
  have he : errI l = 0 := by
    apply Classical.byContradiction; intro hn
    rw [errW_codes hn] at h; exact hn h
  obtain ⟨L, rfl, -, h15, hk⟩ := errI_zero he
  apply Classical.byContradiction; intro hno
  have h2 : ¬ (0 ≤ n ∧ n < (nls L).length ∧ (nls L).getD n.toNat 0 ≠ 0) := by
    rintro ⟨h1, h2, h3⟩
    rw [nls_length] at h2
    rw [nls_getD] at h3
    exact hno ⟨L, n.toNat, rfl, by omega, by omega, by omega, h15, hk⟩
  rw [errW_arg he h2] at h
  cases h
theorem sym_back {l : List Int} {n : Int} {st : Nat × Nat} {N T : Nat} (h0 : st.1 < 2 ^ st.2) (he : errW l n = 0) :
    Grow st (numW l n st) ∧ (Pre N T (numW l n st) → readF (l.map Int.toNat) (N / 2 ^ st.2) (T - st.2) = (n.toNat, 0, (numW l n st).2 - st.2)) := by
  obtain ⟨L, i, rfl, rfl, hi, hne, h15, hk⟩ := errW_inv he
  have hw : numW (nls L) (i : Int) st = (st.1 + turnN (codeN L i) (L.getD i 0) * 2 ^ st.2, st.2 + L.getD i 0) := by
    unfold numW
    rw [if_pos he, nls_toNat, Int.toNat_natCast, nls_getD, Int.toNat_natCast]
  rw [hw, nls_toNat, Int.toNat_natCast]
  have hc : codeN L i < 2 ^ L.getD i 0 := code_lt h15 hk i hi
  refine ⟨grow_put h0 (turnN_lt _ _), fun hp => ?_⟩
  have hv := val_back h0 (turnN_lt _ _) hp
  have hle := hp.le
  simp only at hle
  refine readF_of (.inl ⟨hi, ⟨hne, ?_⟩, by omega, rfl, by simp⟩)
  rw [← turnN_mod (N / 2 ^ st.2) _ _ (Nat.le_refl _)]
  show codeN L i = turnN (valN N st.2 (L.getD i 0)) (L.getD i 0)
  rw [hv, turnN_turnN _ _ hc]
/-- a symbol with further bits -/
theorem cPut_back {l : List Int} {sym : Int} {bits v : Nat} {st : Nat × Nat} {N T : Nat} (h0 : st.1 < 2 ^ st.2) (hv : v < 2 ^ bits) (he : (cPut l sym bits v (0, st)).1 = 0) :
    errW l sym = 0 ∧ Grow st (cPut l sym bits v (0, st)).2 ∧ (Pre N T (cPut l sym bits v (0, st)).2 → readF (l.map Int.toNat) (N / 2 ^ st.2) (T - st.2) = (sym.toNat, 0, (numW l sym st).2 - st.2) ∧ st.2 ≤ (numW l sym st).2 ∧ bitsA N T (numW l sym st).2 bits = (v, 0, (cPut l sym bits v (0, st)).2.2)) := by
  have hE : errW l sym = 0 := by
    apply Classical.byContradiction; intro hn
    unfold cPut at he
    rw [if_neg (by simp), if_pos hn] at he
    exact hn he
  have hcp : cPut l sym bits v (0, st) = (0, (numW l sym st).1 + v * 2 ^ (numW l sym st).2, (numW l sym st).2 + bits) := by
    unfold cPut
    rw [if_neg (by simp), if_neg (by omega)]
  rw [hcp]
  obtain ⟨g1, r1⟩ := sym_back (N := N) (T := T) h0 hE
  have g2 := grow_put g1.lt hv
  exact ⟨hE, g1.trans g2, fun hp => ⟨r1 (hp.of g2), g1.le, bits_back g1.lt hv hp⟩⟩
end Go.Cm

/- The last bytes of a text, and copies from them; a machine's run to its end, in plain Lean. Conditions: as each says. -/
namespace Go.Cm

def lastK (K : Nat) (l : Byts) : Byts := l.drop (l.length - K)
theorem lastK_len (K : Nat) (l : Byts) : (lastK K l).length = min l.length K := by unfold lastK; rw [List.length_drop]; omega
theorem lastK_all {K : Nat} {l : Byts} (h : l.length ≤ K) : lastK K l = l := by unfold lastK; rw [show l.length - K = 0 by omega, List.drop_zero]
theorem lastK_drop {K : Nat} {l : Byts} {k : Nat} (h : k + K ≤ l.length) : lastK K (l.drop k) = lastK K l := by
  unfold lastK
  rw [List.drop_drop, List.length_drop, show k + (l.length - k - K) = l.length - K by omega]
theorem lastK_app (K : Nat) (x c : Byts) : lastK K (x ++ c) = lastK K (lastK K x ++ c) := by
  by_cases h : x.length ≤ K
  · rw [lastK_all h]
  · have e : lastK K x ++ c = (x ++ c).drop (x.length - K) := by
      unfold lastK
      rw [List.drop_append, show x.length - K - x.length = 0 by omega, List.drop_zero]
    rw [e, lastK_drop (by rw [List.length_append]; omega)]
theorem lastK_at {K : Nat} {l : Byts} {d : Nat} (_h1 : 1 ≤ d) (h2 : d ≤ l.length) (h3 : d ≤ K) : l.getD (l.length - d) 0 = (lastK K l).getD ((lastK K l).length - d) 0 := by
  rw [lastK_len]
  unfold lastK
  simp only [List.getD, List.getElem?_drop]
  rw [show l.length - K + (min l.length K - d) = l.length - d by omega]
def lastN (l : Byts) : Byts := lastK 32768 l
theorem lastN_len (l : Byts) : (lastN l).length = min l.length 32768 := lastK_len _ l
theorem lastN_all {l : Byts} (h : l.length ≤ 32768) : lastN l = l := lastK_all h
theorem lastN_idem (l : Byts) : lastN (lastN l) = lastN l := lastN_all (by rw [lastN_len]; omega)
theorem lastN_drop {l : Byts} {k : Nat} (h : k + 32768 ≤ l.length) : lastN (l.drop k) = lastN l := lastK_drop h
theorem lastN_app (x c : Byts) : lastN (x ++ c) = lastN (lastN x ++ c) := lastK_app _ x c
theorem lastN_app2 {b H : Byts} (h : lastN b = lastN H) (c : Byts) : lastN (b ++ c) = lastN (H ++ c) := by rw [lastN_app b, h, ← lastN_app]
theorem lastN_min {b H : Byts} (h : lastN b = lastN H) : min b.length 32768 = min H.length 32768 := by rw [← lastN_len, ← lastN_len, h]
theorem lastN_at {l : Byts} {d : Nat} (h1 : 1 ≤ d) (h2 : d ≤ l.length) (h3 : d ≤ 32768) : l.getD (l.length - d) 0 = (lastN l).getD ((lastN l).length - d) 0 := lastK_at h1 h2 h3
/-- copies depend on the last bytes alone -/
theorem copy_same {b H : Byts} {d : Nat} (h : lastN b = lastN H) (h1 : 1 ≤ d) (h2 : d ≤ H.length) (h3 : d ≤ 32768) : ∀ k, ∃ c, copyN b d k = b ++ c ∧ copyN H d k = H ++ c ∧ c.length = k
  | 0 => ⟨[], by simp [copyN], by simp [copyN], rfl⟩
  | k + 1 => by
    obtain ⟨c, e1, e2, e3⟩ := copy_same h h1 h2 h3 k
    have hm := lastN_min h
    have hc := lastN_app2 h c
    have q1 : (b ++ c).getD ((b ++ c).length - d) 0 = (H ++ c).getD ((H ++ c).length - d) 0 := by
      have a1 := lastN_at (l := b ++ c) h1 (by rw [List.length_append]; omega) h3
      have a2 := lastN_at (l := H ++ c) h1 (by rw [List.length_append]; omega) h3
      rw [a1, a2, hc]
    refine ⟨c ++ [(b ++ c).getD ((b ++ c).length - d) 0], ?_, ?_, by simp [e3]⟩
    · rw [copyN, e1, List.append_assoc]
    · rw [copyN, e2, q1, List.append_assoc]
theorem copyN_add (b : Byts) (d m : Nat) : ∀ k, copyN b d (m + k) = copyN (copyN b d m) d k
  | 0 => rfl
  | k + 1 => by rw [← Nat.add_assoc, copyN, copyN, copyN_add b d m k]
/-- a piece of a copy -/
theorem copy_piece {x : Byts} {d : Nat} (hd : d ≤ x.length) : ∀ m, m ≤ d → copyN x d m = x ++ (x.drop (x.length - d)).take m
  | 0, _ => by simp [copyN]
  | m + 1, hm => by
    have ih := copy_piece hd m (by omega)
    rw [copyN, ih]
    have hl : ((x.drop (x.length - d)).take m).length = m := by rw [List.length_take, List.length_drop]; omega
    have e : (x ++ (x.drop (x.length - d)).take m).getD ((x ++ (x.drop (x.length - d)).take m).length - d) 0 = x.getD (x.length - d + m) 0 := by
      rw [List.length_append, hl]
      simp only [List.getD]
      rw [List.getElem?_append_left (by omega)]
      congr 2; omega
    rw [e, List.append_assoc]
    refine congrArg (x ++ ·) ?_
    have hlt : m < (x.drop (x.length - d)).length := by rw [List.length_drop]; omega
    rw [List.take_succ_eq_append_getElem hlt, List.getElem_drop]
    simp only [List.getD]
    rw [List.getElem?_eq_getElem (by omega), Option.getD_some]
/-! a run to its end -/
theorem stI_err {N T pre : Nat} {bs : Byts} {z : IS} (h : (stI N T pre bs z).1 ≠ 0) : (stI N T pre bs z).2 = z := by
  unfold stI at h ⊢
  by_cases h0 : z.md = 0
  · rw [if_pos h0] at h ⊢
    unfold headI at h ⊢
    split
    · rfl
    · rename_i hc; rw [if_neg hc] at h; exact absurd rfl h
  rw [if_neg h0] at h ⊢
  by_cases h1 : z.md = 1
  · rw [if_pos h1] at h ⊢
    unfold storI at h ⊢
    split
    · rename_i hc; rw [if_pos hc] at h; exact absurd rfl h
    · rename_i hc
      rw [if_neg hc] at h
      split
      · rfl
      · rename_i hd; rw [if_neg hd] at h; exact absurd rfl h
  rw [if_neg h1] at h ⊢
  by_cases h2 : z.md = 2
  · rw [if_pos h2] at h ⊢
    unfold codI codI2 at h ⊢
    split
    · rfl
    · rename_i hc
      rw [if_neg hc] at h
      split
      · rename_i hd; rw [if_pos hd] at h; exact absurd rfl h
      · rename_i hd
        rw [if_neg hd] at h
        split
        · rename_i he
          rw [if_pos he] at h
          unfold cpyI at h ⊢
          split
          · rfl
          · rename_i hf
            rw [if_neg hf] at h
            unfold cpyI2 at h ⊢
            split
            · rfl
            · rename_i hg
              rw [if_neg hg] at h
              unfold cpyI3 at h ⊢
              split
              · rfl
              · rename_i hh
                rw [if_neg hh] at h
                split
                · rfl
                · rename_i hj; rw [if_neg hj] at h; exact absurd rfl h
        · rename_i he; rw [if_neg he] at h; exact absurd rfl h
  · rw [if_neg h2]
section
variable {N T pre : Nat} {bs : Byts} {z0 : IS}
/-- it goes no further -/
abbrev StopI (y : Nat × IS) : Prop := y.1 ≠ 0 ∨ y.2.md = 3
theorem play_next {k : Nat} (h : ¬ StopI (playI N T pre bs z0 k)) : playI N T pre bs z0 (k + 1) = bigI pre (stI N T pre bs (playI N T pre bs z0 k).2) := if_neg h
theorem play_stop {k : Nat} (h : StopI (playI N T pre bs z0 k)) : ∀ m, playI N T pre bs z0 (k + m) = playI N T pre bs z0 k
  | 0 => rfl
  | m + 1 => by
    show (if StopI (playI N T pre bs z0 (k + m)) then playI N T pre bs z0 (k + m) else _) = _
    rw [play_stop h m, if_pos h]
set_option maxHeartbeats 1000000 in
theorem play_keep (h8 : 8 ∣ T) (hi : IOk T pre z0) : ∀ k, (pre ≤ (playI N T pre bs z0 k).2.h.length ∧ (playI N T pre bs z0 k).2.h.length - pre ≤ 16777216) ∧ ((playI N T pre bs z0 k).1 = 0 → IOk T pre (playI N T pre bs z0 k).2 ∧ (StopI (playI N T pre bs z0 k) ∨ muI T (playI N T pre bs z0 k).2 + k ≤ muI T z0)) ∧ ∃ c, (playI N T pre bs z0 (k + 1)).2.h = (playI N T pre bs z0 k).2.h ++ c := by
  have step : ∀ k, ((pre ≤ (playI N T pre bs z0 k).2.h.length ∧ (playI N T pre bs z0 k).2.h.length - pre ≤ 16777216) ∧ ((playI N T pre bs z0 k).1 = 0 → IOk T pre (playI N T pre bs z0 k).2 ∧ (StopI (playI N T pre bs z0 k) ∨ muI T (playI N T pre bs z0 k).2 + k ≤ muI T z0))) →
      ((pre ≤ (playI N T pre bs z0 (k + 1)).2.h.length ∧ (playI N T pre bs z0 (k + 1)).2.h.length - pre ≤ 16777216) ∧ ((playI N T pre bs z0 (k + 1)).1 = 0 → IOk T pre (playI N T pre bs z0 (k + 1)).2 ∧ (StopI (playI N T pre bs z0 (k + 1)) ∨ muI T (playI N T pre bs z0 (k + 1)).2 + (k + 1) ≤ muI T z0))) ∧ ∃ c, (playI N T pre bs z0 (k + 1)).2.h = (playI N T pre bs z0 k).2.h ++ c := by
    intro k ⟨⟨a1, a2⟩, a3⟩
    by_cases hs : StopI (playI N T pre bs z0 k)
    · have e := play_stop hs 1
      rw [e]
      exact ⟨⟨⟨a1, a2⟩, fun h => ⟨(a3 h).1, .inl hs⟩⟩, [], by simp⟩
    · rw [play_next hs]
      generalize playI N T pre bs z0 k = y at *
      obtain ⟨er, z⟩ := y
      simp only at hs a1 a2 a3 ⊢
      obtain rfl : er = 0 := by omega
      obtain ⟨iok, hmu⟩ := a3 rfl
      have hm3 : z.md ≠ 3 := fun e => hs (.inr e)
      have hmu2 : muI T z + k ≤ muI T z0 := by
        rcases hmu with h | h
        · exact absurd h hs
        · exact h
      by_cases he : (stI N T pre bs z).1 = 0
      · obtain ⟨b1, b2, b3, b4, b5, b6, b7, c, b8, b9⟩ := stI_ok (bs := bs) (pre := pre) h8 iok hm3 he
        unfold bigI
        generalize hM : (16777216 : Nat) = M at *
        rw [if_neg (by rw [he]; exact fun h => h rfl)]
        have hl : (stI N T pre bs z).2.h.length = z.h.length + c.length := by rw [b8, List.length_append]
        by_cases hb : M < (stI N T pre bs z).2.h.length - pre
        · rw [if_pos hb]
          refine ⟨⟨⟨by show pre ≤ (List.take _ _).length; rw [List.length_take]; omega, by show (List.take _ _).length - pre ≤ _; rw [List.length_take]; omega⟩, fun h => by cases h⟩, c.take (pre + M - z.h.length), ?_⟩
          show (stI N T pre bs z).2.h.take (pre + M) = _
          rw [b8, List.take_append, List.take_of_length_le (by omega)]
        · rw [if_neg hb]
          refine ⟨⟨⟨by omega, by omega⟩, fun _ => ⟨⟨b1, b2, b3, b4, b5, b6, by omega, by omega⟩, .inr (by omega)⟩⟩, c, b8⟩
      · have e := stI_err he
        unfold bigI
        rw [if_pos he, e]
        exact ⟨⟨⟨a1, a2⟩, fun h => absurd h he⟩, [], by simp⟩
  have all : ∀ k, ((pre ≤ (playI N T pre bs z0 k).2.h.length ∧ (playI N T pre bs z0 k).2.h.length - pre ≤ 16777216) ∧ ((playI N T pre bs z0 k).1 = 0 → IOk T pre (playI N T pre bs z0 k).2 ∧ (StopI (playI N T pre bs z0 k) ∨ muI T (playI N T pre bs z0 k).2 + k ≤ muI T z0))) := by
    intro k
    induction k with
    | zero => exact ⟨⟨hi.hpre, hi.big⟩, fun _ => ⟨hi, .inr (Nat.le_refl _)⟩⟩
    | succ k ih => exact (step k ih).1
  exact fun k => ⟨(all k).1, (all k).2, (step k (all k)).2⟩
/-- where it ends -/
noncomputable def finI (N T pre : Nat) (bs : Byts) (z0 : IS) : Nat × IS := playI N T pre bs z0 (2 * T + 2)
theorem fin_stop (h8 : 8 ∣ T) (hi : IOk T pre z0) : StopI (finI N T pre bs z0) := by
  apply Classical.byContradiction
  intro hn
  obtain ⟨-, h, -⟩ := play_keep (N := N) (bs := bs) h8 hi (2 * T + 2)
  have he : (playI N T pre bs z0 (2 * T + 2)).1 = 0 := by
    apply Classical.byContradiction
    intro h0; exact hn (.inl h0)
  rcases (h he).2 with h1 | h1
  · exact hn h1
  · have : muI T z0 ≤ 2 * T + 1 := by unfold muI; split <;> omega
    omega
theorem fin_of (h8 : 8 ∣ T) (hi : IOk T pre z0) {k : Nat} (h : StopI (playI N T pre bs z0 k)) : finI N T pre bs z0 = playI N T pre bs z0 k := by
  have hf := fin_stop (N := N) (bs := bs) h8 hi
  unfold finI at hf ⊢
  rcases Nat.le_total k (2 * T + 2) with hle | hle
  · obtain ⟨m, hm⟩ := Nat.exists_eq_add_of_le hle
    rw [hm, play_stop h m]
  · obtain ⟨m, hm⟩ := Nat.exists_eq_add_of_le hle
    rw [hm, play_stop hf m]
theorem play_app (h8 : 8 ∣ T) (hi : IOk T pre z0) (k : Nat) : ∀ m, ∃ c, (playI N T pre bs z0 (k + m)).2.h = (playI N T pre bs z0 k).2.h ++ c
  | 0 => ⟨[], by simp⟩
  | m + 1 => by
    obtain ⟨c, h1⟩ := play_app h8 hi k m
    obtain ⟨-, -, d, h2⟩ := play_keep (N := N) (bs := bs) h8 hi (k + m)
    exact ⟨c ++ d, by rw [← Nat.add_assoc, h2, h1, List.append_assoc]⟩
theorem fin_app (h8 : 8 ∣ T) (hi : IOk T pre z0) (k : Nat) : ∃ c, (finI N T pre bs z0).2.h = (playI N T pre bs z0 k).2.h ++ c := by
  have hf := fin_stop (N := N) (bs := bs) h8 hi
  obtain ⟨c, h1⟩ := play_app (N := N) (bs := bs) h8 hi k (2 * T + 2)
  refine ⟨c, ?_⟩
  rw [← h1, Nat.add_comm]
  unfold finI at hf ⊢
  rw [play_stop hf k]
end
end Go.Cm

/- 'append(s, x)' of an element of several cells, of up to 128 bytes. Conditions: none. -/
namespace Go.Cm
open Go.RowKit Go.Proofs

/-- 'append(s, x)' of one k-cell element x that lies as a slice of one. -/
theorem run_appL {P : Program} {k : Nat} (w : World) (B : Nat) (t ty E : TypeId) (z : Value) (bytes : Nat) (ht : P.underlying t = some (.slice E)) (hinf : (P.info? E).map (fun i => (i.zero, i.size, i.bytes)) = some (some z, k, bytes)) (hz : z.cells.size = k) (hk : 0 < k) (hby : bytes ≤ 128)
    (v : Value) (xs : List (List Value)) (hown : OwnK k w B E v xs) (xv : Value) (news : List (List Value)) (hx : SlK k w xv news) (hnk : ∀ x ∈ news, x.length = k) (h1 : ∀ u ∈ news.flatten, u.oneCell' = true) (hlen : xs.length + news.length ≤ 1000000000) (hB : B ≤ w.heap.size) :
    ∃ v' w', (Builtin.append_ #[t, t] ty #[v, xv]).run P w = .ok v' w' ∧ OwnK k w' B E v' (xs ++ news) ∧ w.grownBy w' v.ownBlock ∧ (∀ q, v'.ownBlock = some q → v.ownBlock = some q ∨ w.heap.size ≤ q) := by
  obtain ⟨i0, hi, hz0, hz1, hz2⟩ : ∃ i0, P.info? E = some i0 ∧ i0.zero = some z ∧ i0.size = k ∧ i0.bytes = bytes := by
    cases hq : P.info? E with
    | none => simp [hq] at hinf
    | some i0 => simp [hq] at hinf; exact ⟨i0, rfl, hinf.1, hinf.2.1, hinf.2.2⟩
  have hl1 : xs.length + news.length ≤ maxLen := by simp only [maxLen]; omega
  have hl2 : (xs.length + news.length) * bytes ≤ 140737488355328 := by
    have := Nat.mul_le_mul hlen hby; omega
  obtain ⟨oa, cx, b, off, rfl, hd, hc⟩ := hx
  obtain ⟨hrow, hsm, hxk⟩ := hown
  have hnewsl : news.flatten.length = news.length * k := flatten_len hnk
  have hall : ∀ x ∈ xs ++ news, x.length = k := fun x hx => by
    rcases List.mem_append.1 hx with h | h
    · exact hxk x h
    · exact hnk x h
  have hlen' : (xs ++ news).length ≤ 140737488351232 := by rw [List.length_append]; omega
  by_cases hn : news = []
  · subst hn
    refine ⟨v, w, ?_, ⟨by simpa using hrow, by simpa using hsm, by simpa using hxk⟩, ⟨rfl, rfl, rfl, Nat.le_refl _, fun _ _ _ => rfl⟩, fun k hk => .inl hk⟩
    rcases hrow.2 with ⟨rfl, hx0⟩ | ⟨g, cap, cur, rfl, _, _, hnc, _⟩
    · cases oa <;> simp [Builtin.append_, run_underlying ht, sizeOf, typeInfo, hi, Builtin.lenOf, Builtin.firstCells, loadCells, loadCellsFrom]
    · cases oa <;> simp [Builtin.append_, run_underlying ht, sizeOf, typeInfo, hi, Builtin.lenOf, Builtin.firstCells, loadCells, loadCellsFrom, hnc, storeCells]
  · have hpos : 0 < news.length := List.length_pos_iff.2 hn
    obtain rfl := hd.hat hpos
    have hnews : ∀ j u, news.flatten[j]? = some u → w.cell? ((⟨b, off, none⟩ : Addr).add j) = some u := fun j u hu => by
      have hj := (List.getElem?_eq_some_iff.1 hu).1
      rw [hnewsl] at hj
      have hdm : j = j / k * k + j % k := by rw [Nat.mul_comm]; exact (Nat.div_add_mod j k).symm
      have hq : j / k < news.length := (Nat.div_lt_iff_lt_mul hk).2 hj
      have hm := Nat.mod_lt j hk
      rw [add_off, hdm, ← Nat.add_assoc, hc (j / k) hq (j % k) hm]
      rw [hdm, flatten_at hnk _ _ hq hm] at hu
      rw [List.getD_eq_getElem?_getD, hu]; rfl
    rcases hrow.2 with ⟨rfl, hx0⟩ | ⟨g, cap, cur, rfl, hbg, hg, hnc, hcm, hcs, htake⟩
    · obtain rfl : xs = [] := List.length_eq_zero_iff.1 hx0
      obtain ⟨v', w', hr, ho, hgr, -⟩ := run_append_own (P := P) w w.heap.size t ty E i0 z k bytes ht hi hz0 hz1 hz2 hz hk (.slice none 0 0) 0 [] (World.ownsRow_nil _ _ _ _) ⟨b, off, none⟩ news.length cx news.flatten hnewsl hnews h1 (by simpa using hl1) (by simpa using hl2) (Nat.le_refl _)
      have hkk := ho.lt
      refine ⟨v', w', hr, ⟨⟨by simpa using hnewsl, ?_⟩, hlen', hall⟩, hgr, fun q hq => .inr (hkk q hq).1⟩
      simp only [Nat.zero_add, List.nil_append] at ho
      rcases ho.2 with ⟨h1, h2⟩ | ⟨g, cap, cur, h1, h2, h3⟩
      · exact .inl ⟨h1, by simpa using h2⟩
      · exact .inr ⟨g, cap, cur, h1, by omega, by simpa using h3⟩
    · by_cases hroom : xs.length + news.length ≤ cap
      · obtain ⟨w', hr, ho, hgr⟩ := run_append_fits (P := P) w B t ty E i0 k ht hi hz1 g xs.length cap xs.flatten ⟨hrow.1, .inr ⟨g, cap, cur, rfl, hbg, hg, hnc, hcm, hcs, htake⟩⟩ ⟨b, off, none⟩ news.length cx news.flatten hnewsl hnews h1 hroom
        exact ⟨_, w', hr, ⟨by rw [List.length_append, List.flatten_append]; exact ho, hlen', hall⟩, hgr, fun k hk => .inl hk⟩
      · have holds : ∀ j u, xs.flatten[j]? = some u → w.cell? ((⟨g, 0, none⟩ : Addr).add j) = some u := World.ownsRow.cells (g := g) hrow rfl
        have hxl : xs.flatten.length = xs.length * k := flatten_len hxk
        have hr := run_append_grow (P := P) w t ty E i0 z ht hi hz0 ⟨g, 0, none⟩ xs.length cap xs.flatten (by rw [hz1]; exact hxl) holds ⟨b, off, none⟩ news.length cx news.flatten (by rw [hz1]; exact hnewsl) hnews (by omega) (by omega) (growslice_fits (by omega) (by rw [hz2]; exact hl2))
        have hge := grownCap_ge w (xs.length + news.length) cap E
        have hcm' : grownCap w (xs.length + news.length) cap E ≤ maxLen := grownCap_le_maxLen w _ cap E hl1
        refine ⟨_, _, hr, ⟨⟨by rw [List.length_append, List.flatten_append, List.length_append, hxl, hnewsl, Nat.add_mul], .inr ⟨w.heap.size, _, _, by rw [List.length_append], hB, heap_alloc_new w.drew _, by rw [List.length_append]; exact hge, hcm', ?_, ?_⟩⟩, hlen', hall⟩, ⟨rfl, rfl, rfl, by simp, fun k hk _ => Below.heap_alloc w.drew _ k hk⟩, fun k hk => .inr (by simp [Value.ownBlock] at hk; omega)⟩
        · simp only [Array.size_append, List.size_toArray, size_zeroCells, hz, hxl, hnewsl, ← Nat.add_mul]
          congr 1; omega
        · simp only [Array.toList_append, List.append_assoc, List.length_append, List.flatten_append]
          rw [← List.append_assoc, Nat.add_mul, ← hxl, ← hnewsl, ← List.length_append]
          exact List.take_left
theorem wpList_appL {P : Program} {ops : Array Oper} {rest : List Oper} {o : Oper} {a : Act} {w : World} {Q : Exit → Act → World → Prop} (k : Nat) (hgd : o.guard = none) (s x : Operand) (t : TypeId)
    (ho : o.op = .call { callee := .builtin .append, args := #[s, x], argTypes := #[t, t] })
    (B E : TypeId) (z : Value) (bytes : Nat) (ht : P.underlying t = some (.slice E)) (hinf : (P.info? E).map (fun i => (i.zero, i.size, i.bytes)) = some (some z, k, bytes)) (hz : z.cells.size = k) (hk : 0 < k) (hby : bytes ≤ 128)
    (v : Value) (xs : List (List Value)) (hs : a.eval s = v) (hown : OwnK k w B E v xs) (xv : Value) (news : List (List Value)) (hxe : a.eval x = xv) (hx : SlK k w xv news) (hnk : ∀ x ∈ news, x.length = k) (h1 : ∀ u ∈ news.flatten, u.oneCell' = true) (hlen : xs.length + news.length ≤ 1000000000) (hB : B ≤ w.heap.size)
    (h : ∀ v' w', OwnK k w' B E v' (xs ++ news) → w.grownBy w' v.ownBlock → (∀ q, v'.ownBlock = some q → v.ownBlock = some q ∨ w.heap.size ≤ q) → wpList P ops Q rest (a.put o.dst v') w') : wpList P ops Q (o :: rest) a w := by
  obtain ⟨v', w', hr, h2, h3, h4⟩ := run_appL (P := P) w B t o.type E z bytes ht hinf hz hk hby v xs hown xv news hx hnk h1 hlen hB
  refine wpList_plain hgd fun K hK => ?_
  unfold Oper.wp execOp
  simp only [ho, resolve, invoke, builtin, Sem.run_bind, Sem.run_pure, Result.andThen_ok, List.map_toArray, List.map_cons, List.map_nil, hs, hxe, hr]
  exact hK _ _ (h v' w' h2 h3 h4)
end Go.Cm

/- A text as parts, in plain Lean; parts of a call's own; a text as bytes. Conditions: as each says. -/
namespace Go.Cm
open Go.RowKit Go.Proofs

/-- the part of a piece -/
def ptAt (i : Nat) (t : Byts) : PtN := if i % 2 = 0 then ⟨0, ⟨t.toArray⟩, [], [], []⟩ else ⟨1, ⟨#[]⟩, opsOf t, [], []⟩
def splitFr (n : Nat) : Nat → Nat → Byts → List PtN
  | 0, _, _ => []
  | f + 1, i, t => if t.drop (min n t.length) = [] then [ptAt i (t.take (min n t.length))] else ptAt i (t.take (min n t.length)) :: splitFr n f (i + 1) (t.drop (min n t.length))
def sizeN (n : Int) : Nat := if n < 1 ∨ 65535 < n then 65535 else n.toNat
def splitN (t : Byts) (n : Int) : List PtN := splitFr (sizeN n) (t.length + 1) 0 t
theorem sizeN_pos (n : Int) : 1 ≤ sizeN n ∧ sizeN n ≤ 65535 := by unfold sizeN; split <;> omega
theorem splitFr_last {n f i : Nat} {t : Byts} (h : t.drop (min n t.length) = []) : splitFr n (f + 1) i t = [ptAt i (t.take (min n t.length))] := if_pos h
theorem splitFr_more {n f i : Nat} {t : Byts} (h : t.drop (min n t.length) ≠ []) : splitFr n (f + 1) i t = ptAt i (t.take (min n t.length)) :: splitFr n f (i + 1) (t.drop (min n t.length)) := if_neg h
/-- a part's cells, its ops in a block beside a row -/
def PtOwn (w : World) (B : Nat) (row : Option Nat) (c : List Value) (p : PtN) : Prop :=
  ∃ vo, c = [.int .i64 p.kind, .string p.text, vo, .slice none 0 0, .slice none 0 0] ∧ OwnK 3 w B 75 vo (p.ops.map opV) ∧ (∀ q, vo.ownBlock = some q → row ≠ some q) ∧ p.lits = [] ∧ p.dists = []
/-- parts of the call's own -/
def PartsOwn (w : World) (B T : Nat) (v : Value) (l : List PtN) : Prop := ∃ cs, OwnK 5 w B T v cs ∧ cs.length = l.length ∧ ∀ i, i < l.length → PtOwn w B v.ownBlock (cs.getD i []) (l.getD i zPt)
theorem PartsOwn.nil (w : World) (B T : Nat) : PartsOwn w B T (.slice none 0 0) [] := ⟨[], OwnK.nil 5 w B T, rfl, fun i hi => absurd hi (Nat.not_lt_zero i)⟩
theorem PtOwn.keep {w w' : World} {B : Nat} {row r2 : Option Nat} {c : List Value} {p : PtN} (h : PtOwn w B row c p) (hg : w.grownBy w' row) (h2 : ∀ q, r2 = some q → row = some q ∨ w.heap.size ≤ q) : PtOwn w' B r2 c p := by
  obtain ⟨vo, hc, ho, hn, h3⟩ := h
  refine ⟨vo, hc, ho.keep hg ?_, fun q hq e => ?_, h3⟩
  · cases hv : vo.ownBlock with
    | none => exact .inl rfl
    | some q => exact .inr (fun e => hn q hv e.symm)
  · rcases h2 q e with h4 | h4
    · exact hn q hq h4
    · have := (ho.lt q hq).2; omega
theorem PartsOwn.up {w w' : World} {B T : Nat} {v : Value} {l : List PtN} (h : PartsOwn w B T v l) (hb : Below w.heap.size w w') : PartsOwn w' B T v l := by
  obtain ⟨cs, h1, h2, h3⟩ := h
  exact ⟨cs, h1.up hb, h2, fun i hi => (h3 i hi).keep (grown_below hb _) (fun q e => .inl e)⟩
theorem PartsOwn.snoc {w w5 : World} {B T : Nat} {v v' : Value} {l : List PtN} {cs : List (List Value)} {c : List Value} {p : PtN} (hl : cs.length = l.length) (h3 : ∀ i, i < l.length → PtOwn w B v.ownBlock (cs.getD i []) (l.getD i zPt)) (hp : PtOwn w B v.ownBlock c p) (ho : OwnK 5 w5 B T v' (cs ++ [c])) (hg : w.grownBy w5 v.ownBlock) (hk : ∀ q, v'.ownBlock = some q → v.ownBlock = some q ∨ w.heap.size ≤ q) : PartsOwn w5 B T v' (l ++ [p]) := by
  refine ⟨cs ++ [c], ho, by simp [hl], fun i hi => ?_⟩
  rw [List.length_append, List.length_singleton] at hi
  rcases Nat.lt_or_ge i l.length with h | h
  · have e1 : (cs ++ [c]).getD i [] = cs.getD i [] := by simp [List.getD, List.getElem?_append_left (show i < cs.length by omega)]
    have e2 : (l ++ [p]).getD i zPt = l.getD i zPt := by simp [List.getD, List.getElem?_append_left h]
    rw [e1, e2]
    exact (h3 i h).keep hg hk
  · obtain rfl : i = l.length := by omega
    have e1 : (cs ++ [c]).getD l.length [] = c := by rw [← hl]; simp [List.getD]
    have e2 : (l ++ [p]).getD l.length zPt = p := by simp [List.getD]
    rw [e1, e2]
    exact hp.keep hg hk
theorem PtOwn.cells {w : World} {B : Nat} {row : Option Nat} {c : List Value} {p : PtN} (h : PtOwn w B row c p) : PtCells w c p := by
  obtain ⟨vo, hc, ho, -, h1, h2⟩ := h
  refine ⟨vo, .slice none 0 0, .slice none 0 0, hc, ho.sl, ?_, ?_⟩
  · rw [h1]; exact Sl.nil w
  · rw [h2]; exact Sl.nil w
theorem PartsOwn.at {w : World} {B T : Nat} {v : Value} {l : List PtN} (h : PartsOwn w B T v l) : PartsAt w v l := by
  obtain ⟨cs, h1, h2, h3⟩ := h
  exact ⟨cs, h1.sl, h2, fun i hi => (h3 i hi).cells⟩
/-- '[]byte(s)' -/
theorem wpList_bytes_of {P : Program} {ops : Array Oper} {rest : List Oper} {o : Oper} {a : Act} {w : World} {Q : Exit → Act → World → Prop} (hgd : o.guard = none) (src dst e : TypeId) (x : Operand) (ho : o.op = .convert src dst x) (hs : P.underlying src = some .string) (hd : P.underlying dst = some (.slice e)) (he : P.underlying e = some (.int .u8)) (s : ByteArray) (hx : a.eval x = .string s) (hsz : s.size ≤ 100000000)
    (h : ∀ v' w', Sl w' v' (bytesV (bys s)) → Below w.heap.size w w' → wpList P ops Q rest (a.put o.dst v') w') : wpList P ops Q (o :: rest) a w := by
  have hr := run_bytes_of_string (P := P) w src dst e s hs hd he
  refine wpList_plain hgd fun K hK => ?_
  unfold Oper.wp execOp
  simp only [ho, hx, Sem.run_bind, Sem.run_pure, Result.andThen_ok, hr]
  refine hK _ _ (h _ _ ?_ ?_)
  · have hl : (bytesV (bys s)).length = s.size := by rw [bytesV_length, bys_len]
    have hmx : s.size ≤ maxLen := by simp only [maxLen]; omega
    refine ⟨some ⟨w.heap.size, 0, none⟩, grownCap w s.size 0 e, w.heap.size, 0, by rw [hl], ⟨fun _ => rfl, by rw [hl]; exact grownCap_ge w s.size 0 e, grownCap_le_maxLen w s.size 0 e hmx, by rw [hl]; omega, fun _ => by simp⟩, fun i hi => ?_⟩
    rw [hl] at hi
    have hg : (w.drew.alloc (.cells (bytesRow s (grownCap w s.size 0 e)) e ((bytesRow s (grownCap w s.size 0 e)).size, (bytesRow s (grownCap w s.size 0 e)).size + 1))).heap[w.heap.size]? = some (.cells (bytesRow s (grownCap w s.size 0 e)) e ((bytesRow s (grownCap w s.size 0 e)).size, (bytesRow s (grownCap w s.size 0 e)).size + 1)) := by
      show (w.heap.push _)[w.heap.size]? = _
      simp
    rw [cell_of_row _ _ _ _ _ _ hg, Nat.zero_add]
    have hi' : i < (bys s).length := by rw [bys_len]; exact hi
    have hi2 : i < s.data.size := hi
    unfold bytesRow
    rw [Array.getElem?_append_left (by simp; exact hi2)]
    simp only [bytesV, List.getD, bys, List.getElem?_map, Array.getElem?_toList, Array.getElem?_map]
    rw [Array.getElem?_eq_getElem hi2]
    rfl
  · exact (below_drewN w 1).trans ((below_alloc w.drew _).mono (Nat.le_refl _))
theorem bys_extract (s : ByteArray) (a b : Nat) : bys (s.extract a b) = ((bys s).drop a).take (b - a) := by
  have : s = ⟨(bys s).toArray⟩ := by cases s; simp [bys]
  conv => lhs; rw [this]
  rw [ByteArray.extract_mk]
  simp [bys]
theorem bys_mk (t : Byts) : bys ⟨t.toArray⟩ = t := by simp [bys]
end Go.Cm
