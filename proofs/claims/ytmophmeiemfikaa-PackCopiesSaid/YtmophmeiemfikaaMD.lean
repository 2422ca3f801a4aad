/- Texts of this claim, joined: walks of small functions and plain facts about them. Conditions: as each says. -/
import Derived.Test.YtmophmeiemfikaaMC
import Derived.Test.YtmophmeiemfikaaRows
import Derived.WalkKit
import Derived.WalkSpells
import Derived.WalkLawsBesides
import Derived.Deep.QuietTactic
import Derived.BigQuiet
import Derived.Lib.Hide
import Derived.Laws.Small
import Derived.Deep.LoopGhost
import Derived.Laws.BitsLemmas
import Derived.Deep.DeepCutAuto
import Derived.Laws.IdiomStrings
/- The walk of the program's text: an op. Conditions: the text is there. -/
namespace Go.Cm
open Go.RowKit Go.Proofs

/-- the text that is made, in block g, its bytes a row from block B on -/
structure TxV (w : World) (B g : Nat) (b : Byts) (vb : Value) : Prop where
  box : Own w g 78 (.slice (some ⟨g, 0, none⟩) 1 1) [vb]
  own : Own w B 5 vb (bytesV b)
  ne : vb.ownBlock ≠ some g
  ge : B ≤ g
def Tx (w : World) (B g : Nat) (b : Byts) : Prop := ∃ vb, TxV w B g b vb
theorem TxV.up {w w' : World} {B g : Nat} {b : Byts} {vb : Value} (h : TxV w B g b vb) (hb : Below w.heap.size w w') : TxV w' B g b vb := ⟨h.box.up hb, h.own.up hb, h.ne, h.ge⟩
theorem Tx.up {w w' : World} {B g : Nat} {b : Byts} (h : Tx w B g b) (hb : Below w.heap.size w w') : Tx w' B g b := by obtain ⟨vb, h⟩ := h; exact ⟨vb, h.up hb⟩
theorem bytesV_getD (l : Byts) (i : Nat) (h : i < l.length) : (bytesV l).getD i undef = .int .u8 ((l.getD i 0).toNat : Nat) := by
  simp [bytesV, List.getD, h]
theorem byte_u8 (l : Nat) (h : l < 256) : bytesV [UInt8.ofNat l] = [.int .u8 (l : Nat)] := by
  simp only [bytesV, List.map_cons, List.map_nil]
  congr 2
  have : (UInt8.ofNat l).toNat = l := by simp [Nat.mod_eq_of_lt h]
  rw [this]
/-- a byte is laid behind the text -/
theorem TxV.push {w0 w w5 : World} {B B0 g : Nat} {b : Byts} {vb v' : Value} {l : Nat} (hl : l < 256) (h : TxV w B g b vb) (hb : Below B w0 w) (hown : Own w5 B 5 v' (bytesV b ++ [.int .u8 (l : Nat)])) (hg : w.grownBy w5 vb.ownBlock) (hk : ∀ k, v'.ownBlock = some k → vb.ownBlock = some k ∨ w.heap.size ≤ k) (hB : B ≤ w.heap.size) (_hB0 : B0 = B) :
    TxV (w5.setCell ⟨g, 0, none⟩ v') B g (b ++ [UInt8.ofNat l]) v' ∧ Below B w0 (w5.setCell ⟨g, 0, none⟩ v') := by
  have hbx := h.box.keep hg (.inr (fun e => h.ne e.symm))
  have hst := hbx.store 0 v'
  have hne : v'.ownBlock ≠ some g := fun e => by
    rcases hk g e with h1 | h1
    · exact h.ne h1
    · have := h.box.blk.2; omega
  refine ⟨⟨by simpa using hst.1, ?_, hne, h.ge⟩, ?_⟩
  · rw [bytesV_append, byte_u8 l hl]
    exact hown.keep hst.2 (.inr hne)
  · exact (below_grown hb hB h.own hg).grown hst.2 (Nat.le_trans hB hg.size) (fun k e => by cases e; exact h.ge)
set_option maxRecDepth 100000 in
set_option maxHeartbeats 4000000 in
theorem doP {w : World} {B g : Nat} {b : Byts} (h : Tx w B g b) (hlen : b.length ≤ 100000000) (l : Nat) (n d : Int) (hl : l < 256) :
    Calls Try.prog 64 #[.pointer (some ⟨g, 0, none⟩), .agg #[.int .u8 l, .int .i64 n, .int .i64 d]] w fun e w' => e = .returned (.int .i64 ((opN 10 b ⟨l, n, d⟩).1 : Nat)) ∧ Tx w' B g (opN 10 b ⟨l, n, d⟩).2 ∧ Below B w w' := by
  obtain ⟨vb, hx⟩ := h
  have hBw : B ≤ w.heap.size := by have := hx.ge; have := hx.box.blk.2; omega
  obtain ⟨w1, hw1⟩ : ∃ w1, w1 = w.alloc (.cells #[.int .u8 (l : Nat), .int .i64 n, .int .i64 d] 75) := ⟨_, rfl⟩
  have hb1 : Below w.heap.size w w1 := by rw [hw1]; exact below_alloc _ _
  have hop := op_box w l n d
  rw [← hw1] at hop
  have HX := Lib.hid (hx.up hb1)
  have HBL := Lib.hid (hb1.mono hBw)
  have HOP := Lib.hid hop
  have HLEN := Lib.hid hlen
  have HLB := Lib.hid hlen
  have hlen2 := hlen
  have hgw := hx.box.blk.2
  have HW1 := Lib.hid hw1
  have c0 : w1.cell? ⟨g, 0, none⟩ = some vb := HX.out.box.cell (by simp)
  have f0 := HX.out.box.free 0
  have hg := HX.out.box.blk.2
  have p0 : w1.cell? ⟨w.heap.size, 0, none⟩ = some (.int .u8 (l : Nat)) := hop.cell (by simp [opV])
  have p1 : w1.cell? ⟨w.heap.size, 1, none⟩ = some (.int .i64 n) := hop.cell (by simp [opV])
  have p2 : w1.cell? ⟨w.heap.size, 2, none⟩ = some (.int .i64 d) := hop.cell (by simp [opV])
  have hp := hop.blk.2
  obtain ⟨ov, cv, gv, hvb, hdv, hgv, hcv, -⟩ := HX.out.own.cases
  rw [bytesV_length] at hvb hdv hgv hcv
  obtain ⟨y, hy⟩ : ∃ y, y = opN 10 b ⟨l, n, d⟩ := ⟨_, rfl⟩
  rw [← hy]
  have HY := Lib.hid hy
  unfold opN at HY
  simp only at HY
  obtain ⟨row, hrow⟩ : ∃ row, row = vb.ownBlock := ⟨_, rfl⟩
  have HROW := Lib.hid hrow
  have hne1 : some g ≠ row := fun e => HX.out.ne (by rw [← hrow, ← e])
  have hne2 : some w.heap.size ≠ row := fun e => by have := (hx.own.lt _ (by rw [← hrow, ← e])).2; omega
  clear hy hx hw1 hb1 hop hlen hrow
  by_cases hn0 : n = 0
  · rw [if_pos hn0] at HY
    subst hn0
    clear hvb hdv hgv hcv
    go_enter Try.func64, Try.ntmps64
    go_upto_region 2 with fail
    rw [← HW1.out]
    have hBg : B ≤ w1.heap.size := by have := HX.out.ge; have := HX.out.box.blk.2; omega
    refine wp_region_tail (fun w' => ∃ x, w' = chg w1 row x) [0,1,2,3,4,5,6] [7,8,9,10] [11] (by kernel_rfl) (by kernel_rfl) (ex_chg (grown_drew _ _)) ?_
    simp only [pick, List.map_cons, List.map_nil, List.getD_cons_zero, List.getD_cons_succ]
    repeat (go_big_quiet_step (fail))
    refine wpQuiet_nil ?_
    (unfold wpAct; go_wp2; refine ⟨ex_chg (grown_below (by repeat (first | exact Below.refl _ _ | assumption | refine b_drewN ?_ _ | refine Below.drew ?_ | refine b_ext' ?_ _ | refine b_alloc' ?_ _)) _), ?_⟩)
    unfold wpAct
    have HXT : Hid (Sl (w1.alloc (.cells #[.int .u8 (l : Nat)] 5)).drew (.slice (some ⟨w1.heap.size, 0, none⟩) 1 1) [.int .u8 (l : Nat)]) := Lib.hid (by
      have h1 := (sl_lit w1 #[.int .u8 (l : Nat)] 5 (by simp)).up (below_drewN _ 1)
      rw [← World.drew_is_drewN] at h1
      simpa using h1)
    have hlW : Below w1.heap.size w1 (w1.alloc (.cells #[.int .u8 (l : Nat)] 5)).drew := (by repeat (first | exact Below.refl _ _ | assumption | refine b_drewN ?_ _ | refine Below.drew ?_ | refine b_ext' ?_ _ | refine b_alloc' ?_ _))
    have HT1 := Lib.hid (HX.out.own.up hlW)
    have HT3 : Hid ((bytesV b).length + 1 ≤ 4294967296) := Lib.hid (by rw [bytesV_length]; have := HLEN.out; omega)
    have HT2 : Hid (∀ u ∈ [Value.int .u8 (l : Nat)], u.oneCell' = true) := Lib.hid (by intro u hu; simp at hu; subst hu; rfl)
    have HT4 : Hid (B ≤ (w1.alloc (.cells #[.int .u8 (l : Nat)] 5)).drew.heap.size) := Lib.hid (Nat.le_trans hBg hlW.size)
    go_wp2_with (at_builtin; refine wpList_app2 rfl (.tmp 13) (.tmp 16) 43 rfl B 5 (.int .u8 0) 1 Try.underlying43 (by kernel_rfl) rfl (by decide) vb (bytesV b) rfl HT1.out (.slice (some ⟨w1.heap.size, 0, none⟩) 1 1) [.int .u8 (l : Nat)] rfl HXT.out HT2.out HT3.out HT4.out ?_; intro v' w5 hown1 hg1 hk1 hc1; rw [← HROW.out] at hg1 hk1 hc1; have HC5 := Lib.hid hc1; clear hc1; have HO1 := Lib.hid hown1; have HG1 := Lib.hid hg1; have HK1 := Lib.hid hk1; clear hown1 hg1 hk1)
    refine ⟨ex_chg (grown_trans (grown_below (by repeat (first | exact Below.refl _ _ | assumption | refine b_drewN ?_ _ | refine Below.drew ?_ | refine b_ext' ?_ _ | refine b_alloc' ?_ _)) _) HG1.out), ?_⟩
    (unfold wpAct; go_wp2; refine ⟨ex_chg (grown_trans (grown_below (by repeat (first | exact Below.refl _ _ | assumption | refine b_drewN ?_ _ | refine Below.drew ?_ | refine b_ext' ?_ _ | refine b_alloc' ?_ _)) _) HG1.out), ?_⟩)
    (unfold wpAct; go_wp2; refine ⟨ex_chg (grown_trans (grown_below (by repeat (first | exact Below.refl _ _ | assumption | refine b_drewN ?_ _ | refine Below.drew ?_ | refine b_ext' ?_ _ | refine b_alloc' ?_ _)) _) HG1.out), ?_⟩)
    unfold wpAct
    have HXW := Lib.hid (HX.out.up hlW)
    have HPU := Lib.hid (TxV.push (B0 := B) hl HXW.out (HBL.out.trans (hlW.mono hBg)) HO1.out (by have h := HG1.out; rw [HROW.out] at h; exact h) (by have h := HK1.out; rw [HROW.out] at h; exact h) HT4.out rfl)
    have hb5 := HXW.out.box.keep HG1.out (.inr (by rw [HROW.out]; exact fun e => HXW.out.ne e.symm))
    have f0 := hb5.free 0
    have c0 : w5.cell? ⟨g, 0, none⟩ = some vb := hb5.cell (by simp)
    have hg := hb5.blk.2
    obtain ⟨o5, k5, g5, hv5, -⟩ := HO1.out.cases
    subst hv5
    generalize (bytesV b ++ [Value.int .u8 (l : Nat)]).length = l5 at *
    clear HC5 hb5 HXW HO1 HG1 HK1 HT1 HT2 HT3 HT4 HXT hlW HX
    unfold wpAct
    go_wp2
    refine ⟨trivial, ?_⟩
    unfold wpAct
    go_wp2
    go_ret
    rw [HY.out]
    exact ⟨rfl, ⟨_, HPU.out.1⟩, HPU.out.2⟩
  · rw [if_neg hn0] at HY
    subst hvb
    have hn0i : (n == 0) = false := by simpa using hn0
    have hm := hdv.len
    by_cases hbad : n < 3 ∨ 258 < n ∨ d < 1 ∨ 32768 < d
    · have hor : decide (n < 3) = true ∨ (decide (n < 3) = false ∧ decide (n > 258) = true) ∨ (decide (n < 3) = false ∧ decide (n > 258) = false ∧ decide (d < 1) = true) ∨ (decide (n < 3) = false ∧ decide (n > 258) = false ∧ decide (d < 1) = false ∧ decide (d > 32768) = true) := by
        simp only [decide_eq_true_eq, decide_eq_false_iff_not]; omega
      rw [if_pos hbad] at HY
      clear hbad hdv hgv hcv hne1 hne2
      rcases hor with h1 | ⟨h1, h2⟩ | ⟨h1, h2, h3⟩ | ⟨h1, h2, h3, h4⟩ <;>
      · go_enter Try.func64, Try.ntmps64
        go_upto_region 4 with fail
        rw [← HW1.out]
        go_wp2
        go_ret
        rw [HY.out]
        exact ⟨rfl, ⟨_, HX.out⟩, HBL.out⟩
    · rw [if_neg hbad] at HY
      have h1 : decide (n < 3) = false := by rw [decide_eq_false_iff_not]; omega
      have h2 : decide (n > 258) = false := by rw [decide_eq_false_iff_not]; omega
      have h3 : decide (d < 1) = false := by rw [decide_eq_false_iff_not]; omega
      have h4 : decide (d > 32768) = false := by rw [decide_eq_false_iff_not]; omega
      obtain ⟨m, rfl⟩ : ∃ m : Nat, n = m := ⟨n.toNat, by omega⟩
      obtain ⟨e, rfl⟩ : ∃ e : Nat, d = e := ⟨d.toNat, by omega⟩
      have hm3 : 3 ≤ m ∧ m ≤ 258 := by omega
      have he1 : 1 ≤ e ∧ e ≤ 32768 := by omega
      clear hbad
      by_cases hfar : (b.length : Int) < e
      · rw [if_pos hfar] at HY
        have h5 : decide ((e : Int) > (b.length : Int)) = true := by rw [decide_eq_true_iff]; omega
        have h6 : b.length < e := by omega
        clear hdv hgv hcv hne1 hne2
        generalize b.length = L at *
        go_enter Try.func64, Try.ntmps64
        go_upto_region 6 with fail
        rw [← HW1.out]
        go_quiet (fail)
        go_wp2
        go_ret
        rw [HY.out]
        exact ⟨rfl, ⟨_, HX.out.up (below_drewN _ _)⟩, HBL.out.trans ((below_drewN _ _).mono (Nat.le_trans hBw (by have := HBL.out.size; exact this)))⟩
      · rw [if_neg hfar] at HY
        simp only [Int.toNat_natCast] at HY
        have h6 : e ≤ b.length := by omega
        have h5 : decide (b.length < e) = false := by rw [decide_eq_false_iff_not]; omega
        have hqg : g < w.heap.size := hgw
        have HOV : Hid ((Value.slice ov b.length cv).ownBlock ≠ some w.heap.size) := Lib.hid (by intro e2; exact hne2 (by rw [HROW.out, e2]))
        have HLQ : Hid (b.length = b.length) := Lib.hid rfl
        have HCP := Lib.hid (fun k => copyN_len b e k)
        obtain ⟨L, hL⟩ : ∃ L, L = b.length := ⟨_, rfl⟩
        rw [← hL] at h5 c0 h6 HCP hlen2
        have HX0 := Lib.hid HX.out
        clear hdv hgv hcv hne1 hne2 HROW hm hL HLQ hfar
        go_enter Try.func64, Try.ntmps64
        go_upto_region 6 with fail
        rw [← HW1.out]
        go_quiet (fail)
        have HXD := Lib.hid (HX.out.up (below_drewN w1 nq))
        have HBD : Hid (Below B w (w1.drewN nq)) := Lib.hid (HBL.out.trans ((below_drewN _ _).mono (Nat.le_trans hBw HBL.out.size)))
        have HOD := Lib.hid (HOP.out.up (below_drewN w1 nq))
        clear HX HBL HOP HX0
        generalize w1.drewN nq = w2 at *
        have p1 : w2.cell? ⟨w.heap.size, 1, none⟩ = some (.int .i64 m) := HOD.out.cell (by simp [opV])
        have hp2 := HOD.out.blk.2
        go_wp2
        go_loopg [50] m (fun gk iv wr => ∃ (k : Nat) (bk : Byts) (vb : Value), iv = .int .i64 k ∧ k ≤ m ∧ Hid (bk = copyN b e k) ∧ TxV wr B g bk vb ∧ Below B w wr ∧ Own wr w.heap.size 75 (.slice (some ⟨w.heap.size, 0, none⟩) 3 3) (opV ⟨l, m, e⟩) ∧ vb.ownBlock ≠ some w.heap.size ∧ gk = m - k)
        case atStart => exact ⟨0, b, _, rfl, Nat.zero_le _, Lib.hid rfl, HXD.out, HBD.out, HOD.out, HOV.out, rfl⟩
        case round =>
          clear HXD HBD HOD HOV
          obtain ⟨k, bk, vb, rfl, hk, HBK, hx, hbl, hop, hvq, rfl⟩ := hrel
          have HX := Lib.hid hx
          have HBL := Lib.hid hbl
          have HOP := Lib.hid hop
          by_cases hlt : k < m
          · have hlti : decide ((k : Int) < (m : Int)) = true := by rw [decide_eq_true_iff]; omega
            have hbl2 : bk.length = L + k := by rw [HBK.out, HCP.out]
            have HBN : Hid (copyN b e (k + 1) = bk ++ [bk.getD (L + k - e) 0]) := Lib.hid (by
              show copyN b e k ++ [(copyN b e k).getD ((copyN b e k).length - e) 0] = _
              rw [← HBK.out, hbl2])
            obtain ⟨ov, cv, gv, hvb, hdv, hgv, hcv, -⟩ := hx.own.cases
            rw [bytesV_length] at hvb hdv hgv hcv
            rw [hbl2] at hvb hdv hgv hcv
            have hix := index_any (P := Try.prog) 43 5 Try.underlying43 (by kernel_rfl) hdv
            have hcell := hcv (L + k - e) (by omega)
            rw [bytesV_getD _ _ (by rw [hbl2]; omega)] at hcell
            have hby : (bk.getD (L + k - e) 0).toNat < 256 := UInt8.toNat_lt _
            have HOF : Hid (UInt8.ofNat (bk.getD (L + k - e) 0).toNat = bk.getD (L + k - e) 0) := Lib.hid (by simp)
            generalize hxx : (bk.getD (L + k - e) 0).toNat = x at *
            have hsub : ((L + k : Nat) : Int) - (e : Int) = ((L + k - e : Nat) : Int) := by omega
            have hix2 := fun W => hix W .i64 ((L + k - e : Nat) : Int) (by omega) (by omega)
            simp only [Int.toNat_natCast, Nat.zero_add] at hix2
            rw [← hsub] at hix2
            have c0 : wr.cell? ⟨g, 0, none⟩ = some vb := hx.box.cell (by simp)
            have f0 := hx.box.free 0
            have hg := hx.box.blk.2
            have p2 : wr.cell? ⟨w.heap.size, 2, none⟩ = some (.int .i64 e) := hop.cell (by simp [opV])
            have hp := hop.blk.2
            have HLEN : Hid (bk.length ≤ 100001000) := Lib.hid (by rw [hbl2]; have := HLB.out; omega)
            have hgvb := hdv.hblk (by omega)
            have hgvr := hgv (by omega)
            have hrow : some gv = vb.ownBlock := hgvr.1.symm
            have hgn : g ≠ gv := fun e => hx.ne (by rw [← hrow, ← e])
            have hqn : w.heap.size ≠ gv := fun e => hvq (by rw [← hrow, ← e])
            have hne2 : some w.heap.size ≠ some gv := fun e => hqn (Option.some.inj e)
            have HROW := Lib.hid hrow
            have HVQ := Lib.hid hvq
            obtain ⟨M, hM⟩ : ∃ M, M = L + k := ⟨_, rfl⟩
            have HMB : Hid (bk.length = M) := Lib.hid (by rw [hbl2, hM])
            have hlt3 : M - e < M := by omega
            have hM2 : M ≤ 100001000 := by omega
            rw [← hM] at hvb hsub hix2 hcell
            subst hvb
            clear hx hbl hop hdv hgv hcv hix hxx hbl2 hrow hvq hM hsub hgvr
            go_upto_region 10 with fail
            have hBg : B ≤ wr.heap.size := by have := HX.out.ge; have := HX.out.box.blk.2; omega
            refine wp_region_tail (fun w' => ∃ x, w' = kept wr gv M x) [0,1,2,3,4,5,6,7,8,9,10,11,12,13,14,15,16,17,18] [19,20,21,22] [23] (by kernel_rfl) (by kernel_rfl) (kept_below (below_drewN _ 1) hgvb) ?_
            simp only [pick, List.map_cons, List.map_nil, List.getD_cons_zero, List.getD_cons_succ]
            repeat (go_big_quiet_step (fail))
            refine wpQuiet_nil ?_
            (unfold wpAct; go_wp2; refine ⟨kept_below (by repeat (first | exact Below.refl _ _ | assumption | refine b_drewN ?_ _ | refine Below.drew ?_ | refine b_ext' ?_ _ | refine b_alloc' ?_ _)) hgvb, ?_⟩)
            unfold wpAct
            have HXT : Hid (Sl (wr.alloc (.cells #[.int .u8 (x : Nat)] 5)).drew (.slice (some ⟨wr.heap.size, 0, none⟩) 1 1) [.int .u8 (x : Nat)]) := Lib.hid (by
              have h1 := (sl_lit wr #[.int .u8 (x : Nat)] 5 (by simp)).up (below_drewN _ 1)
              rw [← World.drew_is_drewN] at h1
              simpa using h1)
            have hlW : Below wr.heap.size wr (wr.alloc (.cells #[.int .u8 (x : Nat)] 5)).drew := (by repeat (first | exact Below.refl _ _ | assumption | refine b_drewN ?_ _ | refine Below.drew ?_ | refine b_ext' ?_ _ | refine b_alloc' ?_ _))
            have HT1 := Lib.hid (HX.out.own.up hlW)
            have HT3 : Hid ((bytesV bk).length + 1 ≤ 4294967296) := Lib.hid (by rw [bytesV_length]; have := HLEN.out; omega)
            have HT2 : Hid (∀ u ∈ [Value.int .u8 (x : Nat)], u.oneCell' = true) := Lib.hid (by intro u hu; simp at hu; subst hu; rfl)
            have HT4 : Hid (B ≤ (wr.alloc (.cells #[.int .u8 (x : Nat)] 5)).drew.heap.size) := Lib.hid (Nat.le_trans hBg hlW.size)
            go_wp2_with (at_builtin; refine wpList_app2 rfl (.tmp 56) (.tmp 71) 43 rfl B 5 (.int .u8 0) 1 Try.underlying43 (by kernel_rfl) rfl (by decide) (.slice ov M cv) (bytesV bk) rfl HT1.out (.slice (some ⟨wr.heap.size, 0, none⟩) 1 1) [.int .u8 (x : Nat)] rfl HXT.out HT2.out HT3.out HT4.out ?_; intro v' w5 hown1 hg1 hk1 hc1; rw [← HROW.out] at hg1 hk1 hc1; have HC5 := Lib.hid hc1; clear hc1; have HO1 := Lib.hid hown1; have HG1 := Lib.hid hg1; have HK1 := Lib.hid hk1; clear hown1 hg1 hk1)
            refine ⟨ex_kept (grown_trans (grown_below (by repeat (first | exact Below.refl _ _ | assumption | refine b_drewN ?_ _ | refine Below.drew ?_ | refine b_ext' ?_ _ | refine b_alloc' ?_ _)) _) HG1.out) (fun o ho => by rw [HC5.out gv o rfl (by rw [bytesV_length]; have := HMB.out; omega)]; exact hlW.cell (p := ⟨gv, o, none⟩) hgvb), ?_⟩
            (unfold wpAct; go_wp2; refine ⟨ex_kept (grown_trans (grown_below (by repeat (first | exact Below.refl _ _ | assumption | refine b_drewN ?_ _ | refine Below.drew ?_ | refine b_ext' ?_ _ | refine b_alloc' ?_ _)) _) HG1.out) (fun o ho => by rw [HC5.out gv o rfl (by rw [bytesV_length]; have := HMB.out; omega)]; exact hlW.cell (p := ⟨gv, o, none⟩) hgvb), ?_⟩)
            (unfold wpAct; go_wp2; refine ⟨ex_kept (grown_trans (grown_below (by repeat (first | exact Below.refl _ _ | assumption | refine b_drewN ?_ _ | refine Below.drew ?_ | refine b_ext' ?_ _ | refine b_alloc' ?_ _)) _) HG1.out) (fun o ho => by rw [HC5.out gv o rfl (by rw [bytesV_length]; have := HMB.out; omega)]; exact hlW.cell (p := ⟨gv, o, none⟩) hgvb), ?_⟩)
            unfold wpAct
            have HXW := Lib.hid (HX.out.up hlW)
            have HPU := Lib.hid (TxV.push (B0 := B) hby HXW.out (HBL.out.trans (hlW.mono hBg)) HO1.out (by have h := HG1.out; rw [HROW.out] at h; exact h) (by have h := HK1.out; rw [HROW.out] at h; exact h) HT4.out rfl)
            have hb5 := HXW.out.box.keep HG1.out (.inr (by rw [HROW.out]; exact fun e => HXW.out.ne e.symm))
            have HOPU : Hid (Own (w5.setCell ⟨g, 0, none⟩ v') w.heap.size 75 (.slice (some ⟨w.heap.size, 0, none⟩) 3 3) (opV ⟨l, m, e⟩)) := Lib.hid (((HOP.out.up hlW).keep HG1.out (.inr (fun e => hne2 e))).keep (hb5.store 0 v').2 (.inr (by intro e; have e2 : some w.heap.size = some g := e; injection e2 with e2; omega)))
            have HNEQ : Hid (v'.ownBlock ≠ some w.heap.size) := Lib.hid (fun e => by
              rcases HK1.out _ e with h | h
              · exact hne2 h.symm
              · have := hlW.size; omega)
            have f0 := hb5.free 0
            have c0 : w5.cell? ⟨g, 0, none⟩ = some (.slice ov M cv) := hb5.cell (by simp)
            have hg := hb5.blk.2
            obtain ⟨o5, k5, g5, hv5, -⟩ := HO1.out.cases
            subst hv5
            generalize (bytesV bk ++ [Value.int .u8 (x : Nat)]).length = l5 at *
            clear HC5 hb5 HXW HO1 HG1 HK1 HT1 HT2 HT3 HT4 HXT hlW HX
            unfold wpAct
            go_wp2
            refine ⟨trivial, ?_⟩
            unfold wpAct
            go_wp2
            go_roundg (m - (k + 1))
            case measure => omega
            case rel => exact ⟨k + 1, bk ++ [UInt8.ofNat x], _, by go_num, by omega, Lib.hid (by rw [HBN.out, HOF.out]), HPU.out.1, HPU.out.2, HOPU.out, HNEQ.out, rfl⟩
          · obtain rfl : k = m := by omega
            clear hlt
            go_wp2
            go_ret
            rw [HY.out, ← HBK.out]
            exact ⟨rfl, ⟨_, HX.out⟩, HBL.out⟩
end Go.Cm

/- 'append(s, text...)': a text behind bytes of one's own. Conditions: none. -/
namespace Go.Cm
open Go.RowKit Go.Proofs

theorem run_firstCells_str {P : Program} (w : World) (k : Nat) (s : ByteArray) : (Builtin.firstCells k s.size (.string s)).run P w = .ok (bytesV s.data.toList).toArray w := by
  unfold Builtin.firstCells
  rw [Sem.run_pure]
  have h : (s.extract 0 s.size) = s := by simp
  rw [h]
  congr 1
  apply Array.ext'
  simp [bytesV]
theorem run_app_str {P : Program} (w : World) (B : Nat) (t u ty E : TypeId) (z : Value) (bytes : Nat) (ht : P.underlying t = some (.slice E)) (hu : P.underlying u = some .string) (hinf : (P.info? E).map (fun i => (i.zero, i.size, i.bytes)) = some (some z, 1, bytes)) (hz : z.cells.size = 1) (hby : bytes ≤ 24)
    (v : Value) (xs : List Value) (hown : Own w B E v xs) (s : ByteArray) (hlen : xs.length + s.size ≤ 4294967296) (hB : B ≤ w.heap.size) :
    ∃ v' w', (Builtin.append_ #[t, u] ty #[v, .string s]).run P w = .ok v' w' ∧ Own w' B E v' (xs ++ bytesV s.data.toList) ∧ w.grownBy w' v.ownBlock ∧ (∀ k, v'.ownBlock = some k → v.ownBlock = some k ∨ w.heap.size ≤ k) := by
  obtain ⟨i, hi, hz0, hz1, hz2⟩ : ∃ i0, P.info? E = some i0 ∧ i0.zero = some z ∧ i0.size = 1 ∧ i0.bytes = bytes := by
    cases hq : P.info? E with
    | none => simp [hq] at hinf
    | some i0 => simp [hq] at hinf; exact ⟨i0, rfl, hinf.1, hinf.2.1, hinf.2.2⟩
  have hnl : (bytesV s.data.toList).length = s.size := by rw [bytesV_length]; simp
  have h1 := bytesV_one s.data.toList
  have hl1 : xs.length + s.size ≤ maxLen := by simp only [maxLen]; omega
  have hl2 : (xs.length + s.size) * bytes ≤ 140737488355328 := by
    have := Nat.mul_le_mul hlen hby; omega
  have hf := fun w' => run_firstCells_str (P := P) w' 1 s
  generalize bytesV s.data.toList = news at *
  rcases hown with ⟨hrow, hsm⟩
  have hxl := hrow.1
  rw [Nat.mul_one] at hxl
  have grown : ∀ (old : Nat), old < xs.length + s.size → ∀ (row : Option Nat),
      (w.drew.alloc (.cells (xs.toArray ++ news.toArray ++ Builtin.zeroCells z.cells (grownCap w (xs.length + s.size) old E - (xs.length + s.size))) E)).ownsRow B E 1
        (.slice (some ⟨w.heap.size, 0, none⟩) (xs.length + s.size) (grownCap w (xs.length + s.size) old E)) (xs.length + s.size) (xs ++ news) ∧
      w.grownBy (w.drew.alloc (.cells (xs.toArray ++ news.toArray ++ Builtin.zeroCells z.cells (grownCap w (xs.length + s.size) old E - (xs.length + s.size))) E)) row := by
    intro old ho row
    have hge := grownCap_ge w (xs.length + s.size) old E
    have hcm : grownCap w (xs.length + s.size) old E ≤ maxLen := grownCap_le_maxLen w (xs.length + s.size) old E hl1
    refine ⟨⟨by simp [hnl], .inr ⟨w.heap.size, _, _, rfl, hB, heap_alloc_new w.drew _, hge, hcm, ?_, ?_⟩⟩, ⟨rfl, rfl, rfl, by simp, fun k hk _ => Below.heap_alloc w.drew _ k hk⟩⟩
    · simp only [Array.size_append, List.size_toArray, size_zeroCells, hz, hnl]
      omega
    · simp only [Array.toList_append, List.append_assoc]
      rw [← List.append_assoc, Nat.mul_one, ← hnl, ← List.length_append]
      exact List.take_left
  have hlen' : (xs ++ news).length ≤ 140737488351232 := by rw [List.length_append, hnl]; omega
  rcases hrow.2 with ⟨rfl, hx0⟩ | ⟨g, cap, cur, rfl, hbg, hg, hnc, hcm, hcs, htake⟩
  · obtain rfl : xs = [] := List.length_eq_zero_iff.1 hx0
    by_cases hs : s.size = 0
    · have hn : news = [] := List.length_eq_zero_iff.1 (by rw [hnl, hs])
      subst hn
      refine ⟨.slice none 0 0, w, ?_, Own.nil _ _ _, ⟨rfl, rfl, rfl, Nat.le_refl _, fun _ _ _ => rfl⟩, fun k hk => by simp [Value.ownBlock] at hk⟩
      have hf0 := hf w
      rw [hs] at hf0
      simp [Builtin.append_, run_underlying ht, run_underlying hu, sizeOf, typeInfo, hi, hz1, Builtin.lenOf, hs, hf0]
    · obtain ⟨g1, g2⟩ := grown 0 (by simp; omega) (Value.ownBlock (.slice none 0 0))
      simp only [List.length_nil, Nat.zero_add, List.nil_append] at g1 g2 hlen'
      refine ⟨_, _, ?_, ⟨by simpa [hnl] using g1, by simpa using hlen'⟩, g2, fun k hk => .inr (by simp [Value.ownBlock] at hk; omega)⟩
      have h63' : ¬ (9223372036854775807 < (s.size : Int)) := by simp at hlen; omega
      have h48' : ¬ (281474976710656 < Builtin.nextslicecap s.size 0 * i.bytes) := by rw [nextslicecap_zero (by omega), hz2]; simp at hl2; omega
      have hf0 := hf w.drew
      simp [Builtin.append_, run_underlying ht, run_underlying hu, sizeOf, typeInfo, zeroValue, hi, hz0, hz1, Builtin.lenOf, hs, h63', h48', Question.forced, run_firstCells_none, hf0, newRow, grownCap]
  · by_cases hroom : xs.length + s.size ≤ cap
    · have hfit : xs.length * 1 + news.length ≤ cur.size := by rw [hnl, hcs]; omega
      have hst := run_storeCells_at P g (xs.length * 1) E news 0 cur w hg (by simpa using hfit) h1
      simp only [Nat.add_zero, Nat.mul_one] at hst
      generalize hR : (cur.toList.take xs.length ++ news ++ cur.toList.drop (xs.length + news.length)).toArray = R at hst
      refine ⟨.slice (some ⟨g, 0, none⟩) (xs.length + s.size) cap, w.setRow g R, ?_, ⟨⟨by simp [hnl], .inr ⟨g, cap, R, ?_, hbg, setRow_heap w g cur R E _ hg, ?_, hcm, ?_, ?_⟩⟩, hlen'⟩, ⟨rfl, rfl, rfl, by simp, fun k _ hk => setRow_other w g k _ (fun e => hk (by simp [Value.ownBlock, e]))⟩, fun k hk => .inl hk⟩
      · have hf0 := hf w
        simp [Builtin.append_, run_underlying ht, run_underlying hu, sizeOf, typeInfo, hi, hz1, Builtin.lenOf, hroom, hf0, Addr.add_lit, hst]
      · rw [List.length_append, hnl]
      · rw [List.length_append, hnl]; exact hroom
      · rw [← hR]
        simp only [List.size_toArray, List.length_append, List.length_take, List.length_drop, Array.length_toList]
        omega
      · rw [Nat.mul_one] at htake
        rw [Nat.mul_one, ← hR, htake]
        exact List.take_left
    · have holds : ∀ j u, xs[j]? = some u → w.cell? ((⟨g, 0, none⟩ : Addr).add j) = some u := World.ownsRow.cells (g := g) hrow rfl
      obtain ⟨g1, g2⟩ := grown cap (by omega) (Value.ownBlock (.slice (some ⟨g, 0, none⟩) xs.length cap))
      refine ⟨_, _, ?_, ⟨by rw [List.length_append, hnl]; exact g1, hlen'⟩, g2, fun k hk => .inr (by simp [Value.ownBlock] at hk; omega)⟩
      have hn : ¬ (xs.length + s.size ≤ cap) := hroom
      have h63' : ¬ (9223372036854775807 < ((xs.length : Int) + (s.size : Int))) := by omega
      have h48' : ¬ (281474976710656 < Builtin.nextslicecap (xs.length + s.size) cap * i.bytes) := by
        have := growslice_fits (need := xs.length + s.size) (old := cap) (bytes := bytes) (by omega) hl2
        rw [hz2]; omega
      have hf0 := hf w.drew
      have hfo := run_firstCells_some (P := P) w.drew 1 xs.length ⟨g, 0, none⟩ xs.length cap xs (by omega) (by simpa using holds)
      simp [Builtin.append_, run_underlying ht, run_underlying hu, sizeOf, typeInfo, zeroValue, hi, hz0, hz1, Builtin.lenOf, hn, h63', h48', Question.forced, hf0, hfo, newRow, grownCap]
      congr 2
      apply Array.ext'
      simp [List.append_assoc]
theorem wpList_app_str {P : Program} {ops : Array Oper} {rest : List Oper} {o : Oper} {a : Act} {w : World} {Q : Exit → Act → World → Prop} (hgd : o.guard = none) (s x : Operand) (t u : TypeId)
    (ho : o.op = .call { callee := .builtin .append, args := #[s, x], argTypes := #[t, u] })
    (B E : TypeId) (z : Value) (bytes : Nat) (ht : P.underlying t = some (.slice E)) (hu : P.underlying u = some .string) (hinf : (P.info? E).map (fun i => (i.zero, i.size, i.bytes)) = some (some z, 1, bytes)) (hz : z.cells.size = 1) (hby : bytes ≤ 24)
    (v : Value) (xs : List Value) (hs : a.eval s = v) (hown : Own w B E v xs) (tx : ByteArray) (hxe : a.eval x = .string tx) (hlen : xs.length + tx.size ≤ 4294967296) (hB : B ≤ w.heap.size)
    (h : ∀ v' w', Own w' B E v' (xs ++ bytesV tx.data.toList) → w.grownBy w' v.ownBlock → (∀ k, v'.ownBlock = some k → v.ownBlock = some k ∨ w.heap.size ≤ k) → wpList P ops Q rest (a.put o.dst v') w') : wpList P ops Q (o :: rest) a w := by
  obtain ⟨v', w', hr, h2, h3, h4⟩ := run_app_str (P := P) w B t u o.type E z bytes ht hu hinf hz hby v xs hown tx hlen hB
  refine wpList_plain hgd fun K hK => ?_
  unfold Oper.wp execOp
  simp only [ho, resolve, invoke, builtin, Sem.run_bind, Sem.run_pure, Result.andThen_ok, List.map_toArray, List.map_cons, List.map_nil, hs, hxe, hr]
  exact hK _ _ (h v' w' h2 h3 h4)
end Go.Cm

/- The walk of the program's text: a part. Conditions: the text is there, the ops read as a list. -/
namespace Go.Cm
open Go.RowKit Go.Proofs

theorem ops_open {w : World} {v : Value} {l : List OpN} (h : SlK 3 w v (l.map opV)) :
    ∃ oa cap b off, v = .slice oa l.length cap ∧ Hd w oa l.length cap b off ∧ ∀ i (hi : i < l.length), ∀ c, c < 3 → w.cell? ⟨b, off + i * 3 + c, none⟩ = some ((opV (l[i]'hi)).getD c undef) := by
  obtain ⟨oa, cap, b, off, rfl, hd, hc⟩ := h
  rw [List.length_map] at hd hc ⊢
  refine ⟨oa, cap, b, off, rfl, hd, fun i hi c hcl => ?_⟩
  have := hc i hi c hcl
  rw [this]
  simp [List.getD, hi]
theorem opsN_take {eD : Nat} {b bk : Byts} {l : List OpN} {k : Nat} (hk : k < l.length) (h : opsN eD b (l.take k) = (0, bk)) :
    opsN eD b (l.take (k + 1)) = if (opN eD bk l[k]).1 ≠ 0 then opN eD bk l[k] else if 16777216 < (opN eD bk l[k]).2.length then (3, (opN eD bk l[k]).2) else opN eD bk l[k] := by
  rw [List.take_succ_eq_append_getElem hk, opsN_snoc, h]
  rfl
/-- a text is laid behind the text -/
theorem TxV.pushS {w0 w w5 : World} {B g : Nat} {b : Byts} {vb v' : Value} {s : ByteArray} (h : TxV w B g b vb) (hb : Below B w0 w) (hown : Own w5 B 5 v' (bytesV b ++ bytesV s.data.toList)) (hg : w.grownBy w5 vb.ownBlock) (hk : ∀ k, v'.ownBlock = some k → vb.ownBlock = some k ∨ w.heap.size ≤ k) (hB : B ≤ w.heap.size) :
    TxV (w5.setCell ⟨g, 0, none⟩ v') B g (b ++ s.data.toList) v' ∧ Below B w0 (w5.setCell ⟨g, 0, none⟩ v') := by
  have hbx := h.box.keep hg (.inr (fun e => h.ne e.symm))
  have hst := hbx.store 0 v'
  have hne : v'.ownBlock ≠ some g := fun e => by
    rcases hk g e with h1 | h1
    · exact h.ne h1
    · have := h.box.blk.2; omega
  refine ⟨⟨by simpa using hst.1, ?_, hne, h.ge⟩, ?_⟩
  · rw [bytesV_append]
    exact hown.keep hst.2 (.inr hne)
  · exact (below_grown hb hB h.own hg).grown hst.2 (Nat.le_trans hB hg.size) (fun k e => by cases e; exact h.ge)
theorem TxV.len {w : World} {B g : Nat} {b : Byts} {vb : Value} (h : TxV w B g b vb) : ∃ oa cap q, vb = .slice oa b.length cap ∧ w.cell? ⟨g, 0, none⟩ = some (.slice oa b.length cap) ∧ Hd w oa b.length cap q 0 := by
  obtain ⟨oa, cap, q, hv, hd, -⟩ := h.own.cases
  rw [bytesV_length] at hv hd
  exact ⟨oa, cap, q, hv, by rw [h.box.cell (by simp), ← hv]; rfl, hd⟩
set_option maxRecDepth 100000 in
set_option maxHeartbeats 4000000 in
theorem partP {w : World} {B g : Nat} {b : Byts} (h : Tx w B g b) (hlen : b.length ≤ 16777216) (p : PtN) (vo vl vd : Value) (hvo : ∀ W, Below B w W → SlK 3 W vo (p.ops.map opV)) (hlit : ∀ o ∈ p.ops, o.lit < 256) (hts : p.text.size ≤ 140737488351232)
    (_h1 : vl.oneCell' = true) (_h2 : vd.oneCell' = true) :
    Calls Try.prog 40 #[.pointer (some ⟨g, 0, none⟩), .agg #[.int .i64 p.kind, .string p.text, vo, vl, vd]] w fun e w' => e = .returned (.int .i64 ((pkPart 10 b p).1 : Nat)) ∧ Tx w' B g (pkPart 10 b p).2 ∧ Below B w w' := by
  obtain ⟨kd, tx, ops, lits, dists⟩ := p
  simp only at hvo hlit hts ⊢
  obtain ⟨y, hy⟩ : ∃ y, y = pkPart 10 b ⟨kd, tx, ops, lits, dists⟩ := ⟨_, rfl⟩
  rw [← hy]
  have HY := Lib.hid hy
  unfold pkPart at HY
  simp only at HY
  clear hy
  have HVO := Lib.hid hvo
  obtain ⟨oo, oc, ob, off, hvo2, hdo, -⟩ := ops_open (hvo w (Below.refl _ _))
  subst hvo2
  obtain ⟨vb, hx⟩ := h
  have hBw : B ≤ w.heap.size := by have := hx.ge; have := hx.box.blk.2; omega
  have hgw := hx.box.blk.2
  have HX0 := Lib.hid hx
  have HA := Lib.hid (below_alloc w (.cells #[.int .i64 kd, .string tx, .slice oo ops.length oc, vl, vd] 41))
  have HLEN := Lib.hid hlen
  obtain ⟨w1, hw1⟩ : ∃ w1, w1 = w.alloc (.cells #[.int .i64 kd, .string tx, .slice oo ops.length oc, vl, vd] 41) := ⟨_, rfl⟩
  have HW1 := Lib.hid hw1
  have hpt := own_lit w w.heap.size #[.int .i64 kd, .string tx, .slice oo ops.length oc, vl, vd] 41 (by simp) (Nat.le_refl _)
  rw [← hw1] at hpt HA
  have HPT := Lib.hid hpt
  have HX := Lib.hid (hx.up HA.out)
  have HBL := Lib.hid (HA.out.mono hBw)
  have c0 : w1.cell? ⟨g, 0, none⟩ = some vb := HX.out.box.cell (by simp)
  have f0 := HX.out.box.free 0
  have hg := HX.out.box.blk.2
  have p0 : w1.cell? ⟨w.heap.size, 0, none⟩ = some (.int .i64 kd) := hpt.cell (by simp)
  have p1 : w1.cell? ⟨w.heap.size, 1, none⟩ = some (.string tx) := hpt.cell (by simp)
  have p2 : w1.cell? ⟨w.heap.size, 2, none⟩ = some (.slice oo ops.length oc) := hpt.cell (by simp)
  have hp := hpt.blk.2
  have hml := hdo.len
  clear hx hpt hvo hlen hw1 hdo
  by_cases k0 : kd = 0
  · rw [if_pos k0] at HY
    subst k0
    by_cases hbig : 65535 < tx.size
    · rw [if_pos hbig] at HY
      have hbi : (tx.size : Int) > 65535 := by omega
      clear hbig
      go_enter Try.func40, Try.ntmps40
      go_upto_region 1 with fail
      rw [← HW1.out]
      go_wp2
      go_ret
      rw [HY.out]
      exact ⟨rfl, ⟨_, HX.out⟩, HBL.out⟩
    · rw [if_neg hbig] at HY
      have hbi : ¬ (tx.size : Int) > 65535 := by omega
      go_enter Try.func40, Try.ntmps40
      go_upto_region 1 with fail
      rw [← HW1.out]
      go_upto_region 6 with fail
      obtain ⟨row, hrow⟩ : ∃ row, row = vb.ownBlock := ⟨_, rfl⟩
      have HROW := Lib.hid hrow
      have hne1 : some g ≠ row := fun e => HX.out.ne (by rw [← hrow, ← e])
      have hne2 : some w.heap.size ≠ row := fun e => by have := (HX0.out.own.lt _ (by rw [← hrow, ← e])).2; omega
      have hT3 : (bytesV b).length + tx.size ≤ 4294967296 := by rw [bytesV_length]; have := HLEN.out; omega
      have hB1 : B ≤ w1.drew.heap.size := Nat.le_trans hBw HA.out.size
      have HT1 := Lib.hid (HX.out.own.up (below_drewN w1 1))
      rw [← World.drew_is_drewN] at HT1
      have HT3 := Lib.hid hT3
      have HT4 := Lib.hid hB1
      clear hrow hT3 hB1
      refine wp_region_tail (fun w' => ∃ x, w' = chg w1 row x) [0,1,2,3,4,5,6] [7,8,9] [10] (by kernel_rfl) (by kernel_rfl) (ex_chg (grown_drew _ _)) ?_
      simp only [pick, List.map_cons, List.map_nil, List.getD_cons_zero, List.getD_cons_succ]
      repeat (go_big_quiet_step (fail))
      refine wpQuiet_nil ?_
      unfold wpAct
      go_wp2_with (at_builtin; refine wpList_app_str rfl (.tmp 20) (.tmp 22) 43 9 rfl B 5 (.int .u8 0) 1 Try.underlying43 Try.underlying9 (by kernel_rfl) rfl (by decide) vb (bytesV b) rfl HT1.out tx rfl HT3.out HT4.out ?_; intro v' w5 hown1 hg1 hk1; rw [← HROW.out] at hg1 hk1; have HO1 := Lib.hid hown1; have HG1 := Lib.hid hg1; have HK1 := Lib.hid hk1; clear hown1 hg1 hk1)
      refine ⟨ex_chg (grown_trans (grown_drew _ _) HG1.out), ?_⟩
      (unfold wpAct; go_wp2; refine ⟨ex_chg (grown_trans (grown_drew _ _) HG1.out), ?_⟩)
      (unfold wpAct; go_wp2; refine ⟨ex_chg (grown_trans (grown_drew _ _) HG1.out), ?_⟩)
      unfold wpAct
      have HXW := Lib.hid (HX.out.up (below_drewN w1 1))
      rw [← World.drew_is_drewN] at HXW
      have HPU := Lib.hid (TxV.pushS HXW.out (b_drew1 HBL.out) HO1.out (by have h := HG1.out; rw [HROW.out] at h; exact h) (by have h := HK1.out; rw [HROW.out] at h; exact h) HT4.out)
      have hb5 := HXW.out.box.keep HG1.out (.inr (by rw [HROW.out]; exact fun e => HXW.out.ne e.symm))
      have f0 := hb5.free 0
      have c0 : w5.cell? ⟨g, 0, none⟩ = some vb := hb5.cell (by simp)
      have hg := hb5.blk.2
      obtain ⟨o5, k5, g5, hv5, -⟩ := HO1.out.cases
      subst hv5
      have hl5 : (bytesV b ++ bytesV tx.data.toList).length = (b ++ tx.data.toList).length := by rw [List.length_append, bytesV_length, bytesV_length, List.length_append]
      rw [hl5] at HPU ⊢
      generalize hl5' : (b ++ tx.data.toList).length = l5 at *
      have hc6 : (w5.setCell ⟨g, 0, none⟩ (.slice o5 l5 k5)).cell? ⟨g, 0, none⟩ = some (.slice o5 l5 k5) := HPU.out.1.box.cell (by simp)
      have HL5 := Lib.hid hl5'
      clear hb5 HXW HO1 HG1 HK1 HT1 HT3 HT4 HX hl5 hl5'
      unfold wpAct
      go_wp2
      refine ⟨trivial, ?_⟩
      unfold wpAct
      generalize w5.setCell ⟨g, 0, none⟩ (.slice o5 l5 k5) = w6 at *
      have hg6 := HPU.out.1.box.blk.2
      unfold chkN at HY
      simp only at HY
      rw [if_neg (fun h => h rfl), HL5.out] at HY
      have hm6 : l5 ≤ 16842752 := by rw [← HL5.out, List.length_append]; simp; have := HLEN.out; omega
      by_cases hmx : 16777216 < l5
      · rw [if_pos hmx] at HY
        have hmi : (l5 : Int) > 16777216 := by omega
        clear hmx
        go_wp2
        go_ret
        rw [HY.out]
        exact ⟨rfl, ⟨_, HPU.out.1⟩, HPU.out.2⟩
      · rw [if_neg hmx] at HY
        have hmi : ¬ (l5 : Int) > 16777216 := by omega
        clear hmx
        go_wp2
        go_ret
        rw [HY.out]
        exact ⟨rfl, ⟨_, HPU.out.1⟩, HPU.out.2⟩
  · rw [if_neg k0] at HY
    have k0i : (kd == 0) = false := by simpa using k0
    by_cases k12 : kd = 1 ∨ kd = 2
    · rw [if_pos k12] at HY
      have hor : (kd == 1) = true ∨ ((kd == 1) = false ∧ (kd == 2) = true) := by
        by_cases h1 : kd = 1
        · exact .inl (by simpa using h1)
        · exact .inr ⟨by simpa using h1, by have : kd = 2 := by omega
                                            simpa using this⟩
      have HDO := Lib.hid (fun (W : World) (bk : Byts) (o : OpN) (ho : o ∈ ops) (ht : Tx W B g bk) (hb : bk.length ≤ 16777216) => doP ht (by omega) o.lit o.len o.dist (hlit o ho))
      have HST : Hid (∀ k bk, (hk : k < ops.length) → opsN 10 b (ops.take k) = (0, bk) → opsN 10 b (ops.take (k + 1)) = if (opN 10 bk ops[k]).1 ≠ 0 then opN 10 bk ops[k] else if 16777216 < (opN 10 bk ops[k]).2.length then (3, (opN 10 bk ops[k]).2) else opN 10 bk ops[k]) := Lib.hid (fun k bk hk h => opsN_take hk h)
      have HSTOP : Hid (∀ k, (opsN 10 b (ops.take k)).1 ≠ 0 → opsN 10 b ops = opsN 10 b (ops.take k)) := Lib.hid (fun k h => opsN_stop h)
      have HMEM : Hid (∀ k, (hk : k < ops.length) → ops[k] ∈ ops) := Lib.hid (fun k hk => List.getElem_mem hk)
      clear k12 hlit
      rcases hor with h1 | ⟨h1, h2⟩ <;>
      · go_enter Try.func40, Try.ntmps40
        go_upto_region 1 with fail
        rw [← HW1.out]
        go_wp2
        go_loopg [32] (ops.length + 1) (fun gk iv wr => ∃ (k : Nat) (bk : Byts), iv = .int .i64 k ∧ k ≤ ops.length ∧ Hid (opsN 10 b (ops.take k) = (0, bk)) ∧ bk.length ≤ 16777216 ∧ Tx wr B g bk ∧ Below B w wr ∧ gk = ops.length + 1 - k)
        case atStart => exact ⟨0, b, rfl, Nat.zero_le _, Lib.hid rfl, HLEN.out, ⟨_, HX.out⟩, HBL.out, rfl⟩
        case round =>
          clear HX
          obtain ⟨k, bk, rfl, hk, HK, hbk, htx, hbl, rfl⟩ := hrel
          have HT := Lib.hid htx
          have HBW := Lib.hid hbl
          clear htx hbl
          by_cases hlt : k < ops.length
          · have hlti : (k : Int) < (ops.length : Int) := by omega
            obtain ⟨oo', oc', ob', off', hv', hdo, hco⟩ := ops_open (HVO.out wr HBW.out)
            obtain ⟨rfl, -, rfl⟩ : oo = oo' ∧ ops.length = ops.length ∧ oc = oc' := by
              injection hv' with e1 e2 e3; exact ⟨e1, rfl, e3⟩
            have hix := index_anyK (P := Try.prog) 3 32 75 Try.underlying32 (by kernel_rfl) hdo
            have hix2 := fun W kd => hix W kd (k : Int) (by omega) (by omega)
            simp only [Int.toNat_natCast] at hix2
            have hcc := hco k hlt
            have hbb := hdo.hblk (by omega)
            have hst := HST.out k bk hlt HK.out
            have HDK := Lib.hid (fun W => HDO.out W bk ops[k] (HMEM.out k hlt))
            have hsk := HSTOP.out (k + 1)
            rw [hst] at hsk
            have hoe : ops[k] = ⟨ops[k].lit, ops[k].len, ops[k].dist⟩ := rfl
            generalize ops[k] = o at *
            obtain ⟨ol, on, od⟩ := o
            simp only at HDK
            generalize hyo : opN 10 bk ⟨ol, on, od⟩ = yo at *
            obtain ⟨er, b2⟩ := yo
            simp only at HDK hst hsk
            have HC3 : Hid (∀ c, c < 3 → wr.cell? ⟨ob', off' + k * 3 + c, none⟩ = some ((#[.int .u8 (ol : Nat), .int .i64 on, .int .i64 od] : Array Value).getD c undef)) := Lib.hid (fun c hc => by
              rw [hcc c hc]
              match c, hc with
              | 0, _ => rfl
              | 1, _ => rfl
              | 2, _ => rfl)
            have HST2 := Lib.hid hst
            have HSK2 := Lib.hid hsk
            have HB2 : Hid (er = 0 → b2.length ≤ bk.length + 258) := Lib.hid (fun _ => by have h := opN_len (eD := 10) (b := bk) (o := ⟨ol, on, od⟩); rw [hyo] at h; exact h)
            have HD1 := Lib.hid (HDK.out (wr.alloc (.cells #[.int .u8 (ol : Nat), .int .i64 on, .int .i64 od] 75)) (HT.out.up (below_alloc _ _)) hbk)
            have hwB : B ≤ wr.heap.size := Nat.le_trans hBw HBW.out.size
            have HAL : Hid (Below B wr (wr.alloc (.cells #[.int .u8 (ol : Nat), .int .i64 on, .int .i64 od] 75))) := Lib.hid ((below_alloc _ _).mono hwB)
            clear hco hix hdo hv' hoe hcc hst hsk hyo HSTOP HST HMEM HDO HDK
            by_cases her : er = 0
            · subst her
              go_upto_region 15 with (first
                | (refine wpList_load_cells rfl 75 _ rfl ob' (off' + k * 3) 3 rfl #[.int .u8 (ol : Nat), .int .i64 on, .int .i64 od] _ HC3.out rfl Try.underlying75 rfl (by kernel_rfl) ?_)
                | (go_at_call 64; (with_reducible refine HD1.out.mono ?_); rintro e w5 ⟨rfl, ht5, hb5⟩; have HT5 := Lib.hid ht5; have HB5 := Lib.hid (HBW.out.trans (HAL.out.trans hb5)); clear ht5 hb5))
              obtain ⟨v5, hx5⟩ := HT5.out
              obtain ⟨o5, k5, q5, -, hc5, hd5⟩ := hx5.len
              have hg5 := hx5.box.blk.2
              have hl5 := hd5.len
              have hb2 := HB2.out (by trivial)
              clear hx5 hd5
              generalize hlb : b2.length = l2 at *
              have HLB := Lib.hid hlb
              clear hlb
              by_cases hmx : 16777216 < l2
              · have hmi : (l2 : Int) > 16777216 := by omega
                have HE : Hid (y = (3, b2)) := Lib.hid (by
                  have h2 := HSK2.out
                  rw [if_neg (fun h => h rfl), if_pos hmx] at h2
                  rw [HY.out, h2 (by intro h; cases h)]
                  rfl)
                clear hmx HSK2 HST2
                go_wp2
                go_ret
                rw [HE.out]
                exact ⟨rfl, HT5.out, HB5.out⟩
              · have hmi : ¬ (l2 : Int) > 16777216 := by omega
                have HK2 : Hid (opsN 10 b (ops.take (k + 1)) = (0, b2)) := Lib.hid (by
                  rw [HST2.out, if_neg (fun h => h rfl), if_neg hmx])
                go_wp2
                go_roundg (ops.length + 1 - (k + 1))
                case measure => omega
                case rel => exact ⟨k + 1, b2, by go_num, by omega, HK2, by rw [HLB.out]; omega, HT5.out, HB5.out, rfl⟩
            · have hei : ((er : Int) != 0) = true := by simpa using her
              have HE : Hid (y = (er, b2)) := Lib.hid (by
                have h2 := HSK2.out
                rw [if_pos her] at h2
                rw [HY.out, h2 her]
                unfold chkN
                rw [if_pos her])
              clear her HSK2 HST2
              go_wp2_with (first
                | (refine wpList_load_cells rfl 75 _ rfl ob' (off' + k * 3) 3 rfl #[.int .u8 (ol : Nat), .int .i64 on, .int .i64 od] _ HC3.out rfl Try.underlying75 rfl (by kernel_rfl) ?_)
                | (go_at_call 64; (with_reducible refine HD1.out.mono ?_); rintro e w5 ⟨rfl, ht5, hb5⟩; have HT5 := Lib.hid ht5; have HB5 := Lib.hid (HBW.out.trans (HAL.out.trans hb5)); clear ht5 hb5))
              go_ret
              rw [HE.out]
              exact ⟨rfl, HT5.out, HB5.out⟩
          · obtain rfl : k = ops.length := by omega
            have HE : Hid (y = (0, bk)) := Lib.hid (by
              have h2 := HK.out
              rw [List.take_length] at h2
              rw [HY.out, h2]
              unfold chkN
              rw [if_neg (fun h => h rfl), if_neg (by simp only; omega)])
            obtain ⟨v5, hx5⟩ := HT.out
            obtain ⟨o5, k5, q5, -, hc5, hd5⟩ := hx5.len
            have hg5 := hx5.box.blk.2
            clear hx5 hd5
            generalize bk.length = l2 at *
            have hmi : ¬ (l2 : Int) > 16777216 := by omega
            go_wp2
            go_ret
            rw [HE.out]
            exact ⟨rfl, HT.out, HBW.out⟩
    · rw [if_neg k12] at HY
      have h1i : (kd == 1) = false := by simp; omega
      have h2i : (kd == 2) = false := by simp; omega
      clear k12
      go_enter Try.func40, Try.ntmps40
      go_upto_region 1 with fail
      rw [← HW1.out]
      go_wp2
      go_ret
      rw [HY.out]
      exact ⟨rfl, ⟨_, HX.out⟩, HBL.out⟩
end Go.Cm

/- The walk of the program's Text. Conditions: the parts read as a list. -/
namespace Go.Cm
open Go.RowKit Go.Proofs

def zPt : PtN := ⟨0, ⟨#[]⟩, [], [], []⟩
/-- a part's five cells -/
def PtCells (w : World) (c : List Value) (p : PtN) : Prop := ∃ vo vl vd, c = [.int .i64 p.kind, .string p.text, vo, vl, vd] ∧ SlK 3 w vo (p.ops.map opV) ∧ IntsAt w vl p.lits ∧ IntsAt w vd p.dists
/-- a list of parts -/
def PartsAt (w : World) (v : Value) (l : List PtN) : Prop := ∃ cs, SlK 5 w v cs ∧ cs.length = l.length ∧ ∀ i, i < l.length → PtCells w (cs.getD i []) (l.getD i zPt)
theorem PtCells.up {w w' : World} {c : List Value} {p : PtN} (h : PtCells w c p) (hb : Below w.heap.size w w') : PtCells w' c p := by
  obtain ⟨vo, vl, vd, hc, h1, h2, h3⟩ := h
  exact ⟨vo, vl, vd, hc, h1.up hb, h2.up hb, h3.up hb⟩
theorem PartsAt.up {w w' : World} {v : Value} {l : List PtN} (h : PartsAt w v l) (hb : Below w.heap.size w w') : PartsAt w' v l := by
  obtain ⟨cs, h1, h2, h3⟩ := h
  exact ⟨cs, h1.up hb, h2, fun i hi => (h3 i hi).up hb⟩
/-- what the parts hold fits -/
structure PtOk (p : PtN) : Prop where
  lit : ∀ o ∈ p.ops, o.lit < 256
  text : p.text.size ≤ 140737488351232
theorem PartsAt.open {w : World} {v : Value} {l : List PtN} (h : PartsAt w v l) :
    ∃ oa cap b off, v = .slice oa l.length cap ∧ Hd w oa l.length cap b off ∧ ∀ i, i < l.length →
      ∃ oo oc o1 c1 o2 c2, (∀ c, c < 5 → w.cell? ⟨b, off + i * 5 + c, none⟩ = some ((#[.int .i64 (l.getD i zPt).kind, .string (l.getD i zPt).text, .slice oo (l.getD i zPt).ops.length oc, .slice o1 (l.getD i zPt).lits.length c1, .slice o2 (l.getD i zPt).dists.length c2] : Array Value).getD c undef)) ∧
        SlK 3 w (.slice oo (l.getD i zPt).ops.length oc) ((l.getD i zPt).ops.map opV) ∧ IntsAt w (.slice o1 (l.getD i zPt).lits.length c1) (l.getD i zPt).lits ∧ IntsAt w (.slice o2 (l.getD i zPt).dists.length c2) (l.getD i zPt).dists := by
  obtain ⟨cs, ⟨oa, cap, b, off, rfl, hd, hc⟩, h2, h3⟩ := h
  rw [h2] at hd hc ⊢
  refine ⟨oa, cap, b, off, rfl, hd, fun i hi => ?_⟩
  obtain ⟨vo, vl, vd, he, g1, g2, g3⟩ := h3 i hi
  obtain ⟨oo, oc, ob, of, rfl, -⟩ := ops_open g1
  obtain ⟨o1, c1, b1, f1, rfl, -⟩ := g2.open
  obtain ⟨o2, c2, b2, f2, rfl, -⟩ := g3.open
  refine ⟨oo, oc, o1, c1, o2, c2, fun c hcl => ?_, g1, g2, g3⟩
  rw [hc i hi c hcl, he]
  match c, hcl with
  | 0, _ => rfl
  | 1, _ => rfl
  | 2, _ => rfl
  | 3, _ => rfl
  | 4, _ => rfl
def RetTextN (y : Nat × Byts) (w : World) (e : Ending) (w' : World) : Prop := e = .returned (.tuple #[.string ⟨y.2.toArray⟩, .int .i64 (y.1 : Nat)]) ∧ ∃ x, w' = ext w x
theorem pkPart_len {eD : Nat} {b : Byts} {p : PtN} (h : (pkPart eD b p).1 = 0) : (pkPart eD b p).2.length ≤ 16777216 := by
  have hc : ∀ z : Nat × Byts, (chkN z).1 = 0 → (chkN z).2.length ≤ 16777216 := by
    intro z hz
    unfold chkN at hz ⊢
    by_cases h1 : z.1 ≠ 0
    · rw [if_pos h1] at hz; exact absurd hz h1
    · rw [if_neg h1] at hz ⊢
      by_cases h2 : 16777216 < z.2.length
      · rw [if_pos h2] at hz; exact absurd hz (by intro h; cases h)
      · rw [if_neg h2]; omega
  unfold pkPart at h ⊢
  by_cases h0 : p.kind = 0
  · rw [if_pos h0] at h ⊢
    by_cases h1 : 65535 < p.text.size
    · rw [if_pos h1] at h; exact absurd h (by intro h; cases h)
    · rw [if_neg h1] at h ⊢; exact hc _ h
  · rw [if_neg h0] at h ⊢
    by_cases h1 : p.kind = 1 ∨ p.kind = 2
    · rw [if_pos h1] at h ⊢; exact hc _ h
    · rw [if_neg h1] at h; exact absurd h (by intro h; cases h)
theorem partsN_take {eD : Nat} {b : Byts} {l : List PtN} {k : Nat} (hk : k < l.length) (h : partsN eD (l.take k) = (0, b)) : partsN eD (l.take (k + 1)) = pkPart eD b (l.getD k zPt) := by
  rw [List.take_succ_eq_append_getElem hk, partsN_snoc, h]
  simp [pkPartS, List.getD, hk]
set_option maxRecDepth 100000 in
set_option maxHeartbeats 4000000 in
theorem textPk {w : World} {v : Value} {l : List PtN} (h : PartsAt w v l) (hok : ∀ p ∈ l, PtOk p) : Calls Try.prog 14 #[v] w (RetTextN (textOf 10 17 l) w) := by
  have HH := Lib.hid h
  have HOK : Hid (∀ i, i < l.length → PtOk (l.getD i zPt)) := Lib.hid (fun i hi => by
    have : l.getD i zPt = l[i] := by simp [List.getD, hi]
    rw [this]; exact hok _ (List.getElem_mem hi))
  obtain ⟨oa, cap, bl, off, rfl, hd, hco⟩ := h.open
  have HCO := Lib.hid hco
  have HD := Lib.hid hd
  obtain ⟨y, hy⟩ : ∃ y, y = textOf 10 17 l := ⟨_, rfl⟩
  rw [← hy]
  have HY := Lib.hid hy
  unfold textOf at HY
  have hm := hd.len
  clear hy h hok hd hco
  by_cases hl : l = []
  · rw [if_pos hl] at HY
    subst hl
    go_enter Try.func14, Try.ntmps14
    go_wp2
    go_ret2
    exact ⟨by rw [HY.out]; rfl, (ex_ext (by repeat (first | exact Below.refl _ _ | assumption | refine b_drewN ?_ _ | refine Below.drew ?_ | refine b_ext' ?_ _ | refine b_alloc' ?_ _)))⟩
  · rw [if_neg hl] at HY
    have hl0 : 0 < l.length := List.length_pos_iff.2 hl
    have hl1 : ((l.length : Int) == 0) = false := by simp; exact hl
    clear hl
    go_enter Try.func14, Try.ntmps14
    go_wp2
    have HT0 : Hid (Tx (w.alloc (.cells #[Value.slice none 0 0] 78)) w.heap.size w.heap.size []) := Lib.hid ⟨.slice none 0 0, own_lit w w.heap.size #[Value.slice none 0 0] 78 (by simp) (Nat.le_refl _), Own.nil _ _ _, by simp [Value.ownBlock], Nat.le_refl _⟩
    have HB0 := Lib.hid (below_alloc w (.cells #[Value.slice none 0 0] 78))
    go_loopg [15] (l.length + 1) (fun gk iv wr => ∃ (k : Nat) (b : Byts), iv = .int .i64 k ∧ k ≤ l.length ∧ Hid (partsN 10 (l.take k) = (0, b)) ∧ b.length ≤ 16777216 ∧ Tx wr w.heap.size w.heap.size b ∧ Below w.heap.size w wr ∧ gk = l.length + 1 - k)
    case atStart => exact ⟨0, [], rfl, Nat.zero_le _, Lib.hid rfl, Nat.zero_le _, HT0.out, HB0.out, rfl⟩
    case round =>
      clear HT0 HB0
      obtain ⟨k, b, rfl, hk, HK, hbk, htx, hbl, rfl⟩ := hrel
      have HT := Lib.hid htx
      have HBW := Lib.hid hbl
      have hsz := hbl.size
      clear htx hbl
      by_cases hlt : k < l.length
      · have hix := index_anyK (P := Try.prog) 5 28 41 Try.underlying28 (by kernel_rfl) HD.out
        have hix2 := fun W kd => hix W kd (k : Int) (by omega) (by omega)
        simp only [Int.toNat_natCast] at hix2
        obtain ⟨oo, oc, o1, c1, o2, c2, hcc, hs, hl1', hl2'⟩ := HCO.out k hlt
        have hok := HOK.out k hlt
        have HSK := Lib.hid (partsN_take hlt HK.out)
        have HSTOP := Lib.hid (partsN_stop (eD := 10) (l := l) (k := k + 1))
        have hbb := HD.out.hblk (by omega)
        have HLN := Lib.hid (pkPart_len (eD := 10) (b := b) (p := l.getD k zPt))
        obtain ⟨p, hp⟩ : ∃ p, p = l.getD k zPt := ⟨_, rfl⟩
        rw [← hp] at hcc hs hl1' hl2' hok HSK HLN
        have HC5 : Hid (∀ c, c < 5 → wr.cell? ⟨bl, off + k * 5 + c, none⟩ = some ((#[.int .i64 p.kind, .string p.text, .slice oo p.ops.length oc, .slice o1 p.lits.length c1, .slice o2 p.dists.length c2] : Array Value).getD c undef)) := Lib.hid (fun c hc => (HBW.out.cell (p := ⟨bl, off + k * 5 + c, none⟩) hbb).trans (hcc c hc))
        have hAL := below_alloc wr (.cells #[.int .i64 p.kind, .string p.text, .slice oo p.ops.length oc, .slice o1 p.lits.length c1, .slice o2 p.dists.length c2] 41)
        have HAL := Lib.hid (hAL.mono hsz)
        obtain ⟨A, hgA, hsA, hA⟩ := (own_lit wr wr.heap.size #[.int .i64 p.kind, .string p.text, .slice oo p.ops.length oc, .slice o1 p.lits.length c1, .slice o2 p.dists.length c2] 41 (by simp) (Nat.le_refl _)).whole
        have hA' : A = #[.int .i64 p.kind, .string p.text, .slice oo p.ops.length oc, .slice o1 p.lits.length c1, .slice o2 p.dists.length c2] := by rw [← Array.toArray_toList (xs := A), hA]
        subst hA'
        have HPC := Lib.hid (partP (HT.out.up hAL) hbk p (.slice oo p.ops.length oc) (.slice o1 p.lits.length c1) (.slice o2 p.dists.length c2) (fun W hW => hs.up ((HBW.out.trans HAL.out).trans hW)) hok.lit hok.text rfl rfl)
        have HX : Hid (∀ W', Below w.heap.size (wr.alloc (.cells #[.int .i64 p.kind, .string p.text, .slice oo p.ops.length oc, .slice o1 p.lits.length c1, .slice o2 p.dists.length c2] 41)) W' → Below w.heap.size w W') := Lib.hid (fun W' h => (HBW.out.trans HAL.out).trans h)
        generalize hz : pkPart 10 b p = z at *
        obtain ⟨er, b2⟩ := z
        simp only at HPC HLN
        clear hcc hs hl1' hl2' hok hAL hA hsA hz hix HAL hp
        generalize p.ops.length = n3 at *
        generalize p.lits.length = n4 at *
        generalize p.dists.length = n5 at *
        by_cases her : er = 0
        · subst her
          have hb2 := HLN.out (by trivial)
          go_wp2_with (first
            | (refine wpList_load_cells rfl 41 _ rfl bl (off + k * 5) 5 rfl #[.int .i64 p.kind, .string p.text, .slice oo n3 oc, .slice o1 n4 c1, .slice o2 n5 c2] _ HC5.out rfl Try.underlying41 rfl (by kernel_rfl) ?_)
            | (refine load_box rfl 41 5 _ rfl wr.heap.size rfl #[.int .i64 p.kind, .string p.text, .slice oo n3 oc, .slice o1 n4 c1, .slice o2 n5 c2] rfl hgA _ Try.underlying41 rfl (by kernel_rfl) ?_)
            | (go_at_call 40; (with_reducible refine HPC.out.mono ?_); rintro e w5 ⟨rfl, ht5, hb5⟩; have HT5 := Lib.hid ht5; have HB5 := Lib.hid (HX.out _ hb5); clear ht5 hb5))
          go_roundg (l.length + 1 - (k + 1))
          case measure => omega
          case rel => exact ⟨k + 1, b2, by go_num, by omega, HSK, hb2, HT5.out, HB5.out, rfl⟩
        · have hei : ((er : Int) != 0) = true := by simpa using her
          have HE : Hid (y = (er, [])) := Lib.hid (by
            have h2 := HSTOP.out (by rw [HSK.out]; exact her)
            rw [HSK.out] at h2
            rw [HY.out, h2, if_pos her])
          clear her HSK HSTOP HLN
          go_wp2_with (first
            | (refine wpList_load_cells rfl 41 _ rfl bl (off + k * 5) 5 rfl #[.int .i64 p.kind, .string p.text, .slice oo n3 oc, .slice o1 n4 c1, .slice o2 n5 c2] _ HC5.out rfl Try.underlying41 rfl (by kernel_rfl) ?_)
            | (refine load_box rfl 41 5 _ rfl wr.heap.size rfl #[.int .i64 p.kind, .string p.text, .slice oo n3 oc, .slice o1 n4 c1, .slice o2 n5 c2] rfl hgA _ Try.underlying41 rfl (by kernel_rfl) ?_)
            | (go_at_call 40; (with_reducible refine HPC.out.mono ?_); rintro e w5 ⟨rfl, ht5, hb5⟩; have HT5 := Lib.hid ht5; have HB5 := Lib.hid (HX.out _ hb5); clear ht5 hb5))
          go_ret2
          exact ⟨by rw [HE.out]; rfl, ex_ext HB5.out⟩
      · obtain rfl : k = l.length := by omega
        have HE : Hid (y = (0, b)) := Lib.hid (by
          have h2 := HK.out
          rw [List.take_length] at h2
          rw [HY.out, h2, if_neg (fun h => h rfl)])
        obtain ⟨v5, hx5⟩ := HT.out
        obtain ⟨o5, k5, q5, hv5, hc5, hd5⟩ := hx5.len
        have hg5 := hx5.box.blk.2
        subst hv5
        have HCV := Lib.hid (fun W (h : Below wr.heap.size wr W) => run_bytes_string (P := Try.prog) W 43 9 5 Try.underlying43 Try.underlying5 Try.underlying9 _ b (hx5.own.sl.up h))
        have hcv := HCV.out wr (Below.refl _ _)
        clear hx5 hd5 hlt
        generalize b.length = l2 at *
        go_wp2
        go_ret2
        exact ⟨by rw [HE.out]; rfl, ex_ext HBW.out⟩
end Go.Cm

/- 'append(s, x)' of an element of several cells, of up to 128 bytes. Conditions: none. -/
namespace Go.Cm
open Go.RowKit Go.Proofs

/-- 'append(s, x)' of one k-cell element x that lies as a slice of one. -/
theorem run_appL {P : Program} {k : Nat} (w : World) (B : Nat) (t ty E : TypeId) (z : Value) (bytes : Nat) (ht : P.underlying t = some (.slice E)) (hinf : (P.info? E).map (fun i => (i.zero, i.size, i.bytes)) = some (some z, k, bytes)) (hz : z.cells.size = k) (hk : 0 < k) (hby : bytes ≤ 128)
    (v : Value) (xs : List (List Value)) (hown : OwnK k w B E v xs) (xv : Value) (news : List (List Value)) (hx : SlK k w xv news) (hnk : ∀ x ∈ news, x.length = k) (h1 : ∀ u ∈ news.flatten, u.oneCell' = true) (hlen : xs.length + news.length ≤ 1000000000) (hB : B ≤ w.heap.size) :
    ∃ v' w', (Builtin.append_ #[t, t] ty #[v, xv]).run P w = .ok v' w' ∧ OwnK k w' B E v' (xs ++ news) ∧ w.grownBy w' v.ownBlock ∧ (∀ q, v'.ownBlock = some q → v.ownBlock = some q ∨ w.heap.size ≤ q) := by
  obtain ⟨i0, hi, hz0, hz1, hz2⟩ : ∃ i0, P.info? E = some i0 ∧ i0.zero = some z ∧ i0.size = k ∧ i0.bytes = bytes := by
    cases hq : P.info? E with
    | none => simp [hq] at hinf
    | some i0 => simp [hq] at hinf; exact ⟨i0, rfl, hinf.1, hinf.2.1, hinf.2.2⟩
  have hl1 : xs.length + news.length ≤ maxLen := by simp only [maxLen]; omega
  have hl2 : (xs.length + news.length) * bytes ≤ 140737488355328 := by
    have := Nat.mul_le_mul hlen hby; omega
  obtain ⟨oa, cx, b, off, rfl, hd, hc⟩ := hx
  obtain ⟨hrow, hsm, hxk⟩ := hown
  have hnewsl : news.flatten.length = news.length * k := flatten_len hnk
  have hall : ∀ x ∈ xs ++ news, x.length = k := fun x hx => by
    rcases List.mem_append.1 hx with h | h
    · exact hxk x h
    · exact hnk x h
  have hlen' : (xs ++ news).length ≤ 140737488351232 := by rw [List.length_append]; omega
  by_cases hn : news = []
  · subst hn
    refine ⟨v, w, ?_, ⟨by simpa using hrow, by simpa using hsm, by simpa using hxk⟩, ⟨rfl, rfl, rfl, Nat.le_refl _, fun _ _ _ => rfl⟩, fun k hk => .inl hk⟩
    rcases hrow.2 with ⟨rfl, hx0⟩ | ⟨g, cap, cur, rfl, _, _, hnc, _⟩
    · cases oa <;> simp [Builtin.append_, run_underlying ht, sizeOf, typeInfo, hi, Builtin.lenOf, Builtin.firstCells, loadCells, loadCellsFrom]
    · cases oa <;> simp [Builtin.append_, run_underlying ht, sizeOf, typeInfo, hi, Builtin.lenOf, Builtin.firstCells, loadCells, loadCellsFrom, hnc, storeCells]
  · have hpos : 0 < news.length := List.length_pos_iff.2 hn
    obtain rfl := hd.hat hpos
    have hnews : ∀ j u, news.flatten[j]? = some u → w.cell? ((⟨b, off, none⟩ : Addr).add j) = some u := fun j u hu => by
      have hj := (List.getElem?_eq_some_iff.1 hu).1
      rw [hnewsl] at hj
      have hdm : j = j / k * k + j % k := by rw [Nat.mul_comm]; exact (Nat.div_add_mod j k).symm
      have hq : j / k < news.length := (Nat.div_lt_iff_lt_mul hk).2 hj
      have hm := Nat.mod_lt j hk
      rw [add_off, hdm, ← Nat.add_assoc, hc (j / k) hq (j % k) hm]
      rw [hdm, flatten_at hnk _ _ hq hm] at hu
      rw [List.getD_eq_getElem?_getD, hu]; rfl
    rcases hrow.2 with ⟨rfl, hx0⟩ | ⟨g, cap, cur, rfl, hbg, hg, hnc, hcm, hcs, htake⟩
    · obtain rfl : xs = [] := List.length_eq_zero_iff.1 hx0
      obtain ⟨v', w', hr, ho, hgr, -⟩ := run_append_own (P := P) w w.heap.size t ty E i0 z k bytes ht hi hz0 hz1 hz2 hz hk (.slice none 0 0) 0 [] (World.ownsRow_nil _ _ _ _) ⟨b, off, none⟩ news.length cx news.flatten hnewsl hnews h1 (by simpa using hl1) (by simpa using hl2) (Nat.le_refl _)
      have hkk := ho.lt
      refine ⟨v', w', hr, ⟨⟨by simpa using hnewsl, ?_⟩, hlen', hall⟩, hgr, fun q hq => .inr (hkk q hq).1⟩
      simp only [Nat.zero_add, List.nil_append] at ho
      rcases ho.2 with ⟨h1, h2⟩ | ⟨g, cap, cur, h1, h2, h3⟩
      · exact .inl ⟨h1, by simpa using h2⟩
      · exact .inr ⟨g, cap, cur, h1, by omega, by simpa using h3⟩
    · by_cases hroom : xs.length + news.length ≤ cap
      · obtain ⟨w', hr, ho, hgr⟩ := run_append_fits (P := P) w B t ty E i0 k ht hi hz1 g xs.length cap xs.flatten ⟨hrow.1, .inr ⟨g, cap, cur, rfl, hbg, hg, hnc, hcm, hcs, htake⟩⟩ ⟨b, off, none⟩ news.length cx news.flatten hnewsl hnews h1 hroom
        exact ⟨_, w', hr, ⟨by rw [List.length_append, List.flatten_append]; exact ho, hlen', hall⟩, hgr, fun k hk => .inl hk⟩
      · have holds : ∀ j u, xs.flatten[j]? = some u → w.cell? ((⟨g, 0, none⟩ : Addr).add j) = some u := World.ownsRow.cells (g := g) hrow rfl
        have hxl : xs.flatten.length = xs.length * k := flatten_len hxk
        have hr := run_append_grow (P := P) w t ty E i0 z ht hi hz0 ⟨g, 0, none⟩ xs.length cap xs.flatten (by rw [hz1]; exact hxl) holds ⟨b, off, none⟩ news.length cx news.flatten (by rw [hz1]; exact hnewsl) hnews (by omega) (by omega) (growslice_fits (by omega) (by rw [hz2]; exact hl2))
        have hge := grownCap_ge w (xs.length + news.length) cap E
        have hcm' : grownCap w (xs.length + news.length) cap E ≤ maxLen := grownCap_le_maxLen w _ cap E hl1
        refine ⟨_, _, hr, ⟨⟨by rw [List.length_append, List.flatten_append, List.length_append, hxl, hnewsl, Nat.add_mul], .inr ⟨w.heap.size, _, _, by rw [List.length_append], hB, heap_alloc_new w.drew _, by rw [List.length_append]; exact hge, hcm', ?_, ?_⟩⟩, hlen', hall⟩, ⟨rfl, rfl, rfl, by simp, fun k hk _ => Below.heap_alloc w.drew _ k hk⟩, fun k hk => .inr (by simp [Value.ownBlock] at hk; omega)⟩
        · simp only [Array.size_append, List.size_toArray, size_zeroCells, hz, hxl, hnewsl, ← Nat.add_mul]
          congr 1; omega
        · simp only [Array.toList_append, List.append_assoc, List.length_append, List.flatten_append]
          rw [← List.append_assoc, Nat.add_mul, ← hxl, ← hnewsl, ← List.length_append]
          exact List.take_left
theorem wpList_appL {P : Program} {ops : Array Oper} {rest : List Oper} {o : Oper} {a : Act} {w : World} {Q : Exit → Act → World → Prop} (k : Nat) (hgd : o.guard = none) (s x : Operand) (t : TypeId)
    (ho : o.op = .call { callee := .builtin .append, args := #[s, x], argTypes := #[t, t] })
    (B E : TypeId) (z : Value) (bytes : Nat) (ht : P.underlying t = some (.slice E)) (hinf : (P.info? E).map (fun i => (i.zero, i.size, i.bytes)) = some (some z, k, bytes)) (hz : z.cells.size = k) (hk : 0 < k) (hby : bytes ≤ 128)
    (v : Value) (xs : List (List Value)) (hs : a.eval s = v) (hown : OwnK k w B E v xs) (xv : Value) (news : List (List Value)) (hxe : a.eval x = xv) (hx : SlK k w xv news) (hnk : ∀ x ∈ news, x.length = k) (h1 : ∀ u ∈ news.flatten, u.oneCell' = true) (hlen : xs.length + news.length ≤ 1000000000) (hB : B ≤ w.heap.size)
    (h : ∀ v' w', OwnK k w' B E v' (xs ++ news) → w.grownBy w' v.ownBlock → (∀ q, v'.ownBlock = some q → v.ownBlock = some q ∨ w.heap.size ≤ q) → wpList P ops Q rest (a.put o.dst v') w') : wpList P ops Q (o :: rest) a w := by
  obtain ⟨v', w', hr, h2, h3, h4⟩ := run_appL (P := P) w B t o.type E z bytes ht hinf hz hk hby v xs hown xv news hx hnk h1 hlen hB
  refine wpList_plain hgd fun K hK => ?_
  unfold Oper.wp execOp
  simp only [ho, resolve, invoke, builtin, Sem.run_bind, Sem.run_pure, Result.andThen_ok, List.map_toArray, List.map_cons, List.map_nil, hs, hxe, hr]
  exact hK _ _ (h v' w' h2 h3 h4)
end Go.Cm

/- The walks of the repeats. Conditions: the source is there, the row is owned. -/
namespace Go.Cm
open Go.RowKit Go.Proofs

theorem ints_cell (l : List Int) : ∀ u ∈ ints l, u.oneCell' = true := by
  intro u hu; simp only [ints, List.mem_map] at hu; obtain ⟨b, -, rfl⟩ := hu; rfl
theorem row_app (l : List Nat) (k x : Nat) : ints (nls (l ++ List.replicate (k + 1) x)) = ints (nls (l ++ List.replicate k x)) ++ ints (nls [x]) := by
  rw [List.replicate_succ', ← List.append_assoc]
  simp [ints, nls]
/-- the row grows at its end -/
theorem growP (v : Value) (l : List Nat) (n x : Nat) (w : World) (B : Nat) (h : Own w B 3 v (ints (nls l))) (hB : B ≤ w.heap.size) (hl : l.length + n ≤ 1000000) :
    Calls Try.prog 95 #[v, .int .i64 n, .int .i64 x] w fun e w' => ∃ v', e = .returned v' ∧ Own w' B 3 v' (ints (nls (l ++ List.replicate n x))) ∧ Fx (fun k => v.ownBlock = some k) w w' ∧ (∀ k, v'.ownBlock = some k → v.ownBlock = some k ∨ w.heap.size ≤ k) := by
  have HO := Lib.hid h
  have H0 : Hid (Own w B 3 v (ints (nls (l ++ List.replicate 0 x)))) := Lib.hid (by simpa using h)
  have HL : Hid (∀ k, k < n → (ints (nls (l ++ List.replicate k x))).length + 1 ≤ 4294967296) := Lib.hid (fun k hk => by simp [ints, nls]; omega)
  have HAP := Lib.hid (fun k => row_app l k x)
  obtain ⟨oa, z, cap, hv⟩ : ∃ oa z cap, v = .slice oa z cap := by
    obtain ⟨oz, cz, _, h, -⟩ := h.cases
    exact ⟨oz, _, cz, h⟩
  clear h HO
  generalize hob : (fun k => v.ownBlock = some k) = S
  have HV : Hid (∀ k, v.ownBlock = some k → S k) := Lib.hid (fun k hk => by rw [← hob]; exact hk)
  have HV2 : Hid (∀ k, S k → v.ownBlock = some k) := Lib.hid (fun k hk => by rw [← hob] at hk; exact hk)
  have HVS : Hid (∀ k, (v.ownBlock = some k ∨ w.heap.size ≤ k) ↔ (S k ∨ w.heap.size ≤ k)) := Lib.hid (fun k => by rw [← hob])
  clear hob
  subst hv
  go_enter Try.func95, Try.ntmps95
  go_wp2
  go_loopg [0, 8] n (fun gk r i wr => ∃ k : Nat, k ≤ n ∧ i = .int .i64 k ∧ Own wr B 3 r (ints (nls (l ++ List.replicate k x))) ∧ Fx S w wr ∧ (∀ q, r.ownBlock = some q → S q ∨ w.heap.size ≤ q) ∧ gk = n - k)
  case atStart => exact ⟨0, Nat.zero_le _, rfl, H0.out, Fx.refl _ _, fun k hk => .inl (HV.out k hk), rfl⟩
  case round =>
    obtain ⟨k, hk, rfl, ho, hf, hro, hgk⟩ := hrel
    have HOW := Lib.hid ho
    have HF := Lib.hid hf
    have HRO := Lib.hid hro
    have hsz := hf.size
    obtain ⟨oz, nz, cz, hu⟩ : ∃ oz nz cz, u0 = .slice oz nz cz := by
      obtain ⟨oz, cz, _, h, -⟩ := ho.cases
      exact ⟨oz, _, cz, h⟩
    subst hu
    clear ho hf hro
    by_cases hlt : k < n
    · have HLK := Lib.hid (HL.out k hlt)
      have hki : (k : Int) < (n : Int) := by omega
      go_wp2_with (at_builtin; refine wpList_app rfl (.tmp 10) (.tmp 12) 39 rfl B 3 (.int .i64 0) 8 Try.underlying39 (by kernel_rfl) rfl (by decide) (.slice oz nz cz) (ints (nls (l ++ List.replicate k x))) rfl (HOW.out.up (below_alloc _ _)) (.slice (some ⟨wr.heap.size, 0, none⟩) 1 1) (ints (nls [x])) rfl (by simpa [ints, nls] using sl_lit wr #[.int .i64 (x : Int)] 3 (by simp)) (ints_cell _) (by have := HLK.out; simpa [ints, nls] using this) (Nat.le_trans hB (Nat.le_trans hsz (by simp))) ?_; intro v' w2 hown1 hg1 hk1; (have HO1 := Lib.hid hown1; have HG1 := Lib.hid hg1; have HK1 := Lib.hid hk1; clear hown1 hg1 hk1))
      go_roundg (n - (k + 1))
      case measure => omega
      case rel =>
        refine ⟨k + 1, by omega, by go_num, by rw [HAP.out]; exact HO1.out, (HF.out.trans (fx_below (below_alloc wr _))).grown HG1.out HRO.out, fun q hq => ?_, rfl⟩
        rcases HK1.out q hq with h1 | h1
        · exact HRO.out q h1
        · have h2 : wr.heap.size ≤ q := Nat.le_trans (by simp) h1
          exact .inr (by omega)
    · obtain rfl : k = n := by omega
      have hki : ¬ (k : Int) < (k : Int) := by omega
      go_wp2
      go_ret
      exact ⟨_, rfl, HOW.out, HF.out, fun q hq => (HVS.out q).2 (HRO.out q hq)⟩
end Go.Cm

/- The walk of the source's row of lengths. Conditions: the source is there; the table reads as its lengths say. -/
namespace Go.Cm
open Go.RowKit Go.Proofs

theorem SrcT.kept {w w' : World} {q g : Nat} {s : ByteArray} {st : Nat × Nat} {row : Option Nat} (h : SrcT w q g s st) (hg : w.grownBy w' row) (h1 : row ≠ some q) (h2 : row ≠ some g) : SrcT w' q g s st := ⟨h.src.keep hg h1, h.box.stay hg h2, h.ne, h.le, h.err⟩
theorem Fx.far {S S' : Nat → Prop} {w w1 w2 : World} (h : Fx S w w1) (hg : Fx S' w1 w2) (hr : ∀ k, S' k → S k ∨ w.heap.size ≤ k) : Fx S w w2 :=
  ⟨hg.os.trans h.os, hg.tape.trans h.tape, hg.output.trans h.output, Nat.le_trans h.size hg.size, fun k hk h1 => by
    rw [hg.block k (Nat.lt_of_lt_of_le hk h.size) (fun e => (hr k e).elim h1 (fun z => by omega)), h.block k hk h1]⟩
end Go.Cm

/- The reading of a whole head, in plain Lean. Conditions: none. -/
namespace Go.Cm

/-- a stored block's size -/
def storedN (N T : Nat) (st : Nat × Nat) : Nat × (Nat × Nat) :=
  ((xb N T 16 (st.1, alignN st.2)).1,
   if (xb N T 16 (xb N T 16 (st.1, alignN st.2)).2).1 + (xb N T 16 (st.1, alignN st.2)).1 = 65535 then (xb N T 16 (xb N T 16 (st.1, alignN st.2)).2).2
   else xf 6 (xb N T 16 (xb N T 16 (st.1, alignN st.2)).2).2)
/-- a dynamic block's lengths: the numbers have been read -/
noncomputable def dynL (N T a b : Nat) (k : List Nat × (Nat × Nat)) : List Nat × List Nat × (Nat × Nat) :=
  if k.2.1 ≠ 0 then ([], [], k.2)
  else if fitsE (nls k.1) false ≠ 0 then ([], [], fitsE (nls k.1) false, k.2.2)
  else if (rowN N T k.1 (257 + a + (1 + b)) (257 + a + (1 + b) + 1) [] k.2).2.1 ≠ 0 then ([], [], (rowN N T k.1 (257 + a + (1 + b)) (257 + a + (1 + b) + 1) [] k.2).2)
  else ((rowN N T k.1 (257 + a + (1 + b)) (257 + a + (1 + b) + 1) [] k.2).1.take (257 + a), (rowN N T k.1 (257 + a + (1 + b)) (257 + a + (1 + b) + 1) [] k.2).1.drop (257 + a),
    fits2 ((rowN N T k.1 (257 + a + (1 + b)) (257 + a + (1 + b) + 1) [] k.2).1.take (257 + a)) ((rowN N T k.1 (257 + a + (1 + b)) (257 + a + (1 + b) + 1) [] k.2).1.drop (257 + a)),
    (rowN N T k.1 (257 + a + (1 + b)) (257 + a + (1 + b) + 1) [] k.2).2.2)
/-- .. with the numbers a, b, c and the state behind them -/
noncomputable def dynM (N T a b c : Nat) (st : Nat × Nat) : List Nat × List Nat × (Nat × Nat) :=
  dynL N T a b (codeK N T c 19 (List.replicate 19 0, if 286 < 257 + a ∨ 30 < 1 + b then xf 3 st else st))
noncomputable def dynN (N T : Nat) (st : Nat × Nat) : List Nat × List Nat × (Nat × Nat) :=
  dynM N T (xb N T 5 st).1 (xb N T 5 (xb N T 5 st).2).1 (xb N T 4 (xb N T 5 (xb N T 5 st).2).2).1 (xb N T 4 (xb N T 5 (xb N T 5 st).2).2).2
/-- a head: what it is, what is wrong, where the reader stands then -/
noncomputable def kindN (N T p : Nat) (fin : Bool) (k : Nat) (st : Nat × Nat) : HeadN × Nat × Nat :=
  if st.1 ≠ 0 then (HeadN.zero, st.1, p)
  else if k = 0 then (if (storedN N T st).2.1 ≠ 0 then (HeadN.zero, (storedN N T st).2.1, p) else (⟨fin, 0, (storedN N T st).1, [], []⟩, 0, (storedN N T st).2.2))
  else if k = 1 then (⟨fin, 1, 0, fixL, fixD⟩, 0, st.2)
  else if k = 2 then (if (dynN N T st).2.2.1 ≠ 0 then (HeadN.zero, (dynN N T st).2.2.1, p) else (⟨fin, 2, 0, (dynN N T st).1, (dynN N T st).2.1⟩, 0, (dynN N T st).2.2.2))
  else (HeadN.zero, 11, p)
noncomputable def headF (N T p : Nat) : HeadN × Nat × Nat :=
  kindN N T p (decide ((xb N T 1 (0, p)).1 = 1)) (xb N T 2 (xb N T 1 (0, p)).2).1 (xb N T 2 (xb N T 1 (0, p)).2).2
end Go.Cm

/- The walk of the source's stored head; the block of a head. Conditions: the source and the head are there. -/
namespace Go.Cm
open Go.RowKit Go.Proofs

theorem bits_xor_i64 (a b : Nat) (ha : a < 2 ^ 63) (hb : b < 2 ^ 63) : bits .xor .i64 (a : Int) (b : Int) = ((a ^^^ b : Nat) : Int) := by
  have hx : a ^^^ b < 2 ^ 63 := Nat.xor_lt_two_pow ha hb
  have ha' : a % 2 ^ 64 = a := Nat.mod_eq_of_lt (by omega)
  have hb' : b % 2 ^ 64 = b := Nat.mod_eq_of_lt (by omega)
  simp only [bits, BitVec.ofInt_natCast, BitVec.toNat_xor, BitVec.toNat_ofNat, show IntKind.i64.bits = 64 from rfl, ha', hb']
  rw [IntKind.wrap_i64]; omega
theorem xor_turn (n : Nat) (h : n < 65536) : n ^^^ 65535 = 65535 - n := by
  apply Nat.eq_of_testBit_eq
  intro i
  rw [Nat.testBit_xor, show 65535 = 2 ^ 16 - 1 by decide, Nat.testBit_two_pow_sub_one, show 2 ^ 16 - 1 - n = 2 ^ 16 - (n + 1) by omega, Nat.testBit_two_pow_sub_succ (by omega)]
  by_cases hi : i < 16
  · simp [hi]
  · have : n.testBit i = false := Nat.testBit_lt_two_pow (Nat.lt_of_lt_of_le h (by rw [show 65536 = 2 ^ 16 by decide]; exact Nat.pow_le_pow_right (by decide) (by omega)))
    simp [hi, this]
theorem bits_turn (n : Nat) (h : n < 65536) : bits .xor .i64 (n : Int) 65535 = ((65535 - n : Nat) : Int) := by
  have := bits_xor_i64 n 65535 (by omega) (by decide)
  rw [xor_turn n h] at this
  exact this
/-- the block of a head -/
structure BoxH (w : World) (b : Nat) (fin : Bool) (k z : Nat) (v1 v2 : Value) : Prop where
  own : Own w b 87 (.slice (some ⟨b, 0, none⟩) 5 5) [.bool fin, .int .i64 k, .int .i64 z, v1, v2]
section
variable {w w' : World} {b k z : Nat} {fin : Bool} {v1 v2 : Value}
theorem BoxH.up (h : BoxH w b fin k z v1 v2) (hb : Below w.heap.size w w') : BoxH w' b fin k z v1 v2 := ⟨h.own.up hb⟩
theorem BoxH.lt (h : BoxH w b fin k z v1 v2) : b < w.heap.size := (h.own.lt b rfl).2
theorem BoxH.c0 (h : BoxH w b fin k z v1 v2) : w.cell? ⟨b, 0, none⟩ = some (.bool fin) := h.own.cell (by simp)
theorem BoxH.c1 (h : BoxH w b fin k z v1 v2) : w.cell? ⟨b, 1, none⟩ = some (.int .i64 k) := h.own.cell (by simp)
theorem BoxH.c2 (h : BoxH w b fin k z v1 v2) : w.cell? ⟨b, 2, none⟩ = some (.int .i64 z) := h.own.cell (by simp)
theorem BoxH.c3 (h : BoxH w b fin k z v1 v2) : w.cell? ⟨b, 3, none⟩ = some v1 := h.own.cell (by simp)
theorem BoxH.free (h : BoxH w b fin k z v1 v2) (c : Nat) : w.frozen? ⟨b, c, none⟩ = false := h.own.free c
theorem BoxH.set1 (h : BoxH w b fin k z v1 v2) (r : Nat) : BoxH (w.setCell ⟨b, 1, none⟩ (.int .i64 r)) b fin r z v1 v2 ∧ w.grownBy (w.setCell ⟨b, 1, none⟩ (.int .i64 r)) (some b) := ⟨⟨(h.own.store 1 _).1⟩, (h.own.store 1 _).2⟩
theorem BoxH.set2 (h : BoxH w b fin k z v1 v2) (r : Nat) : BoxH (w.setCell ⟨b, 2, none⟩ (.int .i64 r)) b fin k r v1 v2 ∧ w.grownBy (w.setCell ⟨b, 2, none⟩ (.int .i64 r)) (some b) := ⟨⟨(h.own.store 2 _).1⟩, (h.own.store 2 _).2⟩
theorem BoxH.set3 (h : BoxH w b fin k z v1 v2) (u : Value) : BoxH (w.setCell ⟨b, 3, none⟩ u) b fin k z u v2 ∧ w.grownBy (w.setCell ⟨b, 3, none⟩ u) (some b) := ⟨⟨(h.own.store 3 _).1⟩, (h.own.store 3 _).2⟩
theorem BoxH.stay {row : Option Nat} (h : BoxH w b fin k z v1 v2) (hg : w.grownBy w' row) (hne : row ≠ some b) : BoxH w' b fin k z v1 v2 := ⟨h.own.keep hg (.inr (fun e => hne e.symm))⟩
end
end Go.Cm

/- The fixed orders of a block's code lengths. Conditions: none. -/
namespace Go.Cm
open Go.RowKit Go.Proofs

set_option maxRecDepth 100000 in
theorem ordR (w : World) : Calls Try.prog 77 #[] w fun e w' => ∃ v, e = .returned v ∧ Own w' w.heap.size 3 v (ints (nls ordN)) ∧ Below w.heap.size w w' := by
  have HO := Lib.hid (own_lit w w.heap.size (ints (nls ordN)).toArray 3 (by decide) (Nat.le_refl _))
  go_enter Try.func77, Try.ntmps77
  go_wp2
  go_ret
  refine ⟨_, rfl, HO.out, below_alloc _ _⟩
theorem wpList_build_any {P : Program} {ops : Array Oper} {rest : List Oper} {o : Oper} {a : Act} {w : World} {Q : Exit → Act → World → Prop} (hgd : o.guard = none) (t : TypeId) (F : Array (Nat × Operand)) (ho : o.op = .build t F)
    (G : Array (Nat × Value)) (hG : (F.map fun (i, x) => (i, a.eval x)) = G) (C : Array Value) (hb : ∀ W, (Instr.build t G).run P W = .ok (.agg C) W)
    (h : wpList P ops Q rest (a.put o.dst (.agg C)) w) : wpList P ops Q (o :: rest) a w := by
  subst hG
  refine wpList_plain hgd fun K hK => ?_
  unfold Oper.wp execOp
  simp only [ho, Sem.run_bind, hb, Result.andThen_ok]
  exact hK _ _ h
def z19 : Array Value := (ints (List.replicate 19 0)).toArray
theorem zero_19 (W : World) : (zeroValue 138).run Try.prog W = .ok (.agg z19) W := by kernel_rfl
def ordG : Array (Nat × Value) := ((List.range 19).map fun i => (i, Value.int .i64 (ordN.getD i 0 : Nat))).toArray
theorem build_ord (W : World) : (Instr.build 138 ordG).run Try.prog W = .ok (.agg (ints (nls ordN)).toArray) W := by kernel_rfl
set_option maxRecDepth 100000 in
theorem ordP (w : World) : Calls Try.prog 93 #[] w fun e w' => e = .returned (.agg (ints (nls ordN)).toArray) ∧ Below w.heap.size w w' := by
  have hz := zero_19
  have hzl : z19.toList = ints (nls (List.replicate 19 0)) := rfl
  obtain ⟨Z, hZ⟩ : ∃ Z, Z = z19 := ⟨_, rfl⟩
  rw [← hZ] at hz hzl
  have hb := boxA_new w 138 Z (nls (List.replicate 19 0)) hzl (by decide)
  rw [show (nls (List.replicate 19 0)).length = 19 from rfl] at hb
  have hbd := build_ord
  have hl : ordN.length = 19 := rfl
  obtain ⟨O, hO⟩ : ∃ O, O = ordN := ⟨_, rfl⟩
  obtain ⟨R, hR⟩ : ∃ R, R = List.replicate 19 0 := ⟨_, rfl⟩
  rw [← hR] at hb
  rw [← hO] at hbd hl ⊢
  obtain ⟨C, hC⟩ : ∃ C, C = (ints (nls O)).toArray := ⟨_, rfl⟩
  rw [← hC] at hbd
  have HC := Lib.hid hC
  have HB := Lib.hid hb
  clear hZ hzl hO hR hC hb
  go_enter Try.func93, Try.ntmps93
  go_wp2_with (first | (refine wpList_build_any rfl 138 _ rfl ordG (by kernel_rfl) C hbd ?_) | (refine store_box rfl 138 19 _ _ rfl w.heap.size rfl (nls R) (nls O) (congrArg Value.agg HC.out) (by rw [nls_length]; exact hl) (by kernel_rfl) HB.out ?_; intro w2 hB2 hg2; have HB4 := Lib.hid hB2; have HG2 := Lib.hid hg2; clear hB2 hg2))
  refine ret_one_cell (s := 0) (ad := ⟨w.heap.size, 0, none⟩) (x := .agg (ints (nls O)).toArray) rfl rfl rfl (HB4.out.load _ Try.underlying138 rfl (by kernel_rfl)) ?_
  exact ⟨rfl, (below_alloc w _).grown HG2.out (by simp) (fun k hk => by cases hk; exact Nat.le_refl _)⟩
end Go.Cm

/- Whether both codes of a block fit: the program's fits and the document's. Conditions: the arguments read as lists, the first is long enough. -/
namespace Go.Cm
open Go.RowKit Go.Proofs

theorem fits2R (u v : Value) (lits dists : List Nat) (w : World) (hu : IntsAt w u (nls lits)) (hv : IntsAt w v (nls dists)) (h256 : 256 < lits.length) :
    Calls Try.prog 74 #[u, v] w fun e w' => e = .returned (.int .i64 (fits2 lits dists : Nat)) ∧ Below w.heap.size w w' := by
  have HF1 := Lib.hid (fitsR u (nls lits) true w hu)
  have HF2 := Lib.hid (fun W (hb : Below w.heap.size w W) => fitsR v (nls dists) true W (hv.up hb))
  obtain ⟨oa, cap, b, off, hvv, hd, hc⟩ := hu.open
  rw [nls_length] at hvv hd hc
  subst hvv
  have hcell := hc 256 h256
  rw [nls_getD] at hcell
  have hix := index_any (P := Try.prog) 39 3 Try.underlying39 (by kernel_rfl) hd
  have hm := hd.len
  have hbb := hd.hblk (by omega)
  have hli : (256 : Int) < (lits.length : Int) := by omega
  obtain ⟨r, hr⟩ : ∃ r, r = fits2 lits dists := ⟨_, rfl⟩
  rw [← hr]
  unfold fits2 at hr
  have HR := Lib.hid hr
  clear hc hd hu hv hr
  generalize fitsE (nls lits) true = e1 at *
  generalize fitsE (nls dists) true = e2 at *
  generalize lits.getD 256 0 = y at *
  generalize lits.length = m at *
  by_cases hy : y = 0
  · have h21 : r = 21 := by rw [HR.out]; exact if_pos hy
    subst h21 hy
    clear HR
    go_enter Try.func74, Try.ntmps74
    go_wp2
    go_ret
    exact ⟨rfl, Below.refl _ _⟩
  · have hy' : ((y : Int) == 0) = false := by simp; omega
    by_cases he : e1 = 0
    · have h2 : r = e2 := by rw [HR.out, if_neg hy]; exact if_neg (by omega)
      subst h2 he
      clear HR hy
      go_enter Try.func74, Try.ntmps74
      go_wp2_with (first | (go_at_call 99; (with_reducible refine HF1.out.mono ?_); rintro e w1 ⟨rfl, hb1⟩; (have HB1 := Lib.hid hb1; have HFF := Lib.hid (HF2.out w1 HB1.out); clear hb1)) | (go_at_call 99; (with_reducible refine HFF.out.mono ?_); rintro e w2 ⟨rfl, hb2⟩; (have HB2 := Lib.hid (below_up HB1.out hb2); clear hb2)))
      go_ret
      exact ⟨rfl, HB2.out⟩
    · have h2 : r = e1 := by rw [HR.out, if_neg hy]; exact if_pos he
      have he' : ((e1 : Int) != 0) = true := by simpa using he
      subst h2
      clear HR hy he
      go_enter Try.func74, Try.ntmps74
      go_wp2_with (go_at_call 99; (with_reducible refine HF1.out.mono ?_); rintro e w1 ⟨rfl, hb1⟩; (have HB1 := Lib.hid hb1; clear hb1))
      go_ret
      exact ⟨rfl, HB1.out⟩
end Go.Cm

/- A region that draws its order, by a script: looks that are taken first, and branches where several operations may come next. Conditions: none. -/
namespace Go.Cm
open Go.RowKit

inductive Scr where
  | done
  | q (i : Nat) (s : Scr)
  | br (i : Nat) (s : Scr) (t : Scr)
  | no
def Scr.heads : Scr → List Nat
  | .br i _ t => i :: t.heads
  | _ => []
def Scr.run (md : Region.Mode) (ops : Array Oper) : Scr → Bool → Nat → Array Bool → Bool
  | .done, top, n, listed => top && n == 0 && Region.ready md ops listed == []
  | .q i s, top, n, listed => top && decide (0 < n) && (Region.ready md ops listed).contains i && Region.free md ops listed i && ((ops[i]?).map (fun o => noCall o.op)).getD false && s.run md ops true (n - 1) (listed.setIfInBounds i true)
  | .br i s t, top, n, listed => (!top || Region.ready md ops listed == i :: t.heads) && decide (0 < n) && ((ops[i]?).isSome) && s.run md ops true (n - 1) (listed.setIfInBounds i true) && t.run md ops false n listed
  | .no, top, _, _ => !top
/-- one after the other -/
def Scr.as : List Nat → Scr → Scr
  | [], s => s
  | i :: r, s => .br i (Scr.as r s) .no
section
variable {P : Program} {ops : Array Oper} {md : Region.Mode} {C : World → Prop}
end
end Go.Cm

/- Parts of slices, tables that stay, lengths of rows. Conditions: none. -/
namespace Go.Cm
open Go.RowKit Go.Proofs

theorem run_cut {P : Program} (t E : TypeId) (ht : P.underlying t = some (.slice E)) (hE : (P.info? E).map (·.size) = some 1) : P.underlying t = some (.slice (P.elem t)) ∧ ∀ W : World, (sizeOf (P.elem t)).run P W = .ok 1 W := by
  have he : P.elem t = E := by simp [Program.elem, ht]
  refine ⟨by rw [he]; exact ht, fun W => ?_⟩
  rw [he]
  cases hq : P.info? E with
  | none => simp [hq] at hE
  | some inf =>
    have : inf.size = 1 := by simpa [hq] using hE
    simp [sizeOf, typeInfo, hq, this]
/-- the first n of a slice -/
theorem Sl.low {P : Program} {w : World} {v : Value} {l : List Value} (h : Sl w v l) (t E : TypeId) (ht : P.underlying t = some (.slice E)) (hE : (P.info? E).map (·.size) = some 1) (n : Nat) (hn : n ≤ l.length) :
    ∃ u, (∀ W : World, (Instr.sliceAt t v none (some (.int .i64 (n : Int))) none).run P W = .ok u W) ∧ Sl w u (l.take n) := by
  obtain ⟨oa, cap, b, off, rfl, hd, hc⟩ := h
  obtain ⟨h1, h2⟩ := run_cut t E ht hE
  have hcap := hd.hcap
  have hl : (l.take n).length = n := by rw [List.length_take]; omega
  refine ⟨sliced oa 0 n cap 1, fun W => ?_, ?_⟩
  · rw [run_sliceAt_slice (P := P) (t := t) (h := h1), run_slice_h (t := t) (ht := h1) (h0 := by omega) (h2 := by omega), h2]
    simp [Result.andThen]
  · refine ⟨if cap = 0 then oa else oa.map (·.add (0 * 1)), cap, b, off, by rw [hl]; simp [sliced], ⟨fun h0 => ?_, by omega, hd.hmax, by have := hd.hsml; omega, fun h0 => hd.hblk (by omega)⟩, fun i hi => ?_⟩
    · rw [hl] at h0
      rw [if_neg (by omega), hd.hat (by omega)]
      simp [add_off]
    · rw [hl] at hi
      rw [hc i (by omega)]
      simp [List.getD, hi]
/-- a slice from n on -/
theorem Sl.high {P : Program} {w : World} {v : Value} {l : List Value} (h : Sl w v l) (t E : TypeId) (ht : P.underlying t = some (.slice E)) (hE : (P.info? E).map (·.size) = some 1) (n : Nat) (hn : n ≤ l.length) :
    ∃ u, (∀ W : World, (Instr.sliceAt t v (some (.int .i64 (n : Int))) none none).run P W = .ok u W) ∧ Sl w u (l.drop n) := by
  obtain ⟨oa, cap, b, off, rfl, hd, hc⟩ := h
  obtain ⟨h1, h2⟩ := run_cut t E ht hE
  have hcap := hd.hcap
  have hl : (l.drop n).length = l.length - n := by rw [List.length_drop]
  refine ⟨sliced oa n l.length cap 1, fun W => ?_, ?_⟩
  · rw [run_sliceAt_slice (P := P) (t := t) (h := h1), run_slice_l (t := t) (ht := h1) (h0 := by omega) (h1 := by omega), h2]
    simp [Result.andThen]
  · refine ⟨if cap = n then oa else oa.map (·.add (n * 1)), cap - n, b, off + n, by rw [hl]; simp [sliced], ⟨fun h0 => ?_, by omega, by have := hd.hmax; omega, by have := hd.hsml; omega, fun h0 => hd.hblk (by omega)⟩, fun i hi => ?_⟩
    · rw [hl] at h0
      rw [if_neg (by omega), hd.hat (by omega)]
      simp [add_off]
    · rw [hl] at hi
      rw [Nat.add_assoc, hc (n + i) (by omega)]
      simp [List.getD]
end Go.Cm

/- A text as parts, in plain Lean; parts of a call's own; a text as bytes. Conditions: as each says. -/
namespace Go.Cm
open Go.RowKit Go.Proofs

/-- the part of a piece -/
def ptAt (i : Nat) (t : Byts) : PtN := if i % 2 = 0 then ⟨0, ⟨t.toArray⟩, [], [], []⟩ else ⟨1, ⟨#[]⟩, opsOf t, [], []⟩
def splitFr (n : Nat) : Nat → Nat → Byts → List PtN
  | 0, _, _ => []
  | f + 1, i, t => if t.drop (min n t.length) = [] then [ptAt i (t.take (min n t.length))] else ptAt i (t.take (min n t.length)) :: splitFr n f (i + 1) (t.drop (min n t.length))
def sizeN (n : Int) : Nat := if n < 1 ∨ 65535 < n then 65535 else n.toNat
def splitN (t : Byts) (n : Int) : List PtN := splitFr (sizeN n) (t.length + 1) 0 t
theorem sizeN_pos (n : Int) : 1 ≤ sizeN n ∧ sizeN n ≤ 65535 := by unfold sizeN; split <;> omega
theorem splitFr_last {n f i : Nat} {t : Byts} (h : t.drop (min n t.length) = []) : splitFr n (f + 1) i t = [ptAt i (t.take (min n t.length))] := if_pos h
theorem splitFr_more {n f i : Nat} {t : Byts} (h : t.drop (min n t.length) ≠ []) : splitFr n (f + 1) i t = ptAt i (t.take (min n t.length)) :: splitFr n f (i + 1) (t.drop (min n t.length)) := if_neg h
/-- a part's cells, its ops in a block beside a row -/
def PtOwn (w : World) (B : Nat) (row : Option Nat) (c : List Value) (p : PtN) : Prop :=
  ∃ vo, c = [.int .i64 p.kind, .string p.text, vo, .slice none 0 0, .slice none 0 0] ∧ OwnK 3 w B 75 vo (p.ops.map opV) ∧ (∀ q, vo.ownBlock = some q → row ≠ some q) ∧ p.lits = [] ∧ p.dists = []
/-- parts of the call's own -/
def PartsOwn (w : World) (B T : Nat) (v : Value) (l : List PtN) : Prop := ∃ cs, OwnK 5 w B T v cs ∧ cs.length = l.length ∧ ∀ i, i < l.length → PtOwn w B v.ownBlock (cs.getD i []) (l.getD i zPt)
theorem PartsOwn.nil (w : World) (B T : Nat) : PartsOwn w B T (.slice none 0 0) [] := ⟨[], OwnK.nil 5 w B T, rfl, fun i hi => absurd hi (Nat.not_lt_zero i)⟩
theorem PtOwn.keep {w w' : World} {B : Nat} {row r2 : Option Nat} {c : List Value} {p : PtN} (h : PtOwn w B row c p) (hg : w.grownBy w' row) (h2 : ∀ q, r2 = some q → row = some q ∨ w.heap.size ≤ q) : PtOwn w' B r2 c p := by
  obtain ⟨vo, hc, ho, hn, h3⟩ := h
  refine ⟨vo, hc, ho.keep hg ?_, fun q hq e => ?_, h3⟩
  · cases hv : vo.ownBlock with
    | none => exact .inl rfl
    | some q => exact .inr (fun e => hn q hv e.symm)
  · rcases h2 q e with h4 | h4
    · exact hn q hq h4
    · have := (ho.lt q hq).2; omega
theorem PartsOwn.up {w w' : World} {B T : Nat} {v : Value} {l : List PtN} (h : PartsOwn w B T v l) (hb : Below w.heap.size w w') : PartsOwn w' B T v l := by
  obtain ⟨cs, h1, h2, h3⟩ := h
  exact ⟨cs, h1.up hb, h2, fun i hi => (h3 i hi).keep (grown_below hb _) (fun q e => .inl e)⟩
theorem PartsOwn.snoc {w w5 : World} {B T : Nat} {v v' : Value} {l : List PtN} {cs : List (List Value)} {c : List Value} {p : PtN} (hl : cs.length = l.length) (h3 : ∀ i, i < l.length → PtOwn w B v.ownBlock (cs.getD i []) (l.getD i zPt)) (hp : PtOwn w B v.ownBlock c p) (ho : OwnK 5 w5 B T v' (cs ++ [c])) (hg : w.grownBy w5 v.ownBlock) (hk : ∀ q, v'.ownBlock = some q → v.ownBlock = some q ∨ w.heap.size ≤ q) : PartsOwn w5 B T v' (l ++ [p]) := by
  refine ⟨cs ++ [c], ho, by simp [hl], fun i hi => ?_⟩
  rw [List.length_append, List.length_singleton] at hi
  rcases Nat.lt_or_ge i l.length with h | h
  · have e1 : (cs ++ [c]).getD i [] = cs.getD i [] := by simp [List.getD, List.getElem?_append_left (show i < cs.length by omega)]
    have e2 : (l ++ [p]).getD i zPt = l.getD i zPt := by simp [List.getD, List.getElem?_append_left h]
    rw [e1, e2]
    exact (h3 i h).keep hg hk
  · obtain rfl : i = l.length := by omega
    have e1 : (cs ++ [c]).getD l.length [] = c := by rw [← hl]; simp [List.getD]
    have e2 : (l ++ [p]).getD l.length zPt = p := by simp [List.getD]
    rw [e1, e2]
    exact hp.keep hg hk
theorem PtOwn.cells {w : World} {B : Nat} {row : Option Nat} {c : List Value} {p : PtN} (h : PtOwn w B row c p) : PtCells w c p := by
  obtain ⟨vo, hc, ho, -, h1, h2⟩ := h
  refine ⟨vo, .slice none 0 0, .slice none 0 0, hc, ho.sl, ?_, ?_⟩
  · rw [h1]; exact Sl.nil w
  · rw [h2]; exact Sl.nil w
theorem PartsOwn.at {w : World} {B T : Nat} {v : Value} {l : List PtN} (h : PartsOwn w B T v l) : PartsAt w v l := by
  obtain ⟨cs, h1, h2, h3⟩ := h
  exact ⟨cs, h1.sl, h2, fun i hi => (h3 i hi).cells⟩
/-- '[]byte(s)' -/
theorem wpList_bytes_of {P : Program} {ops : Array Oper} {rest : List Oper} {o : Oper} {a : Act} {w : World} {Q : Exit → Act → World → Prop} (hgd : o.guard = none) (src dst e : TypeId) (x : Operand) (ho : o.op = .convert src dst x) (hs : P.underlying src = some .string) (hd : P.underlying dst = some (.slice e)) (he : P.underlying e = some (.int .u8)) (s : ByteArray) (hx : a.eval x = .string s) (hsz : s.size ≤ 100000000)
    (h : ∀ v' w', Sl w' v' (bytesV (bys s)) → Below w.heap.size w w' → wpList P ops Q rest (a.put o.dst v') w') : wpList P ops Q (o :: rest) a w := by
  have hr := run_bytes_of_string (P := P) w src dst e s hs hd he
  refine wpList_plain hgd fun K hK => ?_
  unfold Oper.wp execOp
  simp only [ho, hx, Sem.run_bind, Sem.run_pure, Result.andThen_ok, hr]
  refine hK _ _ (h _ _ ?_ ?_)
  · have hl : (bytesV (bys s)).length = s.size := by rw [bytesV_length, bys_len]
    have hmx : s.size ≤ maxLen := by simp only [maxLen]; omega
    refine ⟨some ⟨w.heap.size, 0, none⟩, grownCap w s.size 0 e, w.heap.size, 0, by rw [hl], ⟨fun _ => rfl, by rw [hl]; exact grownCap_ge w s.size 0 e, grownCap_le_maxLen w s.size 0 e hmx, by rw [hl]; omega, fun _ => by simp⟩, fun i hi => ?_⟩
    rw [hl] at hi
    have hg : (w.drew.alloc (.cells (bytesRow s (grownCap w s.size 0 e)) e ((bytesRow s (grownCap w s.size 0 e)).size, (bytesRow s (grownCap w s.size 0 e)).size + 1))).heap[w.heap.size]? = some (.cells (bytesRow s (grownCap w s.size 0 e)) e ((bytesRow s (grownCap w s.size 0 e)).size, (bytesRow s (grownCap w s.size 0 e)).size + 1)) := by
      show (w.heap.push _)[w.heap.size]? = _
      simp
    rw [cell_of_row _ _ _ _ _ _ hg, Nat.zero_add]
    have hi' : i < (bys s).length := by rw [bys_len]; exact hi
    have hi2 : i < s.data.size := hi
    unfold bytesRow
    rw [Array.getElem?_append_left (by simp; exact hi2)]
    simp only [bytesV, List.getD, bys, List.getElem?_map, Array.getElem?_toList, Array.getElem?_map]
    rw [Array.getElem?_eq_getElem hi2]
    rfl
  · exact (below_drewN w 1).trans ((below_alloc w.drew _).mono (Nat.le_refl _))
theorem bys_extract (s : ByteArray) (a b : Nat) : bys (s.extract a b) = ((bys s).drop a).take (b - a) := by
  have : s = ⟨(bys s).toArray⟩ := by cases s; simp [bys]
  conv => lhs; rw [this]
  rw [ByteArray.extract_mk]
  simp [bys]
theorem bys_mk (t : Byts) : bys ⟨t.toArray⟩ = t := by simp [bys]
end Go.Cm
