/- Texts of this claim, joined: walks of small functions and plain facts about them. Conditions: as each says. -/
import Derived.Test.YtmophmeiemfikaaGreatBO
import Derived.Test.YtmophmeiemfikaaGreatRows
import Derived.WalkKit
import Derived.WalkSpells
import Derived.WalkLawsBesides
import Derived.Deep.QuietTactic
import Derived.BigQuiet
import Derived.Lib.Hide
import Derived.Laws.Small
import Derived.Deep.LoopGhost
import Derived.Laws.BitsLemmas
import Derived.Deep.DeepCutAuto
import Derived.Deep.CutBlock
import Derived.Deep.CutRange
import Derived.Laws.IdiomStrings
import Derived.Laws.CopyOwn
import Derived.Laws.EntriesVeiled
import Derived.Shelf.Abstract
/- The walk of a block's head. Conditions: the machine is there. -/
namespace Go.Cm
open Go.RowKit Go.Proofs

/-- what keeps of the machine's words -/
def MKeep2 (m m' : MV) : Prop := m'.made = m.made ∧ m'.told = m.told ∧ m'.waits = m.waits ∧ m'.wrong = m.wrong
/-- what a step of the machine answers -/
def RetFull (B gm gr gw : Nat) (vb : Value) (X : Nat → Prop) (s : ByteArray) (z : IS) (m : MV) (y : Nat × IS) (w : World) (e : Ending) (w' : World) : Prop :=
  ∃ c p' H' vb' m', e = .returned (.tuple #[.string c, .int .i64 (y.1 : Nat)]) ∧ Fx (FSet gm gr gw vb m.vs) w w' ∧ (∀ k, vb'.ownBlock = some k → vb.ownBlock = some k ∨ w.heap.size ≤ k) ∧ (∀ k, m'.vs.ownBlock = some k → m.vs.ownBlock = some k ∨ w.heap.size ≤ k) ∧ MKeep2 m m' ∧
    (y.1 = 0 → Full w' B gm gr gw vb' X s y.2 m' ∧ y.2.h = z.h ++ bys c) ∧ (y.1 ≠ 0 → Full0 w' B gm gr gw vb' s p' H' z.st m')
theorem start_one (a b : Nat) : ∀ u ∈ ([[Value.int .i64 (a : Nat), .int .i64 (b : Nat)]] : List (List Value)).flatten, u.oneCell' = true := by
  intro u hu; simp at hu; rcases hu with rfl | rfl <;> rfl
theorem start_len (a b : Nat) : ∀ x ∈ ([[Value.int .i64 (a : Nat), .int .i64 (b : Nat)]] : List (List Value)), x.length = 2 := by
  intro x hx; simp at hx; subst hx; rfl
set_option maxRecDepth 100000 in
set_option maxHeartbeats 4000000 in
theorem headM {w : World} {B gm gr gw pre : Nat} {vb : Value} {X : Nat → Prop} {s : ByteArray} {z : IS} {m : MV} (h : Full0 w B gm gr gw vb s z.p z.h z.st m) (hs : s.size ≤ 4294967296) (hp : z.p ≤ 8 * s.size) (hmade : m.made = z.h.length - pre) (hst : z.st.length ≤ 100000000) (hX : ∀ k, X k → k < w.heap.size) :
    Calls Tryz.prog 24 #[.pointer (some ⟨gm, 0, none⟩)] w (RetFull B gm gr gw vb X s z m (headI (numS s) (8 * s.size) pre z) w) := by
  obtain ⟨Y, hY⟩ : ∃ Y, Y = headI (numS s) (8 * s.size) pre z := ⟨_, rfl⟩
  rw [← hY]
  have HY := Lib.hid hY
  clear hY
  unfold headI at HY
  have HF := Lib.hid h
  have HX := Lib.hid hX
  clear hX
  have HAT := Lib.hid (atS h.mach.rd)
  have HRP := Lib.hid (readHP h.mach.rd hs hp)
  unfold RetHead at HRP
  have HER := Lib.hid (fun e => head_err (N := numS s) (T := 8 * s.size) (p := z.p) ⟨s.size, rfl⟩ hp e)
  have HKI := Lib.hid (fun e => head_kinds (N := numS s) (T := 8 * s.size) (p := z.p) e)
  have HSZ := Lib.hid (fun e => head_size (N := numS s) (T := 8 * s.size) (p := z.p) ⟨s.size, rfl⟩ hp e)
  generalize headF (numS s) (8 * s.size) z.p = D at *
  have HMD := Lib.hid hmade
  have c0 : w.cell? ⟨gm, 0, none⟩ = some (.pointer (some ⟨gr, 0, none⟩)) := h.mach.box.cell (by decide)
  have hgm := h.mach.box.blk.2
  clear h hmade
  go_enter Tryz.func24, Tryz.ntmps24
  go_upto_region 3 with (first | ((with_reducible go_at_call 29); (with_reducible refine HAT.out.mono ?_); rintro e w' ⟨rfl, hw⟩; rw [hw]; clear hw) | ((with_reducible go_at_call 36); (with_reducible refine HRP.out.mono ?_); rintro e w1 ⟨v1, v2, rfl, ho1, ho2, hx, hg⟩; have HX1 := Lib.hid hx; have HG1 := Lib.hid hg; have HO1 := Lib.hid ho1; have HO2 := Lib.hid ho2; obtain ⟨o1, c1, g1, hv1, -⟩ := ho1.cases; obtain ⟨o2, c2, g2, hv2, -⟩ := ho2.cases; subst hv1 hv2; generalize (ints (nls D.1.lits)).length = n1 at *; generalize (ints (nls D.1.dists)).length = n2 at *; clear ho1 ho2 hx hg))
  have HHA := Lib.hid (ownH w1 D.1.fin (D.1.kind : Nat) (D.1.size : Nat) o1 o2 n1 n2 c1 c2 90)
  have HBA := Lib.hid (below_alloc w1 (.cells #[.bool D.1.fin, .int .i64 (D.1.kind : Nat), .int .i64 (D.1.size : Nat), .slice o1 n1 c1, .slice o2 n2 c2] 90))
  obtain ⟨hM1, hF1⟩ := HF.out.mach.read HX1.out HG1.out
  have HM2 := Lib.hid (hM1.up HBA.out)
  have HB2 := Lib.hid HBA.out.size
  have HF2 := Lib.hid (hF1.trans (fx_below (S := MSet gm gr gw vb) HBA.out))
  have HO1' := Lib.hid (HO1.out.up HBA.out)
  have HO2' := Lib.hid (HO2.out.up HBA.out)
  have hw1 : w.heap.size ≤ w1.heap.size := HG1.out.size
  generalize w1.alloc (.cells #[.bool D.1.fin, .int .i64 (D.1.kind : Nat), .int .i64 (D.1.size : Nat), .slice o1 n1 c1, .slice o2 n2 c2] 90) = w2 at *
  have HW1 := Lib.hid hw1
  generalize w1.heap.size = b1 at *
  clear hM1 hF1 HX1 HG1 HO1 HO2 HBA HAT HRP c0 hgm
  have HU2 := Lib.hid (HF.out.make HM2.out HF2.out (fun k e => .inl e) rfl id)
  by_cases he : D.2.1 = 0
  · rw [if_neg (by rw [he]; exact fun h => h rfl)] at HY
    have hei : ((D.2.1 : Int) != 0) = false := by rw [he]; rfl
    have HKI2 := Lib.hid (HKI.out he)
    have HER2 := Lib.hid (HER.out he)
    have HSZ2 := Lib.hid (HSZ.out he)
    go_upto_region 5 with (fail)
    obtain ⟨row, hrw⟩ : ∃ row, row = m.vs.ownBlock := ⟨_, rfl⟩
    have HROW := Lib.hid hrw
    have hne : some gm ≠ row := fun e => (HU2.out.sd gm (by rw [← hrw, ← e])).1 rfl
    have c11 : w2.cell? ⟨gm, 11, none⟩ = some m.vs := HM2.out.box.cell (by decide)
    have c7 : w2.cell? ⟨gm, 7, none⟩ = some (.int .i64 (m.made : Nat)) := HM2.out.box.cell (by decide)
    have hgm := HM2.out.box.blk.2
    obtain ⟨mm, hmm⟩ : ∃ mm, mm = m.made := ⟨_, rfl⟩
    have HMM := Lib.hid hmm
    rw [← hmm] at c7
    have HTO := Lib.hid ((HU2.out.sts.up (below_drewN w2 1)).up (below_alloc _ (.cells #[.int .i64 (z.p : Nat), .int .i64 (mm : Nat)] 49)))
    rw [← World.drew_is_drewN] at HTO
    have hsl := slK_lit 2 w2.drew #[.int .i64 (z.p : Nat), .int .i64 (mm : Nat)] 49 [[.int .i64 (z.p : Nat), .int .i64 (mm : Nat)]] rfl (start_len _ _) (by simp)
    have HSL : Hid (SlK 2 (w2.drew.alloc (.cells #[.int .i64 (z.p : Nat), .int .i64 (mm : Nat)] 49)) (.slice (some ⟨w2.heap.size, 0, none⟩) 1 1) [[.int .i64 (z.p : Nat), .int .i64 (mm : Nat)]]) := Lib.hid (by simpa using hsl)
    have HLN : Hid ((z.st.map stC).length + [[Value.int .i64 (z.p : Nat), .int .i64 (mm : Nat)]].length ≤ 1000000000) := Lib.hid (by rw [List.length_map, List.length_singleton]; omega)
    have HT4 : Hid (B ≤ (w2.drew.alloc (.cells #[.int .i64 (z.p : Nat), .int .i64 (mm : Nat)] 49)).heap.size) := Lib.hid (Nat.le_trans HM2.out.B (below_alloc w2.drew _).size)
    clear hrw hsl hmm
    refine wp_region_tail (fun w' => ∃ x, w' = chg w2 row x) [0,1,2,3,4,5,6,7,8,9,10] [11,12,13,14] [15] (by kernel_rfl) (by kernel_rfl) (ex_chg (grown_drew _ _)) ?_
    simp only [pick, List.map_cons, List.map_nil, List.getD_cons_zero, List.getD_cons_succ]
    repeat (go_big_quiet_step (fail))
    refine wpQuiet_nil ?_
    (unfold wpAct; go_wp2; refine ⟨ex_chg (grown_below (by repeat (first | exact Below.refl _ _ | assumption | refine b_drewN ?_ _ | refine Below.drew ?_ | refine b_ext' ?_ _ | refine b_alloc' ?_ _)) _), ?_⟩)
    unfold wpAct
    go_wp2_with (at_builtin; go_loud (refine wpList_appK 2 rfl (.tmp 27) (.tmp 34) 24 rfl B 49 (.agg #[.int .i64 0, .int .i64 0]) 16 Tryz.underlying24 (by kernel_rfl) rfl (by decide) (by decide) m.vs _ rfl HTO.out _ _ rfl HSL.out (start_len _ _) (start_one _ _) HLN.out HT4.out ?_); intro v' w5 hown1 hg1 hk1; rw [← HROW.out] at hg1 hk1; have HO5 := Lib.hid hown1; have HG5 := Lib.hid hg1; have HK5 := Lib.hid hk1; clear hown1 hg1 hk1)
    refine ⟨ex_chg (grown_trans (grown_below (by repeat (first | exact Below.refl _ _ | assumption | refine b_drewN ?_ _ | refine Below.drew ?_ | refine b_ext' ?_ _ | refine b_alloc' ?_ _)) _) HG5.out), ?_⟩
    (unfold wpAct; go_wp2; refine ⟨ex_chg (grown_trans (grown_below (by repeat (first | exact Below.refl _ _ | assumption | refine b_drewN ?_ _ | refine Below.drew ?_ | refine b_ext' ?_ _ | refine b_alloc' ?_ _)) _) HG5.out), ?_⟩)
    (unfold wpAct; go_wp2; refine ⟨ex_chg (grown_trans (grown_below (by repeat (first | exact Below.refl _ _ | assumption | refine b_drewN ?_ _ | refine Below.drew ?_ | refine b_ext' ?_ _ | refine b_alloc' ?_ _)) _) HG5.out), ?_⟩)
    unfold wpAct
    have HU3 := Lib.hid ((HU2.out.up (below_drewN w2 1)).up (below_alloc _ (.cells #[.int .i64 (z.p : Nat), .int .i64 (mm : Nat)] 49)))
    rw [← World.drew_is_drewN] at HU3
    obtain ⟨o5, k5, q5, off5, hv5, -, -⟩ := HO5.out.sl
    obtain ⟨l5, hl5⟩ : ∃ l5, l5 = (z.st.map stC ++ [[Value.int .i64 (z.p : Nat), .int .i64 (mm : Nat)]]).length := ⟨_, rfl⟩
    rw [← hl5] at hv5
    subst hv5
    obtain ⟨hB5, hU6, hF6⟩ := HU3.out.push (x := (z.p, mm)) HO5.out (by have h := HG5.out; rw [HROW.out] at h; exact h) (by have h := HK5.out; rw [HROW.out] at h; exact h)
    have c115 : w5.cell? ⟨gm, 11, none⟩ = some m.vs := hB5.cell (by decide)
    have f115 := hB5.free 11
    have g5 := hB5.blk.2
    have HU6 := Lib.hid hU6
    have hb3 : Below w2.heap.size w2 (w2.drew.alloc (.cells #[.int .i64 (z.p : Nat), .int .i64 (mm : Nat)] 49)) := (below_drewN w2 1).trans ((below_alloc _ _).mono (Nat.le_refl _))
    have HF6 := Lib.hid ((fx_below (S := FSet gm gr gw vb m.vs) hb3).trans hF6)
    have HK6 : Hid (∀ k, (Value.slice o5 l5 k5).ownBlock = some k → m.vs.ownBlock = some k ∨ w2.heap.size ≤ k) := Lib.hid (fun k e => by
      have h := HK5.out k e
      rw [HROW.out] at h
      exact h.imp id (fun q => Nat.le_trans hb3.size q))
    clear hB5 hU6 hF6 HU3 hl5 HTO HSL HLN HT4 HG5 HK5 HO5
    unfold wpAct
    go_wp2
    refine ⟨trivial, ?_⟩
    unfold wpAct
    generalize w5.setCell ⟨gm, 11, none⟩ (.slice o5 l5 k5) = w6 at *
    clear c115 f115 g5 c11 c7 hgm hb3
    have hlt : gm < w.heap.size ∧ gr < w.heap.size ∧ gw < w.heap.size ∧ (∀ k, vb.ownBlock = some k → k < w.heap.size) ∧ (∀ k, m.vs.ownBlock = some k → k < w.heap.size) := by
      obtain ⟨b, hb, -⟩ := HF.out.mach.win
      exact ⟨HF.out.mach.box.blk.2, HF.out.mach.rd.lt, hb.box.blk.2, fun k e => (hb.own.lt k e).2, fun k e => (HF.out.sts.lt k e).2⟩
    have HLT := Lib.hid hlt
    have hge : ∀ k, w.heap.size ≤ k → ¬ FSet gm gr gw vb m.vs k := fun k hk e => by
      obtain ⟨a, b, c, d, f⟩ := hlt
      rcases e with (e | e | e | e) | e
      · omega
      · omega
      · omega
      · have := d k e; omega
      · have := f k e; omega
    have HGE := Lib.hid hge
    have HH6 := Lib.hid (HF6.out.own HHA.out (fun k e => by cases e; exact hge _ HW1.out))
    have HI1 := Lib.hid (HF6.out.own HO1'.out (fun k e => hge k (HO1'.out.lt k e).1))
    have HI2 := Lib.hid (HF6.out.own HO2'.out (fun k e => hge k (HO2'.out.lt k e).1))
    obtain ⟨hS7, hG7⟩ := HU6.out.mach.box.set 3 (.bool D.1.fin) (m' := { m with vs := .slice o5 l5 k5, fin := D.1.fin }) rfl
    obtain ⟨hU7, hF7⟩ := HU6.out.mset hS7 hG7 rfl
    have hbne : gm ≠ b1 := fun e => by have := hlt.1; have := HW1.out; omega
    have HH7 := Lib.hid (HH6.out.keep hG7 (.inr (fun e => hbne (by injection e with e; exact e.symm))))
    have HI17 := Lib.hid (HI1.out.keep hG7 (.inr (fun e => by have h1 := (HI1.out.lt gm e).1; have := hlt.1; omega)))
    have HI27 := Lib.hid (HI2.out.keep hG7 (.inr (fun e => by have h1 := (HI2.out.lt gm e).1; have := hlt.1; omega)))
    have HU7 := Lib.hid hU7
    have HF7 := Lib.hid (ffx_next HF6.out (fun k e => .inl e) (fun k e => HK6.out k e) hF7)
    have c3 : w6.cell? ⟨gm, 3, none⟩ = some (.bool m.fin) := HU6.out.mach.box.cell (by decide)
    have f3 := HU6.out.mach.box.free 3
    have g6 := HU6.out.mach.box.blk.2
    have p0 : w6.cell? ⟨b1, 0, none⟩ = some (.bool D.1.fin) := HH6.out.cell (by simp)
    have p1 : (w6.setCell ⟨gm, 3, none⟩ (.bool D.1.fin)).cell? ⟨b1, 1, none⟩ = some (.int .i64 (D.1.kind : Nat)) := HH7.out.cell (by simp)
    have hb6 := HH6.out.blk.2
    clear hS7 hG7 hU7 hF7 hge hlt HI1 HI2 HO1' HO2' HHA HH6 HU2 HM2
    go_upto_region 7 with (fail)
    generalize w6.setCell ⟨gm, 3, none⟩ (.bool D.1.fin) = w7 at *
    have HKK7 : Hid (∀ k, (Value.slice o5 l5 k5).ownBlock = some k → m.vs.ownBlock = some k ∨ w2.heap.size ≤ k) := HK6
    have HF7' := Lib.hid ((HF2.out.mono (fun k hk => (Or.inl hk : FSet gm gr gw vb m.vs k))).trans HF7.out)
    have HKW : Hid (∀ k, (Value.slice o5 l5 k5).ownBlock = some k → m.vs.ownBlock = some k ∨ w.heap.size ≤ k) := Lib.hid (fun k e => (HK6.out k e).imp id (fun q => Nat.le_trans (Nat.le_trans HW1.out HB2.out) q))
    clear p0 c3 f3 g6 hb6 HF6 HU6 HF7 HK6 HKK7
    have hb7 := HH7.out.blk.2
    have g7 := HU7.out.mach.box.blk.2
    have HME : Hid (mm = z.h.length - pre) := Lib.hid (HMM.out.trans HMD.out)
    by_cases hk0 : D.1.kind = 0
    · rw [if_pos hk0] at HY
      rw [hk0] at p1
      have p2 : w7.cell? ⟨b1, 2, none⟩ = some (.int .i64 (D.1.size : Nat)) := HH7.out.cell (by simp)
      have c4 : w7.cell? ⟨gm, 4, none⟩ = some (.int .i64 (m.left : Nat)) := HU7.out.mach.box.cell (by decide)
      have f4 := HU7.out.mach.box.free 4
      obtain ⟨hS8, hG8⟩ := HU7.out.mach.box.set 4 (.int .i64 (D.1.size : Nat)) (m' := { m with vs := .slice o5 l5 k5, fin := D.1.fin, left := D.1.size }) rfl
      obtain ⟨hU8, hF8⟩ := HU7.out.mset hS8 hG8 rfl
      have HU8 := Lib.hid hU8
      have HF8 := Lib.hid (ffx_next (vs' := .slice o5 l5 k5) HF7'.out (fun k e => .inl e) (fun k e => HKW.out k e) hF8)
      have HTN := Lib.hid (turnM hU8.mach.box 1 (by decide))
      clear hS8 hG8 hU8 hF8
      go_wp2_with ((with_reducible go_at_call 37); (refine HTN.out.mono ?_); rintro e w9 ⟨rfl, h9, g9⟩; have H9 := Lib.hid h9; have G9 := Lib.hid g9; clear h9 g9)
      go_ret2
      obtain ⟨hU9, hF9⟩ := HU8.out.mset H9.out G9.out rfl
      refine ⟨⟨#[]⟩, 0, [], vb, MV.turn { m with vs := .slice o5 l5 k5, fin := D.1.fin, left := D.1.size } 1, by rw [HY.out]; rfl, ffx_next (vs' := .slice o5 l5 k5) HF8.out (fun k e => .inl e) (fun k e => HKW.out k e) hF9, fun k e => .inl e, fun k e => HKW.out k e, ⟨rfl, rfl, rfl, rfl⟩, fun _ => ?_, fun e => ?_⟩
      · rw [HY.out]
        refine ⟨⟨?_, ⟨rfl, rfl, fun _ => rfl, fun _ => rfl, 1, rfl⟩, fun e => by cases e⟩, by simp [bys]⟩
        show Full0 w9 B gm gr gw vb s D.2.2 z.h (z.st ++ [(z.p, z.h.length - pre)]) _
        rw [← HME.out]
        exact hU9
      · rw [HY.out] at e; exact absurd rfl e
    · rw [if_neg hk0] at HY
      obtain ⟨her1, her2⟩ := HER2.out hk0
      have hki : ((D.1.kind : Int) == 0) = false := by simpa using hk0
      have p3 : w7.cell? ⟨b1, 3, none⟩ = some (.slice o1 n1 c1) := HH7.out.cell (by simp)
      have HN1 := Lib.hid (newP (.slice o1 n1 c1) (nls D.1.lits) w7 HI17.out.sl)
      unfold RetTab at HN1
      rw [nls_toNat] at HN1
      have HE1 := Lib.hid her1
      have HE2 := Lib.hid her2
      clear her1 her2
      go_upto_region 11 with (fail)
      go_wp2_with (fail)
      (with_reducible refine HN1.out.mono ?_)
      rintro e w8 ⟨hb8, ⟨-, t1, rfl, ht1⟩ | ⟨h1, -⟩⟩
      · have HU8 := Lib.hid (HU7.out.up hb8)
        have HH8 := Lib.hid (HH7.out.up hb8)
        have HI28 := Lib.hid (HI27.out.up hb8)
        have HT8 := Lib.hid ht1.iv
        have HS8 := Lib.hid hb8.size
        have HF8 := Lib.hid (HF7'.out.trans (fx_below (S := FSet gm gr gw vb m.vs) hb8))
        have c5 : w8.cell? ⟨gm, 5, none⟩ = some m.vl := HU8.out.mach.box.cell (by decide)
        have f5 := HU8.out.mach.box.free 5
        have g8 := HU8.out.mach.box.blk.2
        have p4 : w8.cell? ⟨b1, 4, none⟩ = some (.slice o2 n2 c2) := HH8.out.cell (by simp)
        have hb1 := HH8.out.blk.2
        obtain ⟨hS9, hG9⟩ := HU8.out.mach.box.set 5 (.pointer (some ⟨t1, 0, none⟩)) (m' := { m with vs := .slice o5 l5 k5, fin := D.1.fin, vl := .pointer (some ⟨t1, 0, none⟩) }) rfl
        obtain ⟨hU9, hF9⟩ := HU8.out.mset hS9 hG9 rfl
        have HU9 := Lib.hid hU9
        have HG9 := Lib.hid hG9
        have HF9 := Lib.hid (ffx_next (vs' := .slice o5 l5 k5) HF8.out (fun k e => .inl e) (fun k e => HKW.out k e) hF9)
        have HH9 := Lib.hid (HH8.out.keep hG9 (.inr (fun e => hbne (by injection e with e; exact e.symm))))
        have hlt7 : gm < w7.heap.size := g7
        have HI29 := Lib.hid (HI28.out.keep hG9 (.inr (fun e => by have h1 := (HI28.out.lt gm e).1; have := HLT.out.1; omega)))
        have p49 : (w8.setCell ⟨gm, 5, none⟩ (.pointer (some ⟨t1, 0, none⟩))).cell? ⟨b1, 4, none⟩ = some (.slice o2 n2 c2) := HH9.out.cell (by simp)
        have hb9 := HH9.out.blk.2
        clear hb8 ht1 hS9 hG9 hU9 hF9
        go_upto_region 13 with (fail)
        generalize w8.setCell ⟨gm, 5, none⟩ (.pointer (some ⟨t1, 0, none⟩)) = w9 at *
        clear c5 f5 g8 p4 hb1 p1 p3
        have HN2 := Lib.hid (newP (.slice o2 n2 c2) (nls D.1.dists) w9 HI29.out.sl)
        unfold RetTab at HN2
        rw [nls_toNat] at HN2
        go_wp2_with (fail)
        (with_reducible refine HN2.out.mono ?_)
        rintro e w10 ⟨hb10, ⟨-, t2, rfl, ht2⟩ | ⟨h2, -⟩⟩
        · have HU10 := Lib.hid (HU9.out.up hb10)
          have HF10 := Lib.hid (HF9.out.trans (fx_below (S := FSet gm gr gw vb m.vs) hb10))
          have hnot : ∀ k, w7.heap.size ≤ k → ¬ FSet gm gr gw vb (.slice o5 l5 k5) k := fun k hk e => by
            obtain ⟨a, b, c, d, -⟩ := HLT.out
            have h7 : w.heap.size ≤ w7.heap.size := HF7'.out.size
            rcases e with (e | e | e | e) | e
            · omega
            · omega
            · omega
            · have := d k e; omega
            · have := (HU7.out.sts.lt k e).2; omega
          have HNOT := Lib.hid hnot
          have hs79 : w7.heap.size ≤ w9.heap.size := Nat.le_trans HS8.out HG9.out.size
          have HS79 := Lib.hid hs79
          have hf9 : Fx (fun k => k = gm) w8 w9 := fx_grown HG9.out (fun k e => by injection e with e; exact e.symm)
          have HTA := Lib.hid ((HT8.out.fx hf9 (fun k hk _ e => by omega)).fx (fx_below (S := fun _ => False) hb10) (fun _ _ _ h => h))
          have HTB := Lib.hid ht2.iv
          have c6 : w10.cell? ⟨gm, 6, none⟩ = some m.vd := HU10.out.mach.box.cell (by decide)
          have f6 := HU10.out.mach.box.free 6
          have g10 := HU10.out.mach.box.blk.2
          obtain ⟨hS11, hG11⟩ := HU10.out.mach.box.set 6 (.pointer (some ⟨t2, 0, none⟩)) (m' := { m with vs := .slice o5 l5 k5, fin := D.1.fin, vl := .pointer (some ⟨t1, 0, none⟩), vd := .pointer (some ⟨t2, 0, none⟩) }) rfl
          obtain ⟨hU11, hF11⟩ := HU10.out.mset hS11 hG11 rfl
          have HU11 := Lib.hid hU11
          have HG11 := Lib.hid hG11
          have HF11 := Lib.hid (ffx_next (vs' := .slice o5 l5 k5) HF10.out (fun k e => .inl e) (fun k e => HKW.out k e) hF11)
          have HTN := Lib.hid (turnM hU11.mach.box 2 (by decide))
          clear hb10 ht2 hS11 hG11 hU11 hF11 hf9 hnot hs79
          go_wp2_with ((with_reducible go_at_call 37); (refine HTN.out.mono ?_); rintro e w12 ⟨rfl, h9, g9⟩; have H12 := Lib.hid h9; have G12 := Lib.hid g9; clear h9 g9)
          go_ret2
          obtain ⟨hU12, hF12⟩ := HU11.out.mset H12.out G12.out rfl
          refine ⟨⟨#[]⟩, 0, [], vb, MV.turn { m with vs := .slice o5 l5 k5, fin := D.1.fin, vl := .pointer (some ⟨t1, 0, none⟩), vd := .pointer (some ⟨t2, 0, none⟩) } 2, by rw [HY.out]; rfl, ffx_next (vs' := .slice o5 l5 k5) HF11.out (fun k e => .inl e) (fun k e => HKW.out k e) hF12, fun k e => .inl e, fun k e => HKW.out k e, ⟨rfl, rfl, rfl, rfl⟩, fun _ => ?_, fun e => ?_⟩
          · rw [HY.out]
            have hfa : Fx (fun k => k = gm) w10 w12 := fx_grown (grown_trans HG11.out G12.out) (fun k e => by injection e with e; exact e.symm)
            refine ⟨⟨?_, ⟨rfl, rfl, fun e => (by cases e), fun _ => rfl, 2, rfl⟩, fun _ => ?_⟩, by simp [bys]⟩
            · show Full0 w12 B gm gr gw vb s D.2.2 z.h (z.st ++ [(z.p, z.h.length - pre)]) _
              rw [← HME.out]
              exact hU12
            · refine ⟨_, _, _, _, HTA.out.fx hfa (fun k hk _ e => by omega), HTB.out.fx hfa (fun k hk _ e => by have := HS79.out; omega), fun k hk => ⟨HNOT.out k ?_, fun e => ?_⟩⟩
              · have := HS79.out
                omega
              · have := HX.out k e
                have h7 : w.heap.size ≤ w7.heap.size := HF7'.out.size
                have := HS79.out
                omega
          · rw [HY.out] at e; exact absurd rfl e
        · exact absurd HE2.out h2
      · exact absurd HE1.out h1
  · rw [if_pos he] at HY
    have hei : ((D.2.1 : Int) != 0) = true := by simpa using he
    go_wp2
    go_ret2
    refine ⟨⟨#[]⟩, D.2.2, z.h, vb, m, by rw [HY.out]; rfl, HF2.out.mono (fun k hk => .inl hk), fun k e => .inl e, fun k e => .inl e, ⟨rfl, rfl, rfl, rfl⟩, fun e => ?_, fun _ => HU2.out⟩
    rw [HY.out] at e
    exact absurd e he
end Go.Cm

/- A step of the machine, in any mode. Conditions: the machine is there. -/
namespace Go.Cm
open Go.RowKit Go.Proofs

theorem cpyI_keep {N T s p : Nat} {z : IS} : (cpyI N T z s p).2.st = z.st ∧ (cpyI N T z s p).2.li = z.li ∧ (cpyI N T z s p).2.di = z.di := by
  unfold cpyI cpyI2 cpyI3
  split
  · exact ⟨rfl, rfl, rfl⟩
  · split
    · exact ⟨rfl, rfl, rfl⟩
    · split
      · exact ⟨rfl, rfl, rfl⟩
      · split <;> exact ⟨rfl, rfl, rfl⟩
theorem codI_keep {N T : Nat} {z : IS} : (codI N T z).2.st = z.st ∧ (codI N T z).2.li = z.li ∧ (codI N T z).2.di = z.di := by
  unfold codI codI2
  split
  · exact ⟨rfl, rfl, rfl⟩
  · split
    · exact ⟨rfl, rfl, rfl⟩
    · split
      · exact cpyI_keep
      · exact ⟨rfl, rfl, rfl⟩
theorem storI_keep {T : Nat} {bs : Byts} {z : IS} (h : z.md = 1) : (storI T bs z).2.st = z.st ∧ (storI T bs z).2.md ≠ 2 := by
  unfold storI
  split
  · exact ⟨rfl, (close_ne z).2⟩
  · split
    · exact ⟨rfl, by rw [h]; decide⟩
    · exact ⟨rfl, by show z.md ≠ 2; rw [h]; decide⟩
theorem RetMake.full {w : World} {B gm gr gw : Nat} {vb : Value} {X : Nat → Prop} {s : ByteArray} {z : IS} {m : MV} {y : Nat × IS} {e : Ending} {w' : World} (hF : Full w B gm gr gw vb X s z m) (h : RetMake B gm gr gw vb s z.h m (fun m' => MRel y.2 m' ∧ MKeep m m') y w e w') (h1 : y.2.st = z.st)
    (h2 : y.1 = 0 → y.2.md = 2 → z.md = 2 ∧ y.2.li = z.li ∧ y.2.di = z.di) : RetFull B gm gr gw vb X s z m y w e w' := by
  obtain ⟨c, p', H', vb', m', he, hM, hf, hk, hy, hn⟩ := h
  have hf2 : Fx (FSet gm gr gw vb m.vs) w w' := hf.mono (fun k e => .inl e)
  by_cases h0 : y.1 = 0
  · obtain ⟨rfl, rfl, hc, hrel, hkp⟩ := hy h0
    have hvs : m'.vs = m.vs := hkp.2.2.2.2.2.2
    refine ⟨c, y.2.p, y.2.h, vb', m', he, hf2, hk, fun k e => .inl (by rw [← hvs]; exact e), ⟨hkp.2.2.1, hkp.2.2.2.1, hkp.2.2.2.2.1, hkp.2.2.2.2.2.1⟩, fun _ => ⟨⟨?_, hrel, fun h3 => ?_⟩, hc⟩, fun h3 => absurd h0 h3⟩
    · rw [h1]; exact hF.f0.make hM hf hk hvs (fun o => ⟨by rw [hkp.1]; exact o.1, by rw [hkp.2.1]; exact o.2.1, hrel.2.2.2.2⟩)
    · obtain ⟨hz, e1, e2⟩ := h2 h0 h3
      obtain ⟨ta, tb, tc, td, k1, k2, k3⟩ := hF.tabs hz
      have l1 : tb ≤ w.heap.size := by obtain ⟨_, _, q, _⟩ := k1; exact q
      have l2 : td ≤ w.heap.size := by obtain ⟨_, _, q, _⟩ := k2; exact q
      rw [e1, e2, hkp.1, hkp.2.1, hvs]
      refine ⟨ta, tb, tc, td, k1.fx hf2 (fun k a b => (k3 k (.inl ⟨a, b⟩)).1), k2.fx hf2 (fun k a b => (k3 k (.inr ⟨a, b⟩)).1), fun k hk' => ⟨fun e => ?_, (k3 k hk').2⟩⟩
      have hlt : k < w.heap.size := by omega
      refine (k3 k hk').1 ?_
      rcases e with (e | e | e | e) | e
      · exact .inl (.inl e)
      · exact .inl (.inr (.inl e))
      · exact .inl (.inr (.inr (.inl e)))
      · rcases hk k e with q | q
        · exact .inl (.inr (.inr (.inr q)))
        · omega
      · exact .inr e
  · have hm := hn h0
    subst hm
    exact ⟨c, p', H', vb', m', he, hf2, hk, fun k e => .inl e, ⟨rfl, rfl, rfl, rfl⟩, fun h3 => absurd h3 h0, fun _ => hF.f0.make hM hf hk rfl id⟩
theorem nls_inj {a b : List Nat} (h : nls a = nls b) : a = b := by rw [← nls_toNat a, h, nls_toNat]
theorem lens_ok {L : List Nat} (h : errI (nls L) = 0) : L.length ≤ 320 ∧ ∀ x ∈ L, x ≤ 15 := by
  obtain ⟨M, h1, h2, h3, -⟩ := errI_list h
  rw [nls_inj h1]; exact ⟨h2, h3⟩
/-- a step of any mode -/
theorem makesM {w : World} {B gm gr gw pre : Nat} {vb : Value} {X : Nat → Prop} {s : ByteArray} {z : IS} {m : MV} (hF : Full w B gm gr gw vb X s z m) (hi : IOk (8 * s.size) pre z) (hmd : z.md ≠ 3) (hs : s.size ≤ 4294967296) (hmade : m.made = z.h.length - pre) (hst : z.st.length ≤ 100000000) (hX : ∀ k, X k → k < w.heap.size) :
    ∃ f, m.vf = .func (.func f) #[] #[] ∧ (∀ args w, (callFunc f args).run Tryz.prog w = .ok (.enter f args) w) ∧ Calls Tryz.prog f #[.pointer (some ⟨gm, 0, none⟩)] w (RetFull B gm gr gw vb X s z m (stI (numS s) (8 * s.size) pre (bys s) z) w) := by
  have h3 := hi.md
  have hv := hF.rel.2.2.2.1 (by omega)
  unfold stI
  rcases (show z.md = 0 ∨ z.md = 1 ∨ z.md = 2 by omega) with h0 | h0 | h0
  · rw [h0] at hv
    refine ⟨_, hv, enters_of Tryz.func24 (by kernel_rfl) rfl, ?_⟩
    rw [if_pos h0]
    exact headM hF.f0 hs hi.p hmade hst hX
  · rw [h0] at hv
    refine ⟨_, hv, enters_of Tryz.func61 (by kernel_rfl) rfl, ?_⟩
    rw [if_neg (by rw [h0]; decide), if_pos h0]
    obtain ⟨k1, k2⟩ := storI_keep (T := 8 * s.size) (bs := bys s) h0
    exact (storedM hF.f0.mach hs hi.p (hi.al h0) hi.left hF.rel h0).mono (fun e w' h => h.full hF k1 (fun _ q => absurd q k2))
  · rw [h0] at hv
    refine ⟨_, hv, enters_of Tryz.func62 (by kernel_rfl) rfl, ?_⟩
    rw [if_neg (by rw [h0]; decide), if_neg (by rw [h0]; decide), if_pos h0]
    obtain ⟨k1, k2, k3⟩ := codI_keep (N := numS s) (T := 8 * s.size) (z := z)
    obtain ⟨ta, tb, tc, td, t1, t2, t3⟩ := hF.tabs h0
    obtain ⟨a1, a2⟩ := lens_ok (hi.li.resolve_right (fun e => e h0))
    obtain ⟨b1, b2⟩ := lens_ok (hi.di.resolve_right (fun e => e h0))
    exact (codedM hF.f0.mach t1 t2 (fun k x y e => (t3 k (.inr ⟨x, y⟩)).1 (.inl e)) a2 b2 hs hi.p (by omega) (by omega) hF.rel).mono (fun e w' h => h.full hF k1 (fun _ _ => ⟨h0, k2, k3⟩))
end Go.Cm

/- Bytes of one's own that were made of a text, and a text behind them. Conditions: as each says. -/
namespace Go.Cm
open Go.RowKit Go.Proofs

theorem run_storeCells_nf (P : Program) (g o : Nat) (t : TypeId) (fz : Nat × Nat) : ∀ (vs : List Value) (i : Nat) (cur : Array Value) (w : World), w.heap[g]? = some (.cells cur t fz) → (cur.size ≤ fz.1 ∨ fz.2 = 0) → o + i + vs.length ≤ cur.size → (∀ v ∈ vs, v.oneCell' = true) →
    (storeCells ⟨g, o, none⟩ vs i).run P w = .ok () (w.setRow g (cur.toList.take (o + i) ++ vs ++ cur.toList.drop (o + i + vs.length)).toArray)
  | [], i, cur, w, hg, _, _, _ => by
    simp only [storeCells, List.append_nil, List.length_nil, Nat.add_zero, List.take_append_drop, Array.toArray_toList]
    rw [setRow_self w g cur t fz hg]
    rfl
  | v :: rest, i, cur, w, hg, hf, hl, h1 => by
    have hi : o + i < cur.size := by simp at hl; omega
    have hadd : (⟨g, o, none⟩ : Addr).add i = ⟨g, o + i, none⟩ := by unfold Addr.add; split <;> simp_all
    have hcell : w.cell? ⟨g, o + i, none⟩ = some cur[o + i] := by simp [World.cell?, hg, hi]
    have hfro : w.frozen? ⟨g, o + i, none⟩ = false := by
      obtain ⟨a, b⟩ := fz
      simp only [World.frozen?, hg, Bool.and_eq_false_iff, decide_eq_false_iff_not]
      simp only at hf
      omega
    have hst : (store ((⟨g, o, none⟩ : Addr).add i) v).run P w = .ok () (w.setRow g (cur.setIfInBounds (o + i) v)) := by
      rw [hadd, run_store P w _ v _ (h1 v (by simp)), hcell]
      simp [hfro, setCell_eq_setRow w g (o + i) cur t fz v hg]
    have ih := run_storeCells_nf P g o t fz rest (i + 1) (cur.setIfInBounds (o + i) v) (w.setRow g (cur.setIfInBounds (o + i) v)) (setRow_heap w g cur _ t _ hg) (by simpa using hf) (by simp at hl ⊢; omega) (fun x hx => h1 x (by simp [hx]))
    simp only [storeCells, Sem.run_bind, hst, Result.andThen_ok, ih, setRow_setRow]
    congr 3
    have e := list_seg_step cur.toList (o + i) v rest (by simp at hl ⊢; omega)
    simpa [Array.toList_setIfInBounds, Nat.add_assoc] using e
/-- bytes of one's own; nothing of them is shared with a text -/
def OwnF (w : World) (B : Nat) (E : TypeId) (v : Value) (xs : List Value) : Prop :=
  xs.length ≤ 140737488351232 ∧ ((v = .slice none 0 0 ∧ xs = []) ∨
   ∃ g cap cur fz, v = .slice (some ⟨g, 0, none⟩) xs.length cap ∧ B ≤ g ∧ w.heap[g]? = some (.cells cur E fz) ∧ (cur.size ≤ fz.1 ∨ fz.2 = 0) ∧ xs.length ≤ cap ∧ cap ≤ maxLen ∧ cur.size = cap ∧ cur.toList.take xs.length = xs)
theorem OwnF.lt {w : World} {B E : Nat} {v : Value} {xs : List Value} (h : OwnF w B E v xs) : ∀ k, v.ownBlock = some k → B ≤ k ∧ k < w.heap.size := by
  intro k hk
  obtain ⟨-, ⟨rfl, -⟩ | ⟨g, cap, cur, fz, rfl, hb, hg, -⟩⟩ := h
  · cases hk
  · injection hk with hk; subst hk
    exact ⟨hb, (Array.getElem?_eq_some_iff.1 hg).1⟩
theorem OwnF.fx {S : Nat → Prop} {w w' : World} {B E : Nat} {v : Value} {xs : List Value} (h : OwnF w B E v xs) (hf : Fx S w w') (hS : ∀ k, v.ownBlock = some k → ¬ S k) : OwnF w' B E v xs := by
  obtain ⟨h0, h1⟩ := h
  refine ⟨h0, ?_⟩
  rcases h1 with h1 | ⟨g, cap, cur, fz, e, hb, hg, hr⟩
  · exact .inl h1
  · refine .inr ⟨g, cap, cur, fz, e, hb, ?_, hr⟩
    rw [hf.block g (Array.getElem?_eq_some_iff.1 hg).1 (hS g (by rw [e]; rfl))]; exact hg
theorem OwnF.sl {w : World} {B : Nat} {E : TypeId} {v : Value} {xs : List Value} (h : OwnF w B E v xs) : Sl w v xs := by
  obtain ⟨hl, h⟩ := h
  rcases h with ⟨rfl, rfl⟩ | ⟨g, cap, cur, fz, rfl, hb, hg, hf, hnc, hcm, hcs, htake⟩
  · exact Sl.nil w
  · refine ⟨some ⟨g, 0, none⟩, cap, g, 0, rfl, ⟨fun _ => rfl, hnc, hcm, by omega, fun _ => (Array.getElem?_eq_some_iff.1 hg).1⟩, fun i hi => ?_⟩
    rw [cell_of_row _ _ _ _ _ _ hg, Nat.zero_add]
    have : cur[i]? = (cur.toList.take xs.length)[i]? := by rw [List.getElem?_take, if_pos hi]; simp
    rw [this, htake, List.getElem?_eq_getElem hi]
    simp [List.getD, hi]
theorem wpList_bytes_own {P : Program} {ops : Array Oper} {rest : List Oper} {o : Oper} {a : Act} {w : World} {Q : Exit → Act → World → Prop} (hgd : o.guard = none) (src dst e : TypeId) (x : Operand) (ho : o.op = .convert src dst x) (hs : P.underlying src = some .string) (hd : P.underlying dst = some (.slice e)) (he : P.underlying e = some (.int .u8)) (s : ByteArray) (hx : a.eval x = .string s) (hsz : s.size ≤ 100000000)
    (h : ∀ v' w', OwnF w' w.heap.size e v' (bytesV (bys s)) → Below w.heap.size w w' → wpList P ops Q rest (a.put o.dst v') w') : wpList P ops Q (o :: rest) a w := by
  have hr := run_bytes_of_string (P := P) w src dst e s hs hd he
  refine wpList_plain hgd fun K hK => ?_
  unfold Oper.wp execOp
  simp only [ho, hx, Sem.run_bind, Sem.run_pure, Result.andThen_ok, hr]
  refine hK _ _ (h _ _ ?_ ?_)
  · have hl : (bytesV (bys s)).length = s.size := by rw [bytesV_length, bys_len]
    have hmx : s.size ≤ maxLen := by simp only [maxLen]; omega
    have hge := grownCap_ge w s.size 0 e
    have hgs : (bytesRow s (grownCap w s.size 0 e)).size = grownCap w s.size 0 e := by
      unfold bytesRow
      simp only [Array.size_append, Array.size_map, Array.size_replicate]
      show s.data.size + (grownCap w s.size 0 e - s.data.size) = _
      have : s.data.size = s.size := rfl
      omega
    have hg : (w.drew.alloc (.cells (bytesRow s (grownCap w s.size 0 e)) e ((bytesRow s (grownCap w s.size 0 e)).size, (bytesRow s (grownCap w s.size 0 e)).size + 1))).heap[w.heap.size]? = some (.cells (bytesRow s (grownCap w s.size 0 e)) e ((bytesRow s (grownCap w s.size 0 e)).size, (bytesRow s (grownCap w s.size 0 e)).size + 1)) := by
      show (w.heap.push _)[w.heap.size]? = _
      simp
    refine ⟨by rw [hl]; omega, .inr ⟨w.heap.size, grownCap w s.size 0 e, _, _, by rw [hl], Nat.le_refl _, hg, .inl (Nat.le_refl _), by rw [hl]; exact hge, grownCap_le_maxLen w s.size 0 e hmx, hgs, ?_⟩⟩
    rw [hl]
    unfold bytesRow
    have e1 : (s.data.map (fun b => Value.int .u8 b.toNat)).toList = bytesV (bys s) := by simp [bytesV, bys]
    rw [Array.toList_append, e1, ← hl, List.take_left]
  · exact (below_drewN w 1).trans ((below_alloc w.drew _).mono (Nat.le_refl _))
theorem run_app_strF {P : Program} (w : World) (B : Nat) (t u ty E : TypeId) (z : Value) (bytes : Nat) (ht : P.underlying t = some (.slice E)) (hu : P.underlying u = some .string) (hinf : (P.info? E).map (fun i => (i.zero, i.size, i.bytes)) = some (some z, 1, bytes)) (hz : z.cells.size = 1) (hby : bytes ≤ 24)
    (v : Value) (xs : List Value) (hown : OwnF w B E v xs) (s : ByteArray) (hlen : xs.length + s.size ≤ 4294967296) (hB : B ≤ w.heap.size) :
    ∃ v' w', (Builtin.append_ #[t, u] ty #[v, .string s]).run P w = .ok v' w' ∧ OwnF w' B E v' (xs ++ bytesV s.data.toList) ∧ w.grownBy w' v.ownBlock ∧ (∀ k, v'.ownBlock = some k → v.ownBlock = some k ∨ w.heap.size ≤ k) := by
  obtain ⟨i, hi, hz0, hz1, hz2⟩ : ∃ i0, P.info? E = some i0 ∧ i0.zero = some z ∧ i0.size = 1 ∧ i0.bytes = bytes := by
    cases hq : P.info? E with
    | none => simp [hq] at hinf
    | some i0 => simp [hq] at hinf; exact ⟨i0, rfl, hinf.1, hinf.2.1, hinf.2.2⟩
  have hnl : (bytesV s.data.toList).length = s.size := by rw [bytesV_length]; simp
  have h1 := bytesV_one s.data.toList
  have hl1 : xs.length + s.size ≤ maxLen := by simp only [maxLen]; omega
  have hl2 : (xs.length + s.size) * bytes ≤ 140737488355328 := by
    have := Nat.mul_le_mul hlen hby; omega
  have hf := fun w' => run_firstCells_str (P := P) w' 1 s
  have hsl := hown.sl
  rcases hown with ⟨hsm, hrow⟩
  rcases hrow with ⟨rfl, rfl⟩ | ⟨g, cap, cur, fz, rfl, hbg, hg, hfz, hnc, hcm, hcs, htake⟩
  · obtain ⟨v', w', h2, ⟨⟨h3, h4⟩, h5⟩, h6, h7⟩ := run_app_str (P := P) w B t u ty E z bytes ht hu hinf hz hby (.slice none 0 0) [] (Own.nil w B E) s hlen hB
    refine ⟨v', w', h2, ⟨h5, ?_⟩, h6, h7⟩
    rcases h4 with ⟨a, b⟩ | ⟨g, cap, cur, a, b, c, d, e, f, i⟩
    · exact .inl ⟨a, List.length_eq_zero_iff.1 b⟩
    · exact .inr ⟨g, cap, cur, (0, 0), a, b, c, .inr rfl, d, e, by omega, by simpa using i⟩
  generalize bytesV s.data.toList = news at *
  have hlen' : (xs ++ news).length ≤ 140737488351232 := by rw [List.length_append, hnl]; omega
  by_cases hroom : xs.length + s.size ≤ cap
  · have hfit : xs.length + news.length ≤ cur.size := by rw [hnl, hcs]; omega
    have hst := run_storeCells_nf P g xs.length E fz news 0 cur w hg hfz (by simpa using hfit) h1
    simp only [Nat.add_zero] at hst
    generalize hR : (cur.toList.take xs.length ++ news ++ cur.toList.drop (xs.length + news.length)).toArray = R at hst
    have hRs : R.size = cur.size := by
      rw [← hR]
      simp only [List.size_toArray, List.length_append, List.length_take, List.length_drop, Array.length_toList]
      omega
    refine ⟨.slice (some ⟨g, 0, none⟩) (xs.length + s.size) cap, w.setRow g R, ?_, ⟨hlen', .inr ⟨g, cap, R, fz, ?_, hbg, setRow_heap w g cur R E _ hg, by rw [hRs]; exact hfz, ?_, hcm, by rw [hRs]; exact hcs, ?_⟩⟩, ⟨rfl, rfl, rfl, by simp, fun k _ hk => setRow_other w g k _ (fun e => hk (by simp [Value.ownBlock, e]))⟩, fun k hk => .inl hk⟩
    · have hf0 := hf w
      simp [Builtin.append_, run_underlying ht, run_underlying hu, sizeOf, typeInfo, hi, hz1, Builtin.lenOf, hroom, hf0, Addr.add_lit, hst]
    · rw [List.length_append, hnl]
    · rw [List.length_append, hnl]; exact hroom
    · rw [← hR, htake]
      exact List.take_left
  · have holds : ∀ j u, xs[j]? = some u → w.cell? ((⟨g, 0, none⟩ : Addr).add j) = some u := fun j u hj => by
      obtain ⟨hjl, hju⟩ := List.getElem?_eq_some_iff.1 hj
      rw [add_off, cell_of_row _ _ _ _ _ _ hg, Nat.zero_add]
      have : cur[j]? = (cur.toList.take xs.length)[j]? := by rw [List.getElem?_take, if_pos hjl]; simp
      rw [this, htake, hj]
    have hge := grownCap_ge w (xs.length + s.size) cap E
    have hcm2 : grownCap w (xs.length + s.size) cap E ≤ maxLen := grownCap_le_maxLen w (xs.length + s.size) cap E hl1
    refine ⟨.slice (some ⟨w.heap.size, 0, none⟩) (xs.length + s.size) (grownCap w (xs.length + s.size) cap E), w.drew.alloc (.cells (xs.toArray ++ news.toArray ++ Builtin.zeroCells z.cells (grownCap w (xs.length + s.size) cap E - (xs.length + s.size))) E), ?_, ⟨hlen', .inr ⟨w.heap.size, _, _, (0, 0), by rw [List.length_append, hnl], hB, heap_alloc_new w.drew _, .inr rfl, by rw [List.length_append, hnl]; exact hge, hcm2, ?_, ?_⟩⟩, ⟨rfl, rfl, rfl, by simp, fun k hk _ => Below.heap_alloc w.drew _ k hk⟩, fun k hk => .inr (by simp [Value.ownBlock] at hk; omega)⟩
    · have hn : ¬ (xs.length + s.size ≤ cap) := hroom
      have h63' : ¬ (9223372036854775807 < ((xs.length : Int) + (s.size : Int))) := by omega
      have h48' : ¬ (281474976710656 < Builtin.nextslicecap (xs.length + s.size) cap * i.bytes) := by
        have := growslice_fits (need := xs.length + s.size) (old := cap) (bytes := bytes) (by omega) hl2
        rw [hz2]; omega
      have hf0 := hf w.drew
      have hfo := run_firstCells_some (P := P) w.drew 1 xs.length ⟨g, 0, none⟩ xs.length cap xs (by omega) (by simpa using holds)
      simp [Builtin.append_, run_underlying ht, run_underlying hu, sizeOf, typeInfo, zeroValue, hi, hz0, hz1, Builtin.lenOf, hn, h63', h48', Question.forced, hf0, hfo, newRow, grownCap]
      congr 2
      apply Array.ext'
      simp [List.append_assoc]
    · simp only [Array.size_append, List.size_toArray, size_zeroCells, hz, hnl]
      omega
    · simp only [Array.toList_append]
      show List.take _ (xs ++ news ++ _) = _
      exact List.take_left
theorem wpList_app_strF {P : Program} {ops : Array Oper} {rest : List Oper} {o : Oper} {a : Act} {w : World} {Q : Exit → Act → World → Prop} (hgd : o.guard = none) (s x : Operand) (t u : TypeId)
    (ho : o.op = .call { callee := .builtin .append, args := #[s, x], argTypes := #[t, u] })
    (B E : TypeId) (z : Value) (bytes : Nat) (ht : P.underlying t = some (.slice E)) (hu : P.underlying u = some .string) (hinf : (P.info? E).map (fun i => (i.zero, i.size, i.bytes)) = some (some z, 1, bytes)) (hz : z.cells.size = 1) (hby : bytes ≤ 24)
    (v : Value) (xs : List Value) (hs : a.eval s = v) (hown : OwnF w B E v xs) (tx : ByteArray) (hxe : a.eval x = .string tx) (hlen : xs.length + tx.size ≤ 4294967296) (hB : B ≤ w.heap.size)
    (h : ∀ v' w', OwnF w' B E v' (xs ++ bytesV tx.data.toList) → w.grownBy w' v.ownBlock → (∀ k, v'.ownBlock = some k → v.ownBlock = some k ∨ w.heap.size ≤ k) → wpList P ops Q rest (a.put o.dst v') w') : wpList P ops Q (o :: rest) a w := by
  obtain ⟨v', w', hr, h2, h3, h4⟩ := run_app_strF (P := P) w B t u o.type E z bytes ht hu hinf hz hby v xs hown tx hlen hB
  refine wpList_plain hgd fun K hK => ?_
  unfold Oper.wp execOp
  simp only [ho, resolve, invoke, builtin, Sem.run_bind, Sem.run_pure, Result.andThen_ok, List.map_toArray, List.map_cons, List.map_nil, hs, hxe, hr]
  exact hK _ _ (h v' w' h2 h3 h4)
end Go.Cm

/- A machine that was played k steps. Conditions: as each says. -/
namespace Go.Cm
open Go.RowKit Go.Proofs

theorem headI_st {N T pre : Nat} {z : IS} : (headI N T pre z).2.st.length ≤ z.st.length + 1 := by
  unfold headI
  split
  · exact Nat.le_succ _
  · simp
theorem stI_st {N T pre : Nat} {bs : Byts} {z : IS} : (stI N T pre bs z).2.st.length ≤ z.st.length + 1 := by
  unfold stI
  split
  · exact headI_st
  · split
    · rename_i h; rw [(storI_keep h).1]; exact Nat.le_succ _
    · split
      · rw [codI_keep.1]; exact Nat.le_succ _
      · exact Nat.le_succ _
theorem bigI_st {pre : Nat} {y : Nat × IS} : (bigI pre y).2.st = y.2.st := by
  have key : ∀ M, (if y.1 ≠ 0 then y else if M < y.2.h.length - pre then (3, { y.2 with h := y.2.h.take (pre + M) }) else y).2.st = y.2.st := by
    intro M
    by_cases h1 : y.1 ≠ 0
    · rw [if_pos h1]
    · rw [if_neg h1]
      by_cases h2 : M < y.2.h.length - pre
      · rw [if_pos h2]
      · rw [if_neg h2]
  have h := key 16777216
  unfold bigI
  exact h
theorem playI_st {N T pre : Nat} {bs : Byts} {z0 : IS} : ∀ k, (playI N T pre bs z0 k).2.st.length ≤ z0.st.length + k
  | 0 => Nat.le_refl _
  | k + 1 => by
    have ih := playI_st (N := N) (T := T) (pre := pre) (bs := bs) (z0 := z0) k
    show (if (playI N T pre bs z0 k).1 ≠ 0 ∨ (playI N T pre bs z0 k).2.md = 3 then playI N T pre bs z0 k else bigI pre (stI N T pre bs (playI N T pre bs z0 k).2)).2.st.length ≤ _
    split
    · omega
    · rw [bigI_st]
      have := stI_st (N := N) (T := T) (pre := pre) (bs := bs) (z := (playI N T pre bs z0 k).2)
      omega
/-- k steps over the bytes of s -/
noncomputable def playS (s : ByteArray) (pre : Nat) (z0 : IS) (k : Nat) : Nat × IS := playI (numS s) (8 * s.size) pre (bys s) z0 k
/-- a step over the bytes of s -/
noncomputable def stepS (s : ByteArray) (pre : Nat) (z : IS) : Nat × IS := stI (numS s) (8 * s.size) pre (bys s) z
noncomputable def finS (s : ByteArray) (pre : Nat) (z0 : IS) : Nat × IS := finI (numS s) (8 * s.size) pre (bys s) z0
section
variable {s : ByteArray} {pre : Nat} {z0 : IS}
theorem t8 (s : ByteArray) : 8 ∣ 8 * s.size := ⟨s.size, rfl⟩
theorem playS_next {k : Nat} (h : ¬ StopI (playS s pre z0 k)) : playS s pre z0 (k + 1) = bigI pre (stepS s pre (playS s pre z0 k).2) := play_next h
theorem playS_err {k : Nat} (h : ¬ StopI (playS s pre z0 k)) (he : (stepS s pre (playS s pre z0 k).2).1 ≠ 0) : playS s pre z0 (k + 1) = ((stepS s pre (playS s pre z0 k).2).1, (playS s pre z0 k).2) := by
  have e := stI_err he
  rw [playS_next h]
  unfold bigI
  rw [if_pos he]
  show stI _ _ _ _ _ = _
  exact Prod.ext rfl e
theorem playS_big {k M : Nat} (hM : M = 16777216) (h : ¬ StopI (playS s pre z0 k)) (he : (stepS s pre (playS s pre z0 k).2).1 = 0) (hb : M < (stepS s pre (playS s pre z0 k).2).2.h.length - pre) :
    playS s pre z0 (k + 1) = (3, { (stepS s pre (playS s pre z0 k).2).2 with h := (stepS s pre (playS s pre z0 k).2).2.h.take (pre + M) }) := by
  rw [playS_next h]
  unfold bigI
  rw [← hM]
  rw [if_neg (by rw [he]; exact fun h => h rfl), if_pos hb]
theorem playS_ok {k M : Nat} (hM : M = 16777216) (h : ¬ StopI (playS s pre z0 k)) (he : (stepS s pre (playS s pre z0 k).2).1 = 0) (hb : ¬ M < (stepS s pre (playS s pre z0 k).2).2.h.length - pre) :
    playS s pre z0 (k + 1) = stepS s pre (playS s pre z0 k).2 := by
  rw [playS_next h]
  unfold bigI
  rw [← hM]
  rw [if_neg (by rw [he]; exact fun h => h rfl), if_neg hb]
theorem playS_keep (hi : IOk (8 * s.size) pre z0) (k : Nat) : (pre ≤ (playS s pre z0 k).2.h.length ∧ (playS s pre z0 k).2.h.length - pre ≤ 16777216) ∧ ((playS s pre z0 k).1 = 0 → IOk (8 * s.size) pre (playS s pre z0 k).2 ∧ (StopI (playS s pre z0 k) ∨ muI (8 * s.size) (playS s pre z0 k).2 + k ≤ muI (8 * s.size) z0)) := by
  obtain ⟨a, b, -⟩ := play_keep (N := numS s) (bs := bys s) (t8 s) hi k
  exact ⟨a, b⟩
theorem playS_st (hz : z0.st = []) (k : Nat) : (playS s pre z0 k).2.st.length ≤ k := by
  have h := playI_st (N := numS s) (T := 8 * s.size) (pre := pre) (bs := bys s) (z0 := z0) k
  rw [hz, List.length_nil, Nat.zero_add] at h
  exact h
theorem muI_le {T : Nat} (z : IS) : muI T z ≤ 2 * T + 1 := by unfold muI; split <;> omega
end
theorem Full0.fx {S : Nat → Prop} {w w' : World} {B gm gr gw p : Nat} {vb : Value} {s : ByteArray} {H : Byts} {st : List (Nat × Nat)} {m : MV} (h : Full0 w B gm gr gw vb s p H st m) (hf : Fx S w w') (hS : ∀ k, FSet gm gr gw vb m.vs k → ¬ S k) : Full0 w' B gm gr gw vb s p H st m :=
  ⟨h.mach.fx hf (fun k e => hS k (.inl e)), h.sts.fx hf (fun q e => hS q (.inr e)), h.sd, h.one⟩
/-- .. where the changed blocks are among those that the tables avoid -/
theorem Full.fx {S X : Nat → Prop} {w w' : World} {B gm gr gw : Nat} {vb : Value} {s : ByteArray} {z : IS} {m : MV} (h : Full w B gm gr gw vb X s z m) (hf : Fx S w w') (hS : ∀ k, FSet gm gr gw vb m.vs k → ¬ S k) (hX : ∀ k, S k → X k) : Full w' B gm gr gw vb X s z m :=
  ⟨h.f0.fx hf hS, h.rel, fun e => by
    obtain ⟨ta, tb, tc, td, k1, k2, k3⟩ := h.tabs e
    exact ⟨ta, tb, tc, td, k1.fx hf (fun k a b q => (k3 k (.inl ⟨a, b⟩)).2 (hX k q)), k2.fx hf (fun k a b q => (k3 k (.inr ⟨a, b⟩)).2 (hX k q)), k3⟩⟩
/-- they avoid new blocks -/
theorem Full.reX {X X' : Nat → Prop} {w : World} {B gm gr gw : Nat} {vb : Value} {s : ByteArray} {z : IS} {m : MV} (h : Full w B gm gr gw vb X s z m) (hX : ∀ k, X' k → X k ∨ w.heap.size ≤ k) : Full w B gm gr gw vb X' s z m :=
  ⟨h.f0, h.rel, fun e => by
    obtain ⟨ta, tb, tc, td, k1, k2, k3⟩ := h.tabs e
    have l1 : tb ≤ w.heap.size := by obtain ⟨_, _, q, _⟩ := k1; exact q
    have l2 : td ≤ w.heap.size := by obtain ⟨_, _, q, _⟩ := k2; exact q
    refine ⟨ta, tb, tc, td, k1, k2, fun k hk => ⟨(k3 k hk).1, fun q => ?_⟩⟩
    rcases hX k q with q | q
    · exact (k3 k hk).2 q
    · omega⟩
theorem Full.up {X : Nat → Prop} {w w' : World} {B gm gr gw : Nat} {vb : Value} {s : ByteArray} {z : IS} {m : MV} (h : Full w B gm gr gw vb X s z m) (hb : Below w.heap.size w w') : Full w' B gm gr gw vb X s z m :=
  h.fx (fx_below (S := fun _ => False) hb) (fun _ _ e => e) (fun _ e => e.elim)
/-- its cells change, but for those that tell where it stands -/
theorem Full.mset {X : Nat → Prop} {w w' : World} {B gm gr gw : Nat} {vb : Value} {s : ByteArray} {z : IS} {m m' : MV} (h : Full w B gm gr gw vb X s z m) (hm : MBox w' B gm gr gw m') (hg : w.grownBy w' (some gm)) (hv : m'.vs = m.vs) (h1 : m'.at_ = m.at_) (h2 : m'.fin = m.fin) (h3 : m'.left = m.left) (h4 : m'.vf = m.vf) (h5 : m'.vl = m.vl) (h6 : m'.vd = m.vd) : Full w' B gm gr gw vb X s z m' := by
  obtain ⟨hf0, hf⟩ := h.f0.mset hm hg hv (fun o => ⟨by rw [h5]; exact o.1, by rw [h6]; exact o.2.1, by rw [h4]; exact o.2.2⟩)
  refine ⟨hf0, ?_, fun e => ?_⟩
  · obtain ⟨r1, r2, r3, r4⟩ := h.rel
    exact ⟨by rw [h1]; exact r1, by rw [h2]; exact r2, by rw [h3]; exact r3, by rw [h4]; exact r4⟩
  · obtain ⟨ta, tb, tc, td, k1, k2, k3⟩ := h.tabs e
    rw [h5, h6, hv]
    exact ⟨ta, tb, tc, td, k1.fx hf (fun k a b => (k3 k (.inl ⟨a, b⟩)).1), k2.fx hf (fun k a b => (k3 k (.inr ⟨a, b⟩)).1), k3⟩
/-- a machine that was played k steps, but for what waits -/
structure LiveB (w : World) (B gm gr gw : Nat) (vb : Value) (X : Nat → Prop) (s : ByteArray) (pre : Nat) (z0 : IS) (m : MV) (k : Nat) : Prop where
  kb : k ≤ muI (8 * s.size) z0 + 1
  wrong : m.wrong = (playS s pre z0 k).1
  made : m.made = (playS s pre z0 k).2.h.length - pre
  bad : ∃ p H st, Full0 w B gm gr gw vb s p H st m ∧ st.length ≤ 100000000
  good : (playS s pre z0 k).1 = 0 → Full w B gm gr gw vb X s (playS s pre z0 k).2 m
/-- .. with what waits -/
structure Live (w : World) (B gm gr gw : Nat) (vb : Value) (X : Nat → Prop) (s : ByteArray) (pre : Nat) (z0 : IS) (m : MV) (k : Nat) : Prop where
  live : LiveB w B gm gr gw vb X s pre z0 m k
  text : ∃ t : Byts, t.length = m.told ∧ (playS s pre z0 k).2.h.drop pre = t ++ bys m.waits
section
variable {w w' : World} {B gm gr gw : Nat} {vb : Value} {X : Nat → Prop} {s : ByteArray} {pre : Nat} {z0 : IS} {m m' : MV} {k : Nat}
theorem LiveB.box (h : LiveB w B gm gr gw vb X s pre z0 m k) : MBox w B gm gr gw m := by obtain ⟨p, H, st, h, -⟩ := h.bad; exact h.mach.box
theorem LiveB.lt (h : LiveB w B gm gr gw vb X s pre z0 m k) : ∀ q, FSet gm gr gw vb m.vs q → q < w.heap.size := by
  obtain ⟨p, H, st, h, -⟩ := h.bad
  intro q e
  obtain ⟨b, hb, -⟩ := h.mach.win
  rcases e with (e | e | e | e) | e
  · rw [e]; exact h.mach.box.blk.2
  · rw [e]; exact h.mach.rd.lt
  · rw [e]; exact hb.box.blk.2
  · exact (hb.own.lt q e).2
  · exact (h.sts.lt q e).2
theorem LiveB.fx {S : Nat → Prop} (h : LiveB w B gm gr gw vb X s pre z0 m k) (hf : Fx S w w') (hS : ∀ q, FSet gm gr gw vb m.vs q → ¬ S q) (hX : ∀ q, S q → X q) : LiveB w' B gm gr gw vb X s pre z0 m k := by
  obtain ⟨p, H, st, hb, hbl⟩ := h.bad
  exact ⟨h.kb, h.wrong, h.made, ⟨p, H, st, hb.fx hf hS, hbl⟩, fun e => (h.good e).fx hf hS hX⟩
theorem LiveB.up (h : LiveB w B gm gr gw vb X s pre z0 m k) (hb : Below w.heap.size w w') : LiveB w' B gm gr gw vb X s pre z0 m k :=
  h.fx (fx_below (S := fun _ => False) hb) (fun _ _ e => e) (fun _ e => e.elim)
theorem LiveB.reX {X' : Nat → Prop} (h : LiveB w B gm gr gw vb X s pre z0 m k) (hX : ∀ q, X' q → X q ∨ w.heap.size ≤ q) : LiveB w B gm gr gw vb X' s pre z0 m k :=
  ⟨h.kb, h.wrong, h.made, h.bad, fun e => (h.good e).reX hX⟩
/-- its words 'waits' and 'told' change -/
theorem LiveB.mset (h : LiveB w B gm gr gw vb X s pre z0 m k) (hm : MBox w' B gm gr gw m') (hg : w.grownBy w' (some gm)) (hw : m' = { m with waits := m'.waits, told := m'.told }) : LiveB w' B gm gr gw vb X s pre z0 m' k ∧ Fx (FSet gm gr gw vb m.vs) w w' := by
  obtain ⟨p, H, st, hb, hbl⟩ := h.bad
  have hv : m'.vs = m.vs := by rw [hw]
  obtain ⟨h1, h2⟩ := hb.mset hm hg hv (fun o => by rw [hw]; exact o)
  exact ⟨⟨h.kb, by rw [hw]; exact h.wrong, by rw [hw]; exact h.made, ⟨p, H, st, h1, hbl⟩, fun e => (h.good e).mset hm hg hv (by rw [hw]) (by rw [hw]) (by rw [hw]) (by rw [hw]) (by rw [hw]) (by rw [hw])⟩, h2⟩
end
end Go.Cm
