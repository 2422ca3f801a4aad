/- Texts of this claim, joined: walks of small functions and plain facts about them. Conditions: as each says. -/
import Derived.Test.YtmophmeiemfikaaGreatBN
import Derived.Test.YtmophmeiemfikaaGreatRows
import Derived.WalkKit
import Derived.WalkSpells
import Derived.WalkLawsBesides
import Derived.Deep.QuietTactic
import Derived.BigQuiet
import Derived.Lib.Hide
import Derived.Laws.Small
import Derived.Deep.LoopGhost
import Derived.Laws.BitsLemmas
import Derived.Deep.DeepCutAuto
import Derived.Deep.CutBlock
import Derived.Deep.CutRange
import Derived.Laws.IdiomStrings
import Derived.Laws.CopyOwn
import Derived.Laws.EntriesVeiled
/- A machine with its reader and its window in memory; the walks of a number, and of a copy. Conditions: the machine is there. -/
namespace Go.Cm
open Go.RowKit Go.Proofs

/-- the blocks that a machine writes -/
abbrev MSet (gm gr gw : Nat) (vb : Value) (k : Nat) : Prop := k = gm ∨ k = gr ∨ k = gw ∨ vb.ownBlock = some k
structure Mach (w : World) (B gm gr gw : Nat) (vb : Value) (s : ByteArray) (p : Nat) (H : Byts) (m : MV) : Prop where
  box : MBox w B gm gr gw m
  rd : BoxS w gr s p
  win : WinAt w B gw vb H
  n1 : gm ≠ gr
  n2 : gm ≠ gw
  n3 : gr ≠ gw
  b1 : vb.ownBlock ≠ some gm
  b2 : vb.ownBlock ≠ some gr
  Br : B ≤ gr
theorem Mach.up {w w' : World} {B gm gr gw p : Nat} {vb : Value} {s : ByteArray} {H : Byts} {m : MV} (h : Mach w B gm gr gw vb s p H m) (hb : Below w.heap.size w w') : Mach w' B gm gr gw vb s p H m :=
  ⟨h.box.up hb, h.rd.up hb, h.win.up hb, h.n1, h.n2, h.n3, h.b1, h.b2, h.Br⟩
theorem Mach.B {w : World} {B gm gr gw p : Nat} {vb : Value} {s : ByteArray} {H : Byts} {m : MV} (h : Mach w B gm gr gw vb s p H m) : B ≤ w.heap.size := Nat.le_trans h.Br (Nat.le_of_lt h.rd.lt)
/-- the reader goes on -/
theorem Mach.read {w w' : World} {B gm gr gw p q : Nat} {vb : Value} {s : ByteArray} {H : Byts} {m : MV} (h : Mach w B gm gr gw vb s p H m) (hr : BoxS w' gr s q) (hg : w.grownBy w' (some gr)) : Mach w' B gm gr gw vb s q H m ∧ Fx (MSet gm gr gw vb) w w' := by
  have hf : Fx (fun k => k = gr) w w' := fx_grown hg (fun k e => by injection e with e; exact e.symm)
  exact ⟨⟨h.box.fx hf h.n1, hr, h.win.fx hf (fun e => h.n3 e.symm) (fun k e z => h.b2 (by rw [e, z])), h.n1, h.n2, h.n3, h.b1, h.b2, h.Br⟩, hf.mono (fun k e => .inr (.inl e))⟩
/-- its own cells change -/
theorem Mach.mset {w w' : World} {B gm gr gw p : Nat} {vb : Value} {s : ByteArray} {H : Byts} {m m' : MV} (h : Mach w B gm gr gw vb s p H m) (hm : MBox w' B gm gr gw m') (hg : w.grownBy w' (some gm)) : Mach w' B gm gr gw vb s p H m' ∧ Fx (MSet gm gr gw vb) w w' := by
  have hf : Fx (fun k => k = gm) w w' := fx_grown hg (fun k e => by injection e with e; exact e.symm)
  exact ⟨⟨hm, ⟨hf.own h.rd.own (fun k e z => by cases e; exact h.n1 z.symm)⟩, h.win.fx hf (fun e => h.n2 e.symm) (fun k e z => h.b1 (by rw [e, z])), h.n1, h.n2, h.n3, h.b1, h.b2, h.Br⟩, hf.mono (fun k e => .inl e)⟩
/-- its window goes on -/
theorem Mach.wset {w w' : World} {B gm gr gw p : Nat} {vb vb' : Value} {s : ByteArray} {H H' : Byts} {m : MV} (h : Mach w B gm gr gw vb s p H m) (hw : WinAt w' B gw vb' H') (hk : ∀ k, vb'.ownBlock = some k → vb.ownBlock = some k ∨ w.heap.size ≤ k) (hf : WFx gw vb w w') : Mach w' B gm gr gw vb' s p H' m ∧ Fx (MSet gm gr gw vb) w w' := by
  have hgm := h.box.blk.2
  have hgr := h.rd.lt
  refine ⟨⟨h.box.fx hf (fun e => e.elim h.n2 h.b1), ⟨hf.own h.rd.own (fun k e z => by injection e with e; subst e; exact z.elim h.n3 h.b2)⟩, hw, h.n1, h.n2, h.n3, fun e => ?_, fun e => ?_, h.Br⟩, hf.mono (fun k e => e.elim (fun z => .inr (.inr (.inl z))) (fun z => .inr (.inr (.inr z))))⟩
  · rcases hk gm e with z | z
    · exact h.b1 z
    · omega
  · rcases hk gr e with z | z
    · exact h.b2 z
    · omega
/-- a table that lies in blocks a .. b -/
def TabIv (w : World) (v : Value) (a b : Nat) (L : List Nat) : Prop := ∃ g, v = .pointer (some ⟨g, 0, none⟩) ∧ b ≤ w.heap.size ∧ ∀ w' : World, (∀ k, a ≤ k → k < b → w'.heap[k]? = w.heap[k]?) → b ≤ w'.heap.size → TabAt w' a g L
theorem TabIv.fx {S : Nat → Prop} {w w' : World} {v : Value} {a b : Nat} {L : List Nat} (h : TabIv w v a b L) (hf : Fx S w w') (hS : ∀ k, a ≤ k → k < b → ¬ S k) : TabIv w' v a b L := by
  obtain ⟨g, h1, h2, h3⟩ := h
  refine ⟨g, h1, Nat.le_trans h2 hf.size, fun w'' h4 h5 => h3 w'' (fun k ha hb => ?_) h5⟩
  rw [h4 k ha hb, hf.block k (by omega) (hS k ha hb)]
theorem TabIv.here {w : World} {v : Value} {a b : Nat} {L : List Nat} (h : TabIv w v a b L) : ∃ g, v = .pointer (some ⟨g, 0, none⟩) ∧ TabAt w a g L := by
  obtain ⟨g, h1, h2, h3⟩ := h
  exact ⟨g, h1, h3 w (fun _ _ _ => rfl) h2⟩
set_option maxRecDepth 100000 in
theorem numberM {w : World} {B gm gr gw p : Nat} {s : ByteArray} {m : MV} (h : MBox w B gm gr gw m) (hr : BoxS w gr s p) (hs : s.size ≤ 4294967296) (hp : p ≤ 8 * s.size) (y : Nat × Nat × Bool) (hy1 : y.1 ≤ 40000) (hy2 : y.2.1 ≤ 32) :
    Calls Tryz.prog 96 #[.pointer (some ⟨gm, 0, none⟩), .int .i64 (y.1 : Nat), .int .i64 (y.2.1 : Nat), .bool y.2.2] w fun e w' => e = .returned (.tuple #[.int .i64 ((numB (numS s) (8 * s.size) p y).1 : Nat), .int .i64 ((numB (numS s) (8 * s.size) p y).2.1 : Nat)]) ∧ BoxS w' gr s (numB (numS s) (8 * s.size) p y).2.2 ∧ w.grownBy w' (some gr) := by
  obtain ⟨b, n, ok⟩ := y
  simp only at hy1 hy2 ⊢
  have HR := Lib.hid hr
  cases ok with
  | false =>
    unfold numB
    simp only [if_true]
    clear hr h
    go_enter Tryz.func96, Tryz.ntmps96
    go_wp2
    go_ret2
    exact ⟨rfl, HR.out, grown_below (Below.refl _ _) _⟩
  | true =>
    unfold numB
    simp only [if_neg (show ¬ (true = false) by decide)]
    have HBT := Lib.hid (bitsS hr hs n hy2 hp)
    unfold RetBits at HBT
    have hv : (bitsA (numS s) (8 * s.size) p n).1 < 2 ^ 32 := by
      unfold bitsA
      split
      · exact Nat.lt_of_lt_of_le (valN_lt _ _ _) (Nat.pow_le_pow_right (by decide) hy2)
      · exact Nat.pow_pos (by decide)
    generalize bitsA (numS s) (8 * s.size) p n = D at *
    obtain ⟨v, er, q⟩ := D
    simp only at HBT hv ⊢
    have c0 : w.cell? ⟨gm, 0, none⟩ = some (.pointer (some ⟨gr, 0, none⟩)) := h.cell (by decide)
    have hg := h.blk.2
    have hbv : b + v ≤ 10000000000 := by omega
    clear h hr
    go_enter Tryz.func96, Tryz.ntmps96
    go_wp2_with ((with_reducible go_at_call 76); (with_reducible refine HBT.out.mono ?_); rintro e w1 ⟨rfl, hb1, hg1⟩; have HB1 := Lib.hid hb1; have HG1 := Lib.hid hg1; clear hb1 hg1)
    go_ret2
    exact ⟨by go_num, HB1.out, HG1.out⟩
end Go.Cm

/- The walk of a copy's making. Conditions: the machine is there, its table of distances lies apart. -/
namespace Go.Cm
open Go.RowKit Go.Proofs

theorem TabAt.up' {w w' : World} {B g : Nat} {L : List Nat} (h : TabAt w B g L) (hb : Below w.heap.size w w') : TabAt w' B g L := by
  obtain ⟨E, fs, vf, h1, h2⟩ := h
  exact ⟨E, fs, vf, h1.up hb, h2⟩
/-- what a call that makes bytes answers: y is what the step does -/
def RetMake (B gm gr gw : Nat) (vb : Value) (s : ByteArray) (h0 : Byts) (m : MV) (M : MV → Prop) (y : Nat × IS) (w : World) (e : Ending) (w' : World) : Prop :=
  ∃ c p' H' vb' m', e = .returned (.tuple #[.string c, .int .i64 (y.1 : Nat)]) ∧ Mach w' B gm gr gw vb' s p' H' m' ∧ Fx (MSet gm gr gw vb) w w' ∧ (∀ k, vb'.ownBlock = some k → vb.ownBlock = some k ∨ w.heap.size ≤ k) ∧
    (y.1 = 0 → p' = y.2.p ∧ H' = y.2.h ∧ y.2.h = h0 ++ bys c ∧ M m') ∧ (y.1 ≠ 0 → m' = m)
set_option maxRecDepth 100000 in
set_option maxHeartbeats 2000000 in
theorem copiedM {w : World} {B gm gr gw p tc td : Nat} {vb : Value} {s : ByteArray} {z : IS} {m : MV} (h : Mach w B gm gr gw vb s p z.h m) (ht : TabIv w m.vd tc td z.di) (ha : ∀ k, tc ≤ k → k < td → ¬ MSet gm gr gw vb k) (h15 : ∀ x ∈ z.di, x ≤ 15) (hs : s.size ≤ 4294967296) (hp : p ≤ 8 * s.size) (sym : Nat) (hsy : sym < 100000) (hdl : z.di.length < 100000) :
    Calls Tryz.prog 87 #[.pointer (some ⟨gm, 0, none⟩), .int .i64 (sym : Nat)] w (RetMake B gm gr gw vb s z.h m (fun m' => m' = m) (cpyI (numS s) (8 * s.size) z sym p) w) := by
  obtain ⟨Y, hY⟩ : ∃ Y, Y = cpyI (numS s) (8 * s.size) z sym p := ⟨_, rfl⟩
  rw [← hY]
  have HY := Lib.hid hY
  clear hY
  unfold cpyI at HY
  have HLN := Lib.hid (fun W => lenP' sym hsy W)
  have hle := fun h => lenB_le (s := sym) h
  have hb1 : (lenB sym).1 ≤ 40000 ∧ (lenB sym).2.1 ≤ 32 := by
    by_cases h : (lenB sym).2.2 = true
    · obtain ⟨a, b, -⟩ := hle h; omega
    · have : lenB sym = (0, 0, false) := by
        unfold lenB at h ⊢
        by_cases h1 : sym = 285
        · rw [if_pos h1] at h; exact absurd rfl h
        · rw [if_neg h1] at h ⊢
          by_cases h2 : 257 ≤ sym ∧ sym < 285
          · rw [if_pos h2] at h; exact absurd rfl h
          · rw [if_neg h2]
      rw [this]; decide
  have HN1 := Lib.hid (fun (W : World) (hb : Below w.heap.size w W) => numberM (h.box.up hb) (h.rd.up hb) hs hp (lenB sym) hb1.1 hb1.2)
  have hn1 : (numB (numS s) (8 * s.size) p (lenB sym)).2.1 = 0 → (numB (numS s) (8 * s.size) p (lenB sym)).1 ≤ 300 ∧ (numB (numS s) (8 * s.size) p (lenB sym)).2.2 ≤ 8 * s.size := fun e => by
    obtain ⟨a1, a2, a3, a4⟩ := numB_ok e
    obtain ⟨l1, l2, l3, l4⟩ := hle a1
    have := valN_lt (numS s) p (lenB sym).2.1
    omega
  generalize numB (numS s) (8 * s.size) p (lenB sym) = D1 at *
  unfold symB at HLN
  generalize lenB sym = L1 at *
  obtain ⟨l1, l2, l3⟩ := L1
  obtain ⟨n, e1, p1⟩ := D1
  simp only at HY HLN HN1 hn1
  have HM := Lib.hid h
  have HNN := Lib.hid hn1
  clear h hn1 hle hb1
  go_enter Tryz.func87, Tryz.ntmps87
  go_upto_region 2 with (first | ((with_reducible go_at_call 97); (with_reducible refine (HLN.out _).mono ?_); rintro e w1 ⟨rfl, x1, rfl⟩) | ((with_reducible go_at_call 96); (with_reducible refine (HN1.out _ (ext_below w x1)).mono ?_); rintro e w2 ⟨rfl, hr2, hg2⟩; have HR2 := Lib.hid hr2; have HG2 := Lib.hid hg2; clear hr2 hg2))
  obtain ⟨hM2, hF2⟩ := (HM.out.up (ext_below w x1)).read HR2.out HG2.out
  have HM2 := Lib.hid hM2
  have HF2 := Lib.hid ((fx_below (S := MSet gm gr gw vb) (ext_below w x1)).trans hF2)
  clear hM2 hF2 HR2 HG2
  by_cases he1 : e1 = 0
  · subst he1
    rw [if_neg (fun h => h rfl)] at HY
    obtain ⟨hn3, hp1⟩ := HNN.out rfl
    have HN3 := Lib.hid hn3
    have HP1 := Lib.hid hp1
    have hT2 := ht.fx HF2.out (fun k h1 h2 => ha k h1 h2)
    obtain ⟨gt, hgt, hT⟩ := hT2.here
    have HTI := Lib.hid hT2
    have HRD := Lib.hid (readP (hT.up' (below_drewN w2 1)) (HM2.out.rd.up (below_drewN w2 1)) h15 hs hp1)
    rw [← World.drew_is_drewN] at HRD
    unfold RetRead at HRD
    have c0 : w2.cell? ⟨gm, 0, none⟩ = some (.pointer (some ⟨gr, 0, none⟩)) := HM2.out.box.cell (by decide)
    have c6 : w2.cell? ⟨gm, 6, none⟩ = some (.pointer (some ⟨gt, 0, none⟩)) := by rw [← hgt]; exact HM2.out.box.cell (by decide)
    have hgm := HM2.out.box.blk.2
    have hne : some gm ≠ some gr := fun e => HM2.out.n1 (by injection e)
    unfold cpyI2 at HY
    clear hT2 hT hn3 hp1 HNN
    go_wp2_with (fail)
    refine wp_region_phases (fun w' => ∃ x, w' = chg w2 (some gr) x) [([0,1,2,3,4,5,6,7],[8]), ([9,10,11,12,13],[])] (by kernel_rfl) (by kernel_rfl) (ex_chg (grown_drew _ _)) ?_
    (unfold wpPhases; simp only [pick, List.map_cons, List.map_nil, List.getD_cons_zero, List.getD_cons_succ])
    repeat (go_big_quiet_step (fail))
    refine wpQuiet_nil ?_
    unfold wpAct
    go_wp2_with ((with_reducible go_at_call 86); (with_reducible refine HRD.out.mono ?_); rintro e w3 ⟨a, er, d, rfl, hrn, hb3, hg3⟩; have HR3 := Lib.hid hrn; have HB3 := Lib.hid hb3; have HG3 := Lib.hid (grown_trans (grown_drew w2 (some gr)) hg3); clear hrn hb3 hg3)
    refine ⟨ex_chg HG3.out, ?_⟩
    unfold wpAct
    (unfold wpPhases; simp only [pick, List.map_cons, List.map_nil, List.getD_cons_zero, List.getD_cons_succ])
    repeat (go_big_quiet_step (fail))
    refine wpQuiet_nil ?_
    unfold wpAct
    unfold wpPhases
    intro hz; clear hz
    obtain ⟨ra, re, rd⟩ := read_one HR3.out (readF_ok z.di (numS s / 2 ^ p1) (8 * s.size - p1))
    rw [← ra, ← re, ← rd] at HY
    have HRL := Lib.hid (read_le HR3.out)
    have HRA : Hid (a < 100000) := Lib.hid (by
      rcases HR3.out with ⟨h1, -⟩ | ⟨-, h1, -⟩ <;> omega)
    obtain ⟨hM3, hF3⟩ := HM2.out.read HB3.out HG3.out
    have HM3 := Lib.hid hM3
    have HF3 := Lib.hid (HF2.out.trans hF3)
    clear hM3 hF3 HB3 HG3 HRD HM2 HF2 c0 c6 hgm ra re rd HTI hgt
    by_cases her : er = 0
    · subst her
      rw [if_neg (fun h => h rfl)] at HY
      have HP3 : Hid (p1 + d ≤ 8 * s.size) := Lib.hid (by have := HRL.out; have := HP1.out; omega)
      have HDS := Lib.hid (fun W => dstP' a HRA.out W)
      have hle := fun h => dstB_le (s := a) h
      have hb1 : (dstB a).1 ≤ 40000 ∧ (dstB a).2.1 ≤ 32 := by
        by_cases h : (dstB a).2.2 = true
        · obtain ⟨x1, x2, x3⟩ := hle h
          have : 0 < 2 ^ (dstB a).2.1 := Nat.pow_pos (by decide)
          omega
        · have : dstB a = (0, 0, false) := by
            unfold dstB at h ⊢
            by_cases h1 : a < 30
            · rw [if_pos h1] at h; exact absurd rfl h
            · rw [if_neg h1]
          rw [this]; decide
      have HN4 := Lib.hid (fun (W : World) (hb : Below w3.heap.size w3 W) => numberM (HM3.out.box.up hb) (HM3.out.rd.up hb) hs HP3.out (dstB a) hb1.1 hb1.2)
      have hn4 : (numB (numS s) (8 * s.size) (p1 + d) (dstB a)).2.1 = 0 → 1 ≤ (numB (numS s) (8 * s.size) (p1 + d) (dstB a)).1 ∧ (numB (numS s) (8 * s.size) (p1 + d) (dstB a)).1 ≤ 40000 := fun e => by
        obtain ⟨a1, a2, a3, a4⟩ := numB_ok e
        obtain ⟨x1, x2, x3⟩ := hle a1
        have := valN_lt (numS s) (p1 + d) (dstB a).2.1
        omega
      generalize numB (numS s) (8 * s.size) (p1 + d) (dstB a) = D4 at *
      unfold symB at HDS
      generalize dstB a = L4 at *
      obtain ⟨q1, q2, q3⟩ := L4
      obtain ⟨dd, e4, p4⟩ := D4
      simp only at HY HDS HN4 hn4
      have HN5 := Lib.hid hn4
      clear hn4 hle hb1 HR3 HRL HRA
      unfold cpyI3 at HY
      simp only at HY
      go_upto_region 8 with (first | ((with_reducible go_at_call 98); (with_reducible refine (HDS.out _).mono ?_); rintro e w4 ⟨rfl, x4, rfl⟩) | ((with_reducible go_at_call 96); (with_reducible refine (HN4.out _ (ext_below w3 x4)).mono ?_); rintro e w5 ⟨rfl, hr5, hg5⟩; have HR5 := Lib.hid hr5; have HG5 := Lib.hid hg5; clear hr5 hg5))
      obtain ⟨hM5, hF5⟩ := (HM3.out.up (ext_below w3 x4)).read HR5.out HG5.out
      have HM5 := Lib.hid hM5
      have HF5 := Lib.hid (HF3.out.trans ((fx_below (S := MSet gm gr gw vb) (ext_below w3 x4)).trans hF5))
      clear hM5 hF5 HR5 HG5 HM3 HF3
      by_cases he4 : e4 = 0
      · subst he4
        rw [if_neg (fun h => h rfl)] at HY
        obtain ⟨hd1, hd2⟩ := HN5.out rfl
        have HCP := Lib.hid (copyWn HM5.out.win HM5.out.B dd n hd1 hd2 (by have := HN3.out; omega))
        unfold RetCopy at HCP
        have c1 : w5.cell? ⟨gm, 1, none⟩ = some (.pointer (some ⟨gw, 0, none⟩)) := HM5.out.box.cell (by decide)
        have hgm := HM5.out.box.blk.2
        by_cases hbig : min z.h.length 32768 < dd
        · simp only [if_pos hbig] at HCP
          rw [if_pos hbig] at HY
          clear hbig hd1 hd2
          go_wp2_with ((with_reducible go_at_call 99); (with_reducible refine HCP.out.mono ?_); rintro e w6 ⟨rfl, hw6⟩; rw [hw6]; clear hw6)
          go_ret2
          refine ⟨⟨#[]⟩, p4, z.h, vb, m, by rw [HY.out]; rfl, HM5.out, HF5.out, fun k e => .inl e, fun e => ?_, fun _ => rfl⟩
          rw [HY.out] at e
          cases e
        · simp only [if_neg hbig] at HCP
          rw [if_neg hbig] at HY
          clear hbig hd1 hd2
          go_wp2_with ((with_reducible go_at_call 99); (with_reducible refine HCP.out.mono ?_); rintro e w6 ⟨c, v6, rfl, hc6, hl6, hw6, hk6, hf6⟩; have HC6 := Lib.hid hc6; have HW6 := Lib.hid hw6; have HK6 := Lib.hid hk6; have HF6 := Lib.hid hf6; clear hc6 hw6 hk6 hf6 hl6)
          go_ret2
          obtain ⟨hM7, hF7⟩ := HM5.out.wset HW6.out HK6.out HF6.out
          refine ⟨⟨c.toArray⟩, p4, z.h ++ c, v6, m, by rw [HY.out]; rfl, hM7, HF5.out.trans hF7, fun k e => (HK6.out k e).imp id (fun h => Nat.le_trans HF5.out.size h), fun e => ?_, fun _ => rfl⟩
          rw [HY.out]
          exact ⟨rfl, HC6.out.symm, by rw [bys_mk]; exact HC6.out, rfl⟩
      · rw [if_pos he4] at HY
        have hei : ((e4 : Int) != 0) = true := by simpa using he4
        go_wp2
        go_ret2
        refine ⟨⟨#[]⟩, p4, z.h, vb, m, by rw [HY.out]; rfl, HM5.out, HF5.out, fun k e => .inl e, fun e => ?_, fun _ => rfl⟩
        rw [HY.out] at e
        exact absurd e he4
    · rw [if_pos her] at HY
      have hei : ((er : Int) != 0) = true := by simpa using her
      go_wp2
      go_ret2
      refine ⟨⟨#[]⟩, p1 + d, z.h, vb, m, by rw [HY.out]; rfl, HM3.out, HF3.out, fun k e => .inl e, fun e => ?_, fun _ => rfl⟩
      rw [HY.out] at e
      exact absurd e her
  · rw [if_pos he1] at HY
    have hei : ((e1 : Int) != 0) = true := by simpa using he1
    go_wp2
    go_ret2
    refine ⟨⟨#[]⟩, p1, z.h, vb, m, by rw [HY.out]; rfl, HM2.out, HF2.out, fun k e => .inl e, fun e => ?_, fun _ => rfl⟩
    rw [HY.out] at e
    exact absurd e he1
end Go.Cm

/- The walk of a coded block's next bytes. Conditions: the machine is there, its tables lie apart. -/
namespace Go.Cm
open Go.RowKit Go.Proofs

def MRel (z : IS) (m : MV) : Prop := m.at_ = z.md ∧ m.fin = z.fin ∧ (z.md = 1 → m.left = z.left) ∧ (z.md < 3 → m.vf = fnV z.md) ∧ ∃ k, m.vf = fnV k
def MKeep (m m' : MV) : Prop := m'.vl = m.vl ∧ m'.vd = m.vd ∧ m'.made = m.made ∧ m'.told = m.told ∧ m'.waits = m.waits ∧ m'.wrong = m.wrong ∧ m'.vs = m.vs
theorem MKeep.refl (m : MV) : MKeep m m := ⟨rfl, rfl, rfl, rfl, rfl, rfl, rfl⟩
theorem MRel.close {z : IS} {m : MV} (h : MRel z m) : MRel (closeI z) m.close ∧ MKeep m m.close := by
  obtain ⟨h1, h2, h3, h4, k5, h5⟩ := h
  unfold closeI MV.close MV.turn
  refine ⟨⟨by show (if m.fin = true then 3 else 0) = _; rw [h2], h2, fun e => ?_, fun e => ?_, ?_⟩, rfl, rfl, rfl, rfl, rfl, rfl, rfl⟩
  · have e' : (if z.fin = true then 3 else 0) = 1 := e
    split at e' <;> cases e'
  · have e' : (if z.fin = true then 3 else 0) < 3 := e
    show (if (if m.fin = true then 3 else 0) < 3 then fnV (if m.fin = true then 3 else 0) else m.vf) = fnV (if z.fin = true then 3 else 0)
    rw [h2, if_pos e']
  · show ∃ k, (if (if m.fin = true then 3 else 0) < 3 then fnV (if m.fin = true then 3 else 0) else m.vf) = fnV k
    generalize (if m.fin = true then 3 else 0) = j
    by_cases hj : j < 3
    · rw [if_pos hj]; exact ⟨_, rfl⟩
    · rw [if_neg hj]; exact ⟨k5, h5⟩
theorem MRel.of {z z' : IS} {m : MV} (h : MRel z m) (h1 : z'.md = z.md) (h2 : z'.fin = z.fin) (h3 : z'.left = z.left) : MRel z' m := by
  obtain ⟨a, b, c, d, d2⟩ := h
  exact ⟨a.trans h1.symm, b.trans h2.symm, fun e => by rw [h3]; exact c (by rw [← h1]; exact e), fun e => by rw [h1]; exact d (by rw [← h1]; exact e), d2⟩
theorem cpyI_same {N T s p : Nat} {z : IS} : (cpyI N T z s p).2.md = z.md ∧ (cpyI N T z s p).2.fin = z.fin ∧ (cpyI N T z s p).2.left = z.left := by
  unfold cpyI
  split
  · exact ⟨rfl, rfl, rfl⟩
  · unfold cpyI2
    split
    · exact ⟨rfl, rfl, rfl⟩
    · unfold cpyI3
      split
      · exact ⟨rfl, rfl, rfl⟩
      · split <;> exact ⟨rfl, rfl, rfl⟩
theorem RetMake.mono {B gm gr gw : Nat} {vb : Value} {s : ByteArray} {h0 : Byts} {m : MV} {M M' : MV → Prop} {y : Nat × IS} {w : World} {e : Ending} {w' : World} (h : RetMake B gm gr gw vb s h0 m M y w e w') (hM : y.1 = 0 → ∀ x, M x → M' x) : RetMake B gm gr gw vb s h0 m M' y w e w' := by
  obtain ⟨c, p', H', vb', m', h1, h2, h3, h4, h5, h6⟩ := h
  exact ⟨c, p', H', vb', m', h1, h2, h3, h4, fun e => (let ⟨a, b, c, d⟩ := h5 e; ⟨a, b, c, hM e _ d⟩), h6⟩
/-- a call's answer, where memory was changed ahead of it -/
theorem RetMake.from {B gm gr gw : Nat} {vb : Value} {s : ByteArray} {h0 : Byts} {m : MV} {M : MV → Prop} {y : Nat × IS} {w w1 : World} {e : Ending} {w' : World} (hf : Fx (MSet gm gr gw vb) w w1) (h : RetMake B gm gr gw vb s h0 m M y w1 e w') : RetMake B gm gr gw vb s h0 m M y w e w' := by
  obtain ⟨c, p', H', vb', m', h1, h2, h3, h4, h5, h6⟩ := h
  exact ⟨c, p', H', vb', m', h1, h2, hf.trans h3, fun k e => (h4 k e).imp id (fun q => Nat.le_trans hf.size q), h5, h6⟩
set_option maxRecDepth 100000 in
set_option maxHeartbeats 2000000 in
theorem codedM {w : World} {B gm gr gw ta tb tc td : Nat} {vb : Value} {s : ByteArray} {z : IS} {m : MV} (h : Mach w B gm gr gw vb s z.p z.h m) (hl : TabIv w m.vl ta tb z.li) (ht : TabIv w m.vd tc td z.di) (ha : ∀ k, tc ≤ k → k < td → ¬ MSet gm gr gw vb k)
    (h15l : ∀ x ∈ z.li, x ≤ 15) (h15 : ∀ x ∈ z.di, x ≤ 15) (hs : s.size ≤ 4294967296) (hp : z.p ≤ 8 * s.size) (hll : z.li.length < 100000) (hdl : z.di.length < 100000) (hr : MRel z m) :
    Calls Tryz.prog 62 #[.pointer (some ⟨gm, 0, none⟩)] w (RetMake B gm gr gw vb s z.h m (fun m' => MRel (codI (numS s) (8 * s.size) z).2 m' ∧ MKeep m m') (codI (numS s) (8 * s.size) z) w) := by
  obtain ⟨Y, hY⟩ : ∃ Y, Y = codI (numS s) (8 * s.size) z := ⟨_, rfl⟩
  rw [← hY]
  have HY := Lib.hid hY
  clear hY
  unfold codI codI2 at HY
  have HM := Lib.hid h
  obtain ⟨gt, hgt, hT⟩ := hl.here
  have HRD := Lib.hid (readP (hT.up' (below_drewN w 1)) (h.rd.up (below_drewN w 1)) h15l hs hp)
  rw [← World.drew_is_drewN] at HRD
  unfold RetRead at HRD
  have c0 : w.cell? ⟨gm, 0, none⟩ = some (.pointer (some ⟨gr, 0, none⟩)) := h.box.cell (by decide)
  have c5 : w.cell? ⟨gm, 5, none⟩ = some (.pointer (some ⟨gt, 0, none⟩)) := by rw [← hgt]; exact h.box.cell (by decide)
  have hgm := h.box.blk.2
  have hne : some gm ≠ some gr := fun e => h.n1 (by injection e)
  clear h hT
  go_enter Tryz.func62, Tryz.ntmps62
  go_wp2_with (fail)
  refine wp_region_phases (fun w' => ∃ x, w' = chg w (some gr) x) [([0,1,2,3,4,5,6,7],[8]), ([9,10,11,12,13],[])] (by kernel_rfl) (by kernel_rfl) (ex_chg (grown_drew _ _)) ?_
  (unfold wpPhases; simp only [pick, List.map_cons, List.map_nil, List.getD_cons_zero, List.getD_cons_succ])
  repeat (go_big_quiet_step (fail))
  refine wpQuiet_nil ?_
  unfold wpAct
  go_wp2_with ((with_reducible go_at_call 86); (with_reducible refine HRD.out.mono ?_); rintro e w3 ⟨a, er, d, rfl, hrn, hb3, hg3⟩; have HR3 := Lib.hid hrn; have HB3 := Lib.hid hb3; have HG3 := Lib.hid (grown_trans (grown_drew w (some gr)) hg3); clear hrn hb3 hg3)
  refine ⟨ex_chg HG3.out, ?_⟩
  unfold wpAct
  (unfold wpPhases; simp only [pick, List.map_cons, List.map_nil, List.getD_cons_zero, List.getD_cons_succ])
  repeat (go_big_quiet_step (fail))
  refine wpQuiet_nil ?_
  unfold wpAct
  unfold wpPhases
  intro hz; clear hz
  obtain ⟨ra, re, rd⟩ := read_one HR3.out (readF_ok z.li (numS s / 2 ^ z.p) (8 * s.size - z.p))
  rw [← ra, ← re, ← rd] at HY
  have HRL := Lib.hid (read_le HR3.out)
  have HRA : Hid (a < 100000) := Lib.hid (by
    rcases HR3.out with ⟨h1, -⟩ | ⟨-, h1, -⟩ <;> omega)
  obtain ⟨hM3, hF3⟩ := HM.out.read HB3.out HG3.out
  have HM3 := Lib.hid hM3
  have HF3 := Lib.hid hF3
  have HT3 := Lib.hid (ht.fx hF3 (fun k h1 h2 => ha k h1 h2))
  clear hM3 hF3 HB3 HG3 HRD HM c0 c5 hgm ra re rd hgt ht hl
  by_cases her : er = 0
  · subst her
    rw [if_neg (fun h => h rfl)] at HY
    have HP3 : Hid (z.p + d ≤ 8 * s.size) := Lib.hid (by have := HRL.out; omega)
    by_cases h256 : a = 256
    · rw [if_pos h256] at HY
      subst h256
      have HCL := Lib.hid (closeM HM3.out.box)
      go_wp2_with ((with_reducible go_at_call 83); (with_reducible refine HCL.out.mono ?_); rintro e w4 ⟨rfl, h4, g4⟩; have H4 := Lib.hid h4; have G4 := Lib.hid g4; clear h4 g4)
      go_ret2
      obtain ⟨hM4, hF4⟩ := HM3.out.mset H4.out G4.out
      refine ⟨⟨#[]⟩, z.p + d, z.h, vb, m.close, by rw [HY.out]; rfl, hM4, HF3.out.trans hF4, fun k e => .inl e, fun _ => ?_, fun e => ?_⟩
      · rw [HY.out]
        exact ⟨rfl, rfl, by simp [closeI, bys], (hr.of (z' := { z with p := z.p + d }) rfl rfl rfl).close⟩
      · rw [HY.out] at e; exact absurd rfl e
    · rw [if_neg h256] at HY
      have h256i : ((a : Int) == 256) = false := by simp; omega
      by_cases hgt : 256 < a
      · rw [if_pos hgt] at HY
        have hga : (a : Int) > 256 := by omega
        have hgn : 256 < a := hgt
        have hsm := cpyI_same (N := numS s) (T := 8 * s.size) (z := z) (s := a) (p := z.p + d)
        have HCO := Lib.hid (copiedM HM3.out HT3.out ha h15 hs HP3.out a HRA.out hdl)
        rw [← HY.out] at HCO hsm
        have HSM := Lib.hid hsm
        clear hsm hgt
        go_wp2_with ((with_reducible go_at_call 87); (with_reducible refine HCO.out.mono ?_); rintro e w4 hret; have HRT := Lib.hid (RetMake.from HF3.out hret); obtain ⟨c, p', H', vb', m', rfl, -⟩ := hret)
        go_ret2
        exact HRT.out.mono (fun _ x hx => by
          obtain ⟨s1, s2, s3⟩ := HSM.out
          rw [hx]
          exact ⟨hr.of s1 s2 s3, MKeep.refl m⟩)
      · rw [if_neg hgt] at HY
        have hga : ¬ 256 < a := hgt
        have ha8 : a < 256 := by omega
        clear hgt
        have hb8 : IntKind.u8.wrap (a : Int) = (a : Int) := by unfold IntKind.wrap; simp [IntKind.bits, IntKind.signed]; omega
        have h5b := own_lit w3 w3.heap.size #[.int .u8 (a : Nat)] 5 (by simp) (Nat.le_refl _)
        have hcv := run_bytes_string (P := Tryz.prog) (w3.alloc (.cells #[.int .u8 (a : Nat)] 5)) 54 9 5 Tryz.underlying54 Tryz.underlying5 Tryz.underlying9 (.slice (some ⟨w3.heap.size, 0, none⟩) 1 1) [UInt8.ofNat a] (by
          rw [byte_u8 a ha8]
          exact h5b.sl)
        have HCV := Lib.hid hcv
        have HA5 := Lib.hid (below_alloc w3 (.cells #[.int .u8 (a : Nat)] 5))
        have HM5 := Lib.hid (HM3.out.up HA5.out)
        have HF5 := Lib.hid (HF3.out.trans (fx_below (S := MSet gm gr gw vb) HA5.out))
        obtain ⟨cs, hcs⟩ : ∃ cs : ByteArray, cs = ⟨[UInt8.ofNat a].toArray⟩ := ⟨_, rfl⟩
        have HPU := Lib.hid (putWn HM5.out.win HM5.out.B cs (by rw [hcs]; show [UInt8.ofNat a].toArray.size ≤ _; simp))
        have HCS := Lib.hid hcs
        rw [← hcs] at HCV
        clear h5b hcv hcs
        go_upto_region 10 with ((with_reducible show wpList _ _ _ (Oper.mk _ (.convert _ _ _) _ _ _ _ :: _) _ _); refine wpList_conv_by rfl 54 9 (.tmp 38) rfl _ HCV.out ?_)
        have hby : bys cs = [UInt8.ofNat a] := by rw [HCS.out, bys_mk]
        rw [hby] at HPU
        generalize w3.alloc (.cells #[.int .u8 (a : Nat)] 5) = w5 at *
        have c1 : w5.cell? ⟨gm, 1, none⟩ = some (.pointer (some ⟨gw, 0, none⟩)) := HM5.out.box.cell (by decide)
        have hgm := HM5.out.box.blk.2
        clear HCV HA5 HM3 HF3 HT3
        go_wp2_with ((with_reducible go_at_call 35); (with_reducible refine HPU.out.mono ?_); rintro e w6 ⟨rfl, v6, hw6, hk6, hf6⟩; have HW6 := Lib.hid hw6; have HK6 := Lib.hid hk6; have HF6 := Lib.hid hf6; clear hw6 hk6 hf6)
        go_ret2
        obtain ⟨hM7, hF7⟩ := HM5.out.wset HW6.out HK6.out HF6.out
        refine ⟨cs, z.p + d, z.h ++ [UInt8.ofNat a], v6, m, by rw [HY.out]; rfl, hM7, HF5.out.trans hF7, fun k e => (HK6.out k e).imp id (fun h => Nat.le_trans HF5.out.size h), fun e => ?_, fun _ => rfl⟩
        rw [HY.out, hby]
        exact ⟨rfl, rfl, rfl, hr.of rfl rfl rfl, MKeep.refl m⟩
  · rw [if_pos her] at HY
    have hei : ((er : Int) != 0) = true := by simpa using her
    go_wp2
    go_ret2
    refine ⟨⟨#[]⟩, z.p + d, z.h, vb, m, by rw [HY.out]; rfl, HM3.out, HF3.out, fun k e => .inl e, fun e => ?_, fun _ => rfl⟩
    rw [HY.out] at e
    exact absurd e her
end Go.Cm

/- The walk of a stored block's next bytes. Conditions: the machine is there. -/
namespace Go.Cm
open Go.RowKit Go.Proofs

set_option maxRecDepth 100000 in
set_option maxHeartbeats 2000000 in
theorem storedM {w : World} {B gm gr gw : Nat} {vb : Value} {s : ByteArray} {z : IS} {m : MV} (h : Mach w B gm gr gw vb s z.p z.h m) (hs : s.size ≤ 4294967296) (hp : z.p ≤ 8 * s.size) (hal : z.p % 8 = 0) (hlf : z.left ≤ 65535) (hr : MRel z m) (hmd : z.md = 1) :
    Calls Tryz.prog 61 #[.pointer (some ⟨gm, 0, none⟩)] w (RetMake B gm gr gw vb s z.h m (fun m' => MRel (storI (8 * s.size) (bys s) z).2 m' ∧ MKeep m m') (storI (8 * s.size) (bys s) z) w) := by
  obtain ⟨Y, hY⟩ : ∃ Y, Y = storI (8 * s.size) (bys s) z := ⟨_, rfl⟩
  rw [← hY]
  have HY := Lib.hid hY
  clear hY
  unfold storI at HY
  have HM := Lib.hid h
  have hml := hr.2.2.1 hmd
  have HR := Lib.hid hr
  have c4 : w.cell? ⟨gm, 4, none⟩ = some (.int .i64 (z.left : Nat)) := by rw [← hml]; exact h.box.cell (by decide)
  have c0 : w.cell? ⟨gm, 0, none⟩ = some (.pointer (some ⟨gr, 0, none⟩)) := h.box.cell (by decide)
  have hgm := h.box.blk.2
  clear h hr
  by_cases h0 : z.left = 0
  · rw [if_pos h0] at HY
    rw [h0] at c4
    have HCL := Lib.hid (closeM HM.out.box)
    clear h0 hlf
    go_enter Tryz.func61, Tryz.ntmps61
    go_wp2_with ((with_reducible go_at_call 83); (with_reducible refine HCL.out.mono ?_); rintro e w4 ⟨rfl, h4, g4⟩; have H4 := Lib.hid h4; have G4 := Lib.hid g4; clear h4 g4)
    go_ret2
    obtain ⟨hM4, hF4⟩ := HM.out.mset H4.out G4.out
    refine ⟨⟨#[]⟩, z.p, z.h, vb, m.close, by rw [HY.out]; rfl, hM4, hF4, fun k e => .inl e, fun _ => ?_, fun e => ?_⟩
    · rw [HY.out]
      exact ⟨rfl, rfl, by simp [closeI, bys], HR.out.close⟩
    · rw [HY.out] at e; exact absurd rfl e
  · rw [if_neg h0] at HY
    have h0i : ((z.left : Int) == 0) = false := by simp; omega
    obtain ⟨q, hq⟩ : ∃ q, q = 8 * s.size - z.p := ⟨_, rfl⟩
    obtain ⟨q8, hq8⟩ : ∃ q8, q8 = q / 8 := ⟨_, rfl⟩
    obtain ⟨n, hn⟩ : ∃ n, n = min z.left q8 := ⟨_, rfl⟩
    have HLF := Lib.hid (fun x => leftS (HM.out.rd.up (ext_below w x)) hs hp)
    rw [← hq] at HLF
    rw [← hq, ← hq8, ← hn] at HY
    have hqd : (q : Int).tdiv 8 = (q8 : Nat) := by rw [Int.tdiv_eq_ediv_of_nonneg (by omega)]; omega
    have hqe : (q : Int) / 8 = (q8 : Nat) := by omega
    have hqb : q8 ≤ 4294967296 := by omega
    have HMN := Lib.hid hn
    have HNL : Hid (n ≤ z.left ∧ z.p + 8 * n ≤ 8 * s.size) := Lib.hid (by omega)
    obtain ⟨lf, hlf2⟩ : ∃ lf, lf = z.left := ⟨_, rfl⟩
    have HLE := Lib.hid hlf2
    rw [← hlf2] at c4 h0i HMN
    have hlf3 : lf ≤ 65535 := by omega
    clear hq hq8 h0 hlf hlf2 hn
    go_enter Tryz.func61, Tryz.ntmps61
    go_wp2_with (fail)
    refine wp_region_ext (by kernel_rfl) (by kernel_rfl) ?_
    repeat (first
      | (go_big_quiet_want; (with_reducible show Oper.quiet _ (Oper.mk _ (.call _) _ _ _ _) _ _ _); refine quiet_min (.tmp 17) (.tmp 23) 3 3 rfl lf q8 n rfl rfl HMN.out ?_; go_simp; go_big_quiet_on)
      | go_big_quiet_step ((go_at_call 84; exact calls_in (HLF.out _))))
    refine wpQuiet_nil ?_
    rintro w1 ⟨y1, rfl⟩
    have HB1 := Lib.hid (ext_below w y1)
    have HM1 := Lib.hid (HM.out.up HB1.out)
    generalize ext w y1 = w1 at *
    clear HLF hqd hqe
    by_cases hn0 : n = 0
    · rw [if_pos hn0] at HY
      subst hn0
      go_wp2
      go_ret2
      refine ⟨⟨#[]⟩, z.p, z.h, vb, m, by rw [HY.out]; rfl, HM1.out, fx_below HB1.out, fun k e => .inl e, fun e => ?_, fun _ => rfl⟩
      rw [HY.out] at e
      cases e
    · rw [if_neg hn0] at HY
      have hni : ((n : Int) == 0) = false := by simp; omega
      obtain ⟨hnl1, hnl2⟩ := HNL.out
      have HBY := Lib.hid (bytesRd HM1.out.rd hs n hal hnl2)
      obtain ⟨C, hC⟩ : ∃ C, C = ((bys s).drop (z.p / 8)).take n := ⟨_, rfl⟩
      rw [← hC] at HBY HY
      have hCl : C.length ≤ 65535 := by rw [hC, List.length_take]; have := HLE.out; omega
      obtain ⟨cs, hcs⟩ : ∃ cs : ByteArray, cs = ⟨C.toArray⟩ := ⟨_, rfl⟩
      rw [← hcs] at HBY
      have hby : bys cs = C := by rw [hcs, bys_mk]
      have HCZ : Hid (cs.size ≤ 50000000) := Lib.hid (by rw [← bys_len, hby]; omega)
      have HBC := Lib.hid hby
      have c0 : w1.cell? ⟨gm, 0, none⟩ = some (.pointer (some ⟨gr, 0, none⟩)) := HM1.out.box.cell (by decide)
      have c1 : w1.cell? ⟨gm, 1, none⟩ = some (.pointer (some ⟨gw, 0, none⟩)) := HM1.out.box.cell (by decide)
      have hgm1 := HM1.out.box.blk.2
      have hln : (lf : Int) - (n : Int) = ((lf - n : Nat) : Int) := by have := HLE.out; omega
      obtain ⟨ln, hln2⟩ : ∃ ln, ln = lf - n := ⟨_, rfl⟩
      rw [← hln2] at hln
      have hlnb : ln ≤ 65535 := by omega
      have HLN := Lib.hid hln2
      have hne : gm ≠ gr := HM1.out.n1
      clear hC hCl hcs hby hn0 hnl1 hnl2 hln2
      go_upto_region 8 with ((with_reducible go_at_call 85); (with_reducible refine HBY.out.mono ?_); rintro e w2 ⟨rfl, hb2, hg2⟩; have HB2 := Lib.hid hb2; have HG2 := Lib.hid hg2; clear hb2 hg2)
      obtain ⟨hM2, hF2⟩ := HM1.out.read HB2.out HG2.out
      have HM2 := Lib.hid hM2
      have HF2 := Lib.hid ((fx_below (S := MSet gm gr gw vb) HB1.out).trans hF2)
      obtain ⟨hS3, hG3⟩ := hM2.box.set 4 (.int .i64 (ln : Nat)) (m' := { m with left := ln }) rfl
      obtain ⟨hM3, hF3⟩ := hM2.mset hS3 hG3
      have c4' : w2.cell? ⟨gm, 4, none⟩ = some (.int .i64 (lf : Nat)) := by rw [HLE.out, ← hml]; exact hM2.box.cell (by decide)
      have f4 := hM2.box.free 4
      have g2 := hM2.box.blk.2
      have HM3 := Lib.hid hM3
      have HF3 := Lib.hid (HF2.out.trans hF3)
      have HPU := Lib.hid (putWn hM3.win hM3.B cs HCZ.out)
      have c1' : (w2.setCell ⟨gm, 4, none⟩ (.int .i64 (ln : Nat))).cell? ⟨gm, 1, none⟩ = some (.pointer (some ⟨gw, 0, none⟩)) := hM3.box.cell (by decide)
      clear hM2 hF2 hS3 hG3 hM3 hF3 HM1 HB1 HM
      go_wp2_with ((with_reducible go_at_call 35); (with_reducible refine HPU.out.mono ?_); rintro e w6 ⟨rfl, v6, hw6, hk6, hf6⟩; have HW6 := Lib.hid hw6; have HK6 := Lib.hid hk6; have HF6 := Lib.hid hf6; clear hw6 hk6 hf6)
      go_ret2
      obtain ⟨hM7, hF7⟩ := HM3.out.wset HW6.out HK6.out HF6.out
      refine ⟨cs, z.p + 8 * n, z.h ++ bys cs, v6, { m with left := ln }, by rw [HY.out]; rfl, hM7, HF3.out.trans hF7, fun k e => (HK6.out k e).imp id (fun h => Nat.le_trans HF3.out.size h), fun _ => ?_, fun e => ?_⟩
      · rw [HY.out, HBC.out]
        refine ⟨rfl, rfl, rfl, ⟨HR.out.1, HR.out.2.1, fun _ => ?_, HR.out.2.2.2⟩, rfl, rfl, rfl, rfl, rfl, rfl, rfl⟩
        show ln = z.left - n
        rw [HLN.out, HLE.out]
      · rw [HY.out] at e; exact absurd rfl e
end Go.Cm

/- A whole machine in memory. Conditions: as each says. -/
namespace Go.Cm
open Go.RowKit Go.Proofs

theorem TabM.agr {w w' : World} {B g sy : Nat} {E : Nat → Ent} {fs : List Sub} {vf : Value} (h : TabM w B g sy E fs vf) (ha : ∀ k, B ≤ k → k < w.heap.size → w'.heap[k]? = w.heap[k]?) : TabM w' B g sy E fs vf := by
  have key : ∀ {T : TypeId} {v : Value} {xs : List Value}, Own w B T v xs → Own w' B T v xs := fun ho => ho.of_blk (fun k e => ha k (ho.lt k e).1 (ho.lt k e).2)
  exact ⟨key h.box, key h.outer, h.ne, fun k f hf => ⟨key (h.rows k f hf).1, (h.rows k f hf).2⟩, h.apart⟩
theorem TabAt.iv {w w' : World} {g : Nat} {L : List Nat} (h : TabAt w' w.heap.size g L) : TabIv w' (.pointer (some ⟨g, 0, none⟩)) w.heap.size w'.heap.size L := by
  obtain ⟨E, fs, vf, h1, h2⟩ := h
  exact ⟨g, rfl, Nat.le_refl _, fun w'' ha _ => ⟨E, fs, vf, h1.agr ha, h2⟩⟩
def stC (x : Nat × Nat) : List Value := [.int .i64 (x.1 : Nat), .int .i64 (x.2 : Nat)]
/-- all blocks that a machine writes -/
abbrev FSet (gm gr gw : Nat) (vb vs : Value) (k : Nat) : Prop := MSet gm gr gw vb k ∨ vs.ownBlock = some k
/-- a machine with its starts; apart -/
def MV.One (m : MV) : Prop := m.vl.oneCell' = true ∧ m.vd.oneCell' = true ∧ ∃ k, m.vf = fnV k
theorem MV.One.turn {m : MV} {k : Nat} (h : m.One) : (m.turn k).One := by
  obtain ⟨a, b, c, d⟩ := h
  refine ⟨a, b, ?_⟩
  show ∃ j, (if k < 3 then fnV k else m.vf) = fnV j
  split
  · exact ⟨_, rfl⟩
  · exact ⟨c, d⟩
structure Full0 (w : World) (B gm gr gw : Nat) (vb : Value) (s : ByteArray) (p : Nat) (H : Byts) (st : List (Nat × Nat)) (m : MV) : Prop where
  mach : Mach w B gm gr gw vb s p H m
  sts : OwnK 2 w B 49 m.vs (st.map stC)
  sd : ∀ k, m.vs.ownBlock = some k → k ≠ gm ∧ k ≠ gr ∧ k ≠ gw ∧ vb.ownBlock ≠ some k
  one : MV.One m
/-- .. where nothing is wrong; its tables avoid X -/
structure Full (w : World) (B gm gr gw : Nat) (vb : Value) (X : Nat → Prop) (s : ByteArray) (z : IS) (m : MV) : Prop where
  f0 : Full0 w B gm gr gw vb s z.p z.h z.st m
  rel : MRel z m
  tabs : z.md = 2 → ∃ ta tb tc td, TabIv w m.vl ta tb z.li ∧ TabIv w m.vd tc td z.di ∧ ∀ k, (ta ≤ k ∧ k < tb) ∨ (tc ≤ k ∧ k < td) → ¬ FSet gm gr gw vb m.vs k ∧ ¬ X k
theorem ffx_next {gm gr gw : Nat} {vb vb' vs vs' : Value} {w w1 w2 : World} (h : Fx (FSet gm gr gw vb vs) w w1) (hk : ∀ k, vb'.ownBlock = some k → vb.ownBlock = some k ∨ w.heap.size ≤ k) (hk2 : ∀ k, vs'.ownBlock = some k → vs.ownBlock = some k ∨ w.heap.size ≤ k) (k : Fx (FSet gm gr gw vb' vs') w1 w2) : Fx (FSet gm gr gw vb vs) w w2 :=
  ⟨k.os.trans h.os, k.tape.trans h.tape, k.output.trans h.output, Nat.le_trans h.size k.size, fun i hi h1 => by
    rw [k.block i (Nat.lt_of_lt_of_le hi h.size) (fun e => ?_), h.block i hi h1]
    rcases e with (e | e | e | e) | e
    · exact h1 (.inl (.inl e))
    · exact h1 (.inl (.inr (.inl e)))
    · exact h1 (.inl (.inr (.inr (.inl e))))
    · rcases hk i e with h2 | h2
      · exact h1 (.inl (.inr (.inr (.inr h2))))
      · omega
    · rcases hk2 i e with h2 | h2
      · exact h1 (.inr h2)
      · omega⟩
/-- the starts stay where the machine alone goes on -/
theorem OwnK.fx {k : Nat} {S : Nat → Prop} {w w' : World} {B : Nat} {E : TypeId} {v : Value} {l : List (List Value)} (h : OwnK k w B E v l) (hf : Fx S w w') (hS : ∀ q, v.ownBlock = some q → ¬ S q) : OwnK k w' B E v l := by
  obtain ⟨⟨h0, h1⟩, h2⟩ := h
  refine ⟨⟨h0, ?_⟩, h2⟩
  rcases h1 with h1 | ⟨g, cap, cur, e, hb, hg, hr⟩
  · exact .inl h1
  · refine .inr ⟨g, cap, cur, e, hb, ?_, hr⟩
    rw [hf.block g (Array.getElem?_eq_some_iff.1 hg).1 (hS g (by rw [e]; rfl))]; exact hg
theorem Full0.make {w w' : World} {B gm gr gw p p' : Nat} {vb vb' : Value} {s : ByteArray} {H H' : Byts} {st : List (Nat × Nat)} {m m' : MV} (h : Full0 w B gm gr gw vb s p H st m) (hM : Mach w' B gm gr gw vb' s p' H' m') (hf : Fx (MSet gm gr gw vb) w w') (hk : ∀ k, vb'.ownBlock = some k → vb.ownBlock = some k ∨ w.heap.size ≤ k) (hv : m'.vs = m.vs) (ho : m.One → m'.One) : Full0 w' B gm gr gw vb' s p' H' st m' := by
  have h1 : OwnK 2 w' B 49 m.vs (st.map stC) := h.sts.fx hf (fun q e z => by
    obtain ⟨a, b, c, d⟩ := h.sd q e
    rcases z with z | z | z | z
    · exact a z
    · exact b z
    · exact c z
    · exact d z)
  refine ⟨hM, by rw [hv]; exact h1, fun k e => ?_, ho h.one⟩
  · rw [hv] at e
    obtain ⟨a, b, c, d⟩ := h.sd k e
    refine ⟨a, b, c, fun z => ?_⟩
    rcases hk k z with q | q
    · exact d q
    · have := (h.sts.lt k e).2; omega
theorem Full0.up {w w' : World} {B gm gr gw p : Nat} {vb : Value} {s : ByteArray} {H : Byts} {st : List (Nat × Nat)} {m : MV} (h : Full0 w B gm gr gw vb s p H st m) (hb : Below w.heap.size w w') : Full0 w' B gm gr gw vb s p H st m := ⟨h.mach.up hb, h.sts.up hb, h.sd, h.one⟩
theorem Full0.mset {w w' : World} {B gm gr gw p : Nat} {vb : Value} {s : ByteArray} {H : Byts} {st : List (Nat × Nat)} {m m' : MV} (h : Full0 w B gm gr gw vb s p H st m) (hm : MBox w' B gm gr gw m') (hg : w.grownBy w' (some gm)) (hv : m'.vs = m.vs) (ho : m.One → m'.One := by first | exact id | exact fun h => ⟨rfl, h.2⟩ | exact fun h => ⟨h.1, rfl, h.2.2⟩ | exact fun h => ⟨rfl, rfl, h.2.2⟩ | exact MV.One.turn) : Full0 w' B gm gr gw vb s p H st m' ∧ Fx (FSet gm gr gw vb m.vs) w w' := by
  obtain ⟨a, b⟩ := h.mach.mset hm hg
  exact ⟨h.make a b (fun k e => .inl e) hv ho, b.mono (fun k e => .inl e)⟩
theorem Mach.fx {S : Nat → Prop} {w w' : World} {B gm gr gw p : Nat} {vb : Value} {s : ByteArray} {H : Byts} {m : MV} (h : Mach w B gm gr gw vb s p H m) (hf : Fx S w w') (hS : ∀ k, MSet gm gr gw vb k → ¬ S k) : Mach w' B gm gr gw vb s p H m :=
  ⟨h.box.fx hf (hS gm (.inl rfl)), ⟨hf.own h.rd.own (fun k e => by cases e; exact hS _ (.inr (.inl rfl)))⟩, h.win.fx hf (hS gw (.inr (.inr (.inl rfl)))) (fun k e => hS k (.inr (.inr (.inr e)))), h.n1, h.n2, h.n3, h.b1, h.b2, h.Br⟩
theorem Full0.push {w w5 : World} {B gm gr gw p : Nat} {vb v' : Value} {s : ByteArray} {H : Byts} {st : List (Nat × Nat)} {m : MV} {x : Nat × Nat} (h : Full0 w B gm gr gw vb s p H st m) (ho : OwnK 2 w5 B 49 v' (st.map stC ++ [stC x])) (hg : w.grownBy w5 m.vs.ownBlock) (hk : ∀ k, v'.ownBlock = some k → m.vs.ownBlock = some k ∨ w.heap.size ≤ k) :
    MBox w5 B gm gr gw m ∧ Full0 (w5.setCell ⟨gm, 11, none⟩ v') B gm gr gw vb s p H (st ++ [x]) { m with vs := v' } ∧ Fx (FSet gm gr gw vb m.vs) w (w5.setCell ⟨gm, 11, none⟩ v') := by
  have hf : Fx (fun k => m.vs.ownBlock = some k) w w5 := fx_grown hg (fun k e => e)
  have hM : Mach w5 B gm gr gw vb s p H m := h.mach.fx hf (fun k e z => by
    obtain ⟨a, b, c, d⟩ := h.sd k z
    rcases e with e | e | e | e
    · exact a e
    · exact b e
    · exact c e
    · exact d e)
  obtain ⟨hS, hG⟩ := hM.box.set 11 v' (m' := { m with vs := v' }) rfl
  obtain ⟨hM6, hF6⟩ := hM.mset hS hG
  have hgm := h.mach.box.blk.2
  have hgr := h.mach.rd.lt
  have hgw : gw < w.heap.size ∧ ∀ k, vb.ownBlock = some k → k < w.heap.size := by
    obtain ⟨b, hb, -⟩ := h.mach.win
    exact ⟨hb.box.blk.2, fun k e => (hb.own.lt k e).2⟩
  have hsd : ∀ k, v'.ownBlock = some k → k ≠ gm ∧ k ≠ gr ∧ k ≠ gw ∧ vb.ownBlock ≠ some k := fun k e => by
    rcases hk k e with z | z
    · exact h.sd k z
    · exact ⟨by omega, by omega, by omega, fun q => by have := hgw.2 k q; omega⟩
  refine ⟨hM.box, ⟨hM6, ?_, hsd, h.one⟩, ?_⟩
  · rw [List.map_append]
    exact ho.keep hG (.inr (fun e => (hsd gm e).1 rfl))
  · exact (hf.mono (fun k e => .inr e)).trans (hF6.mono (fun k e => .inl e))
end Go.Cm
