/- Texts of this claim, joined: walks of small functions and plain facts about them. Conditions: as each says. -/
import Derived.Test.YtmophmeiemfikaaGreatAG
import Derived.Test.YtmophmeiemfikaaGreatRows
import Derived.WalkKit
import Derived.WalkSpells
import Derived.WalkLawsBesides
import Derived.Deep.QuietTactic
import Derived.BigQuiet
import Derived.Lib.Hide
import Derived.Laws.Small
import Derived.Deep.LoopGhost
import Derived.Laws.BitsLemmas
import Derived.Deep.DeepCutAuto
import Derived.Deep.CutBlock
import Derived.Deep.CutRange
import Derived.Laws.IdiomStrings
import Derived.Laws.CopyOwn
import Derived.Laws.EntriesVeiled
import Derived.Shelf.Abstract
import Derived.WalkMore
/- The walk of a stored block's next bytes. Conditions: the machine is there. -/
namespace Go.Cm
open Go.RowKit Go.Proofs

set_option maxRecDepth 100000 in
set_option maxHeartbeats 2000000 in
theorem storedM {w : World} {B gm gr gw : Nat} {vb : Value} {s : ByteArray} {z : IS} {m : MV} (h : Mach w B gm gr gw vb s z.p z.h m) (hs : s.size ≤ 4294967296) (hp : z.p ≤ 8 * s.size) (hal : z.p % 8 = 0) (hlf : z.left ≤ 65535) (hr : MRel z m) (hmd : z.md = 1) :
    Calls Tryz.prog 61 #[.pointer (some ⟨gm, 0, none⟩)] w (RetMake B gm gr gw vb s z.h m (fun m' => MRel (storI (8 * s.size) (bys s) z).2 m' ∧ MKeep m m') (storI (8 * s.size) (bys s) z) w) := by
  obtain ⟨Y, hY⟩ : ∃ Y, Y = storI (8 * s.size) (bys s) z := ⟨_, rfl⟩
  rw [← hY]
  have HY := Lib.hid hY
  clear hY
  unfold storI at HY
  have HM := Lib.hid h
  have hml := hr.2.2.1 hmd
  have HR := Lib.hid hr
  have c4 : w.cell? ⟨gm, 4, none⟩ = some (.int .i64 (z.left : Nat)) := by rw [← hml]; exact h.box.cell (by decide)
  have c0 : w.cell? ⟨gm, 0, none⟩ = some (.pointer (some ⟨gr, 0, none⟩)) := h.box.cell (by decide)
  have hgm := h.box.blk.2
  clear h hr
  by_cases h0 : z.left = 0
  · rw [if_pos h0] at HY
    rw [h0] at c4
    have HCL := Lib.hid (closeM HM.out.box)
    clear h0 hlf
    go_enter Tryz.func61, Tryz.ntmps61
    go_wp2_with ((with_reducible go_at_call 83); (with_reducible refine HCL.out.mono ?_); rintro e w4 ⟨rfl, h4, g4⟩; have H4 := Lib.hid h4; have G4 := Lib.hid g4; clear h4 g4)
    go_ret2
    obtain ⟨hM4, hF4⟩ := HM.out.mset H4.out G4.out
    refine ⟨⟨#[]⟩, z.p, z.h, vb, m.close, by rw [HY.out]; rfl, hM4, hF4, fun k e => .inl e, fun _ => ?_, fun e => ?_⟩
    · rw [HY.out]
      exact ⟨rfl, rfl, by simp [closeI, bys], HR.out.close⟩
    · rw [HY.out] at e; exact absurd rfl e
  · rw [if_neg h0] at HY
    have h0i : ((z.left : Int) == 0) = false := by simp; omega
    obtain ⟨q, hq⟩ : ∃ q, q = 8 * s.size - z.p := ⟨_, rfl⟩
    obtain ⟨q8, hq8⟩ : ∃ q8, q8 = q / 8 := ⟨_, rfl⟩
    obtain ⟨n, hn⟩ : ∃ n, n = min z.left q8 := ⟨_, rfl⟩
    have HLF := Lib.hid (fun x => leftS (HM.out.rd.up (ext_below w x)) hs hp)
    rw [← hq] at HLF
    rw [← hq, ← hq8, ← hn] at HY
    have hqd : (q : Int).tdiv 8 = (q8 : Nat) := by rw [Int.tdiv_eq_ediv_of_nonneg (by omega)]; omega
    have hqe : (q : Int) / 8 = (q8 : Nat) := by omega
    have hqb : q8 ≤ 4294967296 := by omega
    have HMN := Lib.hid hn
    have HNL : Hid (n ≤ z.left ∧ z.p + 8 * n ≤ 8 * s.size) := Lib.hid (by omega)
    obtain ⟨lf, hlf2⟩ : ∃ lf, lf = z.left := ⟨_, rfl⟩
    have HLE := Lib.hid hlf2
    rw [← hlf2] at c4 h0i HMN
    have hlf3 : lf ≤ 65535 := by omega
    clear hq hq8 h0 hlf hlf2 hn
    go_enter Tryz.func61, Tryz.ntmps61
    go_wp2_with (fail)
    refine wp_region_ext (by kernel_rfl) (by kernel_rfl) ?_
    repeat (first
      | (go_big_quiet_want; (with_reducible show Oper.quiet _ (Oper.mk _ (.call _) _ _ _ _) _ _ _); refine quiet_min (.tmp 17) (.tmp 23) 3 3 rfl lf q8 n rfl rfl HMN.out ?_; go_simp; go_big_quiet_on)
      | go_big_quiet_step ((go_at_call 84; exact calls_in (HLF.out _))))
    refine wpQuiet_nil ?_
    rintro w1 ⟨y1, rfl⟩
    have HB1 := Lib.hid (ext_below w y1)
    have HM1 := Lib.hid (HM.out.up HB1.out)
    generalize ext w y1 = w1 at *
    clear HLF hqd hqe
    by_cases hn0 : n = 0
    · rw [if_pos hn0] at HY
      subst hn0
      go_wp2
      go_ret2
      refine ⟨⟨#[]⟩, z.p, z.h, vb, m, by rw [HY.out]; rfl, HM1.out, fx_below HB1.out, fun k e => .inl e, fun e => ?_, fun _ => rfl⟩
      rw [HY.out] at e
      cases e
    · rw [if_neg hn0] at HY
      have hni : ((n : Int) == 0) = false := by simp; omega
      obtain ⟨hnl1, hnl2⟩ := HNL.out
      have HBY := Lib.hid (bytesRd HM1.out.rd hs n hal hnl2)
      obtain ⟨C, hC⟩ : ∃ C, C = ((bys s).drop (z.p / 8)).take n := ⟨_, rfl⟩
      rw [← hC] at HBY HY
      have hCl : C.length ≤ 65535 := by rw [hC, List.length_take]; have := HLE.out; omega
      obtain ⟨cs, hcs⟩ : ∃ cs : ByteArray, cs = ⟨C.toArray⟩ := ⟨_, rfl⟩
      rw [← hcs] at HBY
      have hby : bys cs = C := by rw [hcs, bys_mk]
      have HCZ : Hid (cs.size ≤ 50000000) := Lib.hid (by rw [← bys_len, hby]; omega)
      have HBC := Lib.hid hby
      have c0 : w1.cell? ⟨gm, 0, none⟩ = some (.pointer (some ⟨gr, 0, none⟩)) := HM1.out.box.cell (by decide)
      have c1 : w1.cell? ⟨gm, 1, none⟩ = some (.pointer (some ⟨gw, 0, none⟩)) := HM1.out.box.cell (by decide)
      have hgm1 := HM1.out.box.blk.2
      have hln : (lf : Int) - (n : Int) = ((lf - n : Nat) : Int) := by have := HLE.out; omega
      obtain ⟨ln, hln2⟩ : ∃ ln, ln = lf - n := ⟨_, rfl⟩
      rw [← hln2] at hln
      have hlnb : ln ≤ 65535 := by omega
      have HLN := Lib.hid hln2
      have hne : gm ≠ gr := HM1.out.n1
      clear hC hCl hcs hby hn0 hnl1 hnl2 hln2
      go_upto_region 8 with ((with_reducible go_at_call 85); (with_reducible refine HBY.out.mono ?_); rintro e w2 ⟨rfl, hb2, hg2⟩; have HB2 := Lib.hid hb2; have HG2 := Lib.hid hg2; clear hb2 hg2)
      obtain ⟨hM2, hF2⟩ := HM1.out.read HB2.out HG2.out
      have HM2 := Lib.hid hM2
      have HF2 := Lib.hid ((fx_below (S := MSet gm gr gw vb) HB1.out).trans hF2)
      obtain ⟨hS3, hG3⟩ := hM2.box.set 4 (.int .i64 (ln : Nat)) (m' := { m with left := ln }) rfl
      obtain ⟨hM3, hF3⟩ := hM2.mset hS3 hG3
      have c4' : w2.cell? ⟨gm, 4, none⟩ = some (.int .i64 (lf : Nat)) := by rw [HLE.out, ← hml]; exact hM2.box.cell (by decide)
      have f4 := hM2.box.free 4
      have g2 := hM2.box.blk.2
      have HM3 := Lib.hid hM3
      have HF3 := Lib.hid (HF2.out.trans hF3)
      have HPU := Lib.hid (putWn hM3.win hM3.B cs HCZ.out)
      have c1' : (w2.setCell ⟨gm, 4, none⟩ (.int .i64 (ln : Nat))).cell? ⟨gm, 1, none⟩ = some (.pointer (some ⟨gw, 0, none⟩)) := hM3.box.cell (by decide)
      clear hM2 hF2 hS3 hG3 hM3 hF3 HM1 HB1 HM
      go_wp2_with ((with_reducible go_at_call 35); (with_reducible refine HPU.out.mono ?_); rintro e w6 ⟨rfl, v6, hw6, hk6, hf6⟩; have HW6 := Lib.hid hw6; have HK6 := Lib.hid hk6; have HF6 := Lib.hid hf6; clear hw6 hk6 hf6)
      go_ret2
      obtain ⟨hM7, hF7⟩ := HM3.out.wset HW6.out HK6.out HF6.out
      refine ⟨cs, z.p + 8 * n, z.h ++ bys cs, v6, { m with left := ln }, by rw [HY.out]; rfl, hM7, HF3.out.trans hF7, fun k e => (HK6.out k e).imp id (fun h => Nat.le_trans HF3.out.size h), fun _ => ?_, fun e => ?_⟩
      · rw [HY.out, HBC.out]
        refine ⟨rfl, rfl, rfl, ⟨HR.out.1, HR.out.2.1, fun _ => ?_, HR.out.2.2.2⟩, rfl, rfl, rfl, rfl, rfl, rfl, rfl⟩
        show ln = z.left - n
        rw [HLN.out, HLE.out]
      · rw [HY.out] at e; exact absurd rfl e
end Go.Cm

/- A whole machine in memory. Conditions: as each says. -/
namespace Go.Cm
open Go.RowKit Go.Proofs

theorem TabM.agr {w w' : World} {B g sy : Nat} {E : Nat → Ent} {fs : List Sub} {vf : Value} (h : TabM w B g sy E fs vf) (ha : ∀ k, B ≤ k → k < w.heap.size → w'.heap[k]? = w.heap[k]?) : TabM w' B g sy E fs vf := by
  have key : ∀ {T : TypeId} {v : Value} {xs : List Value}, Own w B T v xs → Own w' B T v xs := fun ho => ho.of_blk (fun k e => ha k (ho.lt k e).1 (ho.lt k e).2)
  exact ⟨key h.box, key h.outer, h.ne, fun k f hf => ⟨key (h.rows k f hf).1, (h.rows k f hf).2⟩, h.apart⟩
theorem TabAt.iv {w w' : World} {g : Nat} {L : List Nat} (h : TabAt w' w.heap.size g L) : TabIv w' (.pointer (some ⟨g, 0, none⟩)) w.heap.size w'.heap.size L := by
  obtain ⟨E, fs, vf, h1, h2⟩ := h
  exact ⟨g, rfl, Nat.le_refl _, fun w'' ha _ => ⟨E, fs, vf, h1.agr ha, h2⟩⟩
def stC (x : Nat × Nat) : List Value := [.int .i64 (x.1 : Nat), .int .i64 (x.2 : Nat)]
/-- all blocks that a machine writes -/
abbrev FSet (gm gr gw : Nat) (vb vs : Value) (k : Nat) : Prop := MSet gm gr gw vb k ∨ vs.ownBlock = some k
/-- a machine with its starts; apart -/
structure Full0 (w : World) (B gm gr gw : Nat) (vb : Value) (s : ByteArray) (p : Nat) (H : Byts) (st : List (Nat × Nat)) (m : MV) : Prop where
  mach : Mach w B gm gr gw vb s p H m
  sts : OwnK 2 w B 49 m.vs (st.map stC)
  sd : ∀ k, m.vs.ownBlock = some k → k ≠ gm ∧ k ≠ gr ∧ k ≠ gw ∧ vb.ownBlock ≠ some k
/-- .. where nothing is wrong; its tables avoid X -/
structure Full (w : World) (B gm gr gw : Nat) (vb : Value) (X : Nat → Prop) (s : ByteArray) (z : IS) (m : MV) : Prop where
  f0 : Full0 w B gm gr gw vb s z.p z.h z.st m
  rel : MRel z m
  tabs : z.md = 2 → ∃ ta tb tc td, TabIv w m.vl ta tb z.li ∧ TabIv w m.vd tc td z.di ∧ ∀ k, (ta ≤ k ∧ k < tb) ∨ (tc ≤ k ∧ k < td) → ¬ FSet gm gr gw vb m.vs k ∧ ¬ X k
theorem ffx_next {gm gr gw : Nat} {vb vb' vs vs' : Value} {w w1 w2 : World} (h : Fx (FSet gm gr gw vb vs) w w1) (hk : ∀ k, vb'.ownBlock = some k → vb.ownBlock = some k ∨ w.heap.size ≤ k) (hk2 : ∀ k, vs'.ownBlock = some k → vs.ownBlock = some k ∨ w.heap.size ≤ k) (k : Fx (FSet gm gr gw vb' vs') w1 w2) : Fx (FSet gm gr gw vb vs) w w2 :=
  ⟨k.os.trans h.os, k.tape.trans h.tape, k.output.trans h.output, Nat.le_trans h.size k.size, fun i hi h1 => by
    rw [k.block i (Nat.lt_of_lt_of_le hi h.size) (fun e => ?_), h.block i hi h1]
    rcases e with (e | e | e | e) | e
    · exact h1 (.inl (.inl e))
    · exact h1 (.inl (.inr (.inl e)))
    · exact h1 (.inl (.inr (.inr (.inl e))))
    · rcases hk i e with h2 | h2
      · exact h1 (.inl (.inr (.inr (.inr h2))))
      · omega
    · rcases hk2 i e with h2 | h2
      · exact h1 (.inr h2)
      · omega⟩
/-- the starts stay where the machine alone goes on -/
theorem OwnK.fx {k : Nat} {S : Nat → Prop} {w w' : World} {B : Nat} {E : TypeId} {v : Value} {l : List (List Value)} (h : OwnK k w B E v l) (hf : Fx S w w') (hS : ∀ q, v.ownBlock = some q → ¬ S q) : OwnK k w' B E v l := by
  obtain ⟨⟨h0, h1⟩, h2⟩ := h
  refine ⟨⟨h0, ?_⟩, h2⟩
  rcases h1 with h1 | ⟨g, cap, cur, e, hb, hg, hr⟩
  · exact .inl h1
  · refine .inr ⟨g, cap, cur, e, hb, ?_, hr⟩
    rw [hf.block g (Array.getElem?_eq_some_iff.1 hg).1 (hS g (by rw [e]; rfl))]; exact hg
theorem Full0.make {w w' : World} {B gm gr gw p p' : Nat} {vb vb' : Value} {s : ByteArray} {H H' : Byts} {st : List (Nat × Nat)} {m m' : MV} (h : Full0 w B gm gr gw vb s p H st m) (hM : Mach w' B gm gr gw vb' s p' H' m') (hf : Fx (MSet gm gr gw vb) w w') (hk : ∀ k, vb'.ownBlock = some k → vb.ownBlock = some k ∨ w.heap.size ≤ k) (hv : m'.vs = m.vs) : Full0 w' B gm gr gw vb' s p' H' st m' := by
  have h1 : OwnK 2 w' B 49 m.vs (st.map stC) := h.sts.fx hf (fun q e z => by
    obtain ⟨a, b, c, d⟩ := h.sd q e
    rcases z with z | z | z | z
    · exact a z
    · exact b z
    · exact c z
    · exact d z)
  refine ⟨hM, by rw [hv]; exact h1, fun k e => ?_⟩
  · rw [hv] at e
    obtain ⟨a, b, c, d⟩ := h.sd k e
    refine ⟨a, b, c, fun z => ?_⟩
    rcases hk k z with q | q
    · exact d q
    · have := (h.sts.lt k e).2; omega
theorem Full0.up {w w' : World} {B gm gr gw p : Nat} {vb : Value} {s : ByteArray} {H : Byts} {st : List (Nat × Nat)} {m : MV} (h : Full0 w B gm gr gw vb s p H st m) (hb : Below w.heap.size w w') : Full0 w' B gm gr gw vb s p H st m := ⟨h.mach.up hb, h.sts.up hb, h.sd⟩
theorem Full0.mset {w w' : World} {B gm gr gw p : Nat} {vb : Value} {s : ByteArray} {H : Byts} {st : List (Nat × Nat)} {m m' : MV} (h : Full0 w B gm gr gw vb s p H st m) (hm : MBox w' B gm gr gw m') (hg : w.grownBy w' (some gm)) (hv : m'.vs = m.vs) : Full0 w' B gm gr gw vb s p H st m' ∧ Fx (FSet gm gr gw vb m.vs) w w' := by
  obtain ⟨a, b⟩ := h.mach.mset hm hg
  exact ⟨h.make a b (fun k e => .inl e) hv, b.mono (fun k e => .inl e)⟩
theorem Mach.fx {S : Nat → Prop} {w w' : World} {B gm gr gw p : Nat} {vb : Value} {s : ByteArray} {H : Byts} {m : MV} (h : Mach w B gm gr gw vb s p H m) (hf : Fx S w w') (hS : ∀ k, MSet gm gr gw vb k → ¬ S k) : Mach w' B gm gr gw vb s p H m :=
  ⟨h.box.fx hf (hS gm (.inl rfl)), ⟨hf.own h.rd.own (fun k e => by cases e; exact hS _ (.inr (.inl rfl)))⟩, h.win.fx hf (hS gw (.inr (.inr (.inl rfl)))) (fun k e => hS k (.inr (.inr (.inr e)))), h.n1, h.n2, h.n3, h.b1, h.b2, h.Br⟩
theorem Full0.push {w w5 : World} {B gm gr gw p : Nat} {vb v' : Value} {s : ByteArray} {H : Byts} {st : List (Nat × Nat)} {m : MV} {x : Nat × Nat} (h : Full0 w B gm gr gw vb s p H st m) (ho : OwnK 2 w5 B 49 v' (st.map stC ++ [stC x])) (hg : w.grownBy w5 m.vs.ownBlock) (hk : ∀ k, v'.ownBlock = some k → m.vs.ownBlock = some k ∨ w.heap.size ≤ k) :
    MBox w5 B gm gr gw m ∧ Full0 (w5.setCell ⟨gm, 11, none⟩ v') B gm gr gw vb s p H (st ++ [x]) { m with vs := v' } ∧ Fx (FSet gm gr gw vb m.vs) w (w5.setCell ⟨gm, 11, none⟩ v') := by
  have hf : Fx (fun k => m.vs.ownBlock = some k) w w5 := fx_grown hg (fun k e => e)
  have hM : Mach w5 B gm gr gw vb s p H m := h.mach.fx hf (fun k e z => by
    obtain ⟨a, b, c, d⟩ := h.sd k z
    rcases e with e | e | e | e
    · exact a e
    · exact b e
    · exact c e
    · exact d e)
  obtain ⟨hS, hG⟩ := hM.box.set 11 v' (m' := { m with vs := v' }) rfl
  obtain ⟨hM6, hF6⟩ := hM.mset hS hG
  have hgm := h.mach.box.blk.2
  have hgr := h.mach.rd.lt
  have hgw : gw < w.heap.size ∧ ∀ k, vb.ownBlock = some k → k < w.heap.size := by
    obtain ⟨b, hb, -⟩ := h.mach.win
    exact ⟨hb.box.blk.2, fun k e => (hb.own.lt k e).2⟩
  have hsd : ∀ k, v'.ownBlock = some k → k ≠ gm ∧ k ≠ gr ∧ k ≠ gw ∧ vb.ownBlock ≠ some k := fun k e => by
    rcases hk k e with z | z
    · exact h.sd k z
    · exact ⟨by omega, by omega, by omega, fun q => by have := hgw.2 k q; omega⟩
  refine ⟨hM.box, ⟨hM6, ?_, hsd⟩, ?_⟩
  · rw [List.map_append]
    exact ho.keep hG (.inr (fun e => (hsd gm e).1 rfl))
  · exact (hf.mono (fun k e => .inr e)).trans (hF6.mono (fun k e => .inl e))
end Go.Cm

/- The walk of a block's head. Conditions: the machine is there. -/
namespace Go.Cm
open Go.RowKit Go.Proofs

/-- what keeps of the machine's words -/
def MKeep2 (m m' : MV) : Prop := m'.made = m.made ∧ m'.told = m.told ∧ m'.waits = m.waits ∧ m'.wrong = m.wrong
/-- what a step of the machine answers -/
def RetFull (B gm gr gw : Nat) (vb : Value) (X : Nat → Prop) (s : ByteArray) (z : IS) (m : MV) (y : Nat × IS) (w : World) (e : Ending) (w' : World) : Prop :=
  ∃ c p' H' vb' m', e = .returned (.tuple #[.string c, .int .i64 (y.1 : Nat)]) ∧ Fx (FSet gm gr gw vb m.vs) w w' ∧ (∀ k, vb'.ownBlock = some k → vb.ownBlock = some k ∨ w.heap.size ≤ k) ∧ (∀ k, m'.vs.ownBlock = some k → m.vs.ownBlock = some k ∨ w.heap.size ≤ k) ∧ MKeep2 m m' ∧
    (y.1 = 0 → Full w' B gm gr gw vb' X s y.2 m' ∧ y.2.h = z.h ++ bys c) ∧ (y.1 ≠ 0 → Full0 w' B gm gr gw vb' s p' H' z.st m')
theorem start_one (a b : Nat) : ∀ u ∈ ([[Value.int .i64 (a : Nat), .int .i64 (b : Nat)]] : List (List Value)).flatten, u.oneCell' = true := by
  intro u hu; simp at hu; rcases hu with rfl | rfl <;> rfl
theorem start_len (a b : Nat) : ∀ x ∈ ([[Value.int .i64 (a : Nat), .int .i64 (b : Nat)]] : List (List Value)), x.length = 2 := by
  intro x hx; simp at hx; subst hx; rfl
set_option maxRecDepth 100000 in
set_option maxHeartbeats 4000000 in
theorem headM {w : World} {B gm gr gw pre : Nat} {vb : Value} {X : Nat → Prop} {s : ByteArray} {z : IS} {m : MV} (h : Full0 w B gm gr gw vb s z.p z.h z.st m) (hs : s.size ≤ 4294967296) (hp : z.p ≤ 8 * s.size) (hmade : m.made = z.h.length - pre) (hst : z.st.length ≤ 100000000) (hX : ∀ k, X k → k < w.heap.size) :
    Calls Tryz.prog 24 #[.pointer (some ⟨gm, 0, none⟩)] w (RetFull B gm gr gw vb X s z m (headI (numS s) (8 * s.size) pre z) w) := by
  obtain ⟨Y, hY⟩ : ∃ Y, Y = headI (numS s) (8 * s.size) pre z := ⟨_, rfl⟩
  rw [← hY]
  have HY := Lib.hid hY
  clear hY
  unfold headI at HY
  have HF := Lib.hid h
  have HX := Lib.hid hX
  clear hX
  have HAT := Lib.hid (atS h.mach.rd)
  have HRP := Lib.hid (readHP h.mach.rd hs hp)
  unfold RetHead at HRP
  have HER := Lib.hid (fun e => head_err (N := numS s) (T := 8 * s.size) (p := z.p) ⟨s.size, rfl⟩ hp e)
  have HKI := Lib.hid (fun e => head_kinds (N := numS s) (T := 8 * s.size) (p := z.p) e)
  have HSZ := Lib.hid (fun e => head_size (N := numS s) (T := 8 * s.size) (p := z.p) ⟨s.size, rfl⟩ hp e)
  generalize headF (numS s) (8 * s.size) z.p = D at *
  have HMD := Lib.hid hmade
  have c0 : w.cell? ⟨gm, 0, none⟩ = some (.pointer (some ⟨gr, 0, none⟩)) := h.mach.box.cell (by decide)
  have hgm := h.mach.box.blk.2
  clear h hmade
  go_enter Tryz.func24, Tryz.ntmps24
  go_upto_region 3 with (first | ((with_reducible go_at_call 29); (with_reducible refine HAT.out.mono ?_); rintro e w' ⟨rfl, hw⟩; rw [hw]; clear hw) | ((with_reducible go_at_call 36); (with_reducible refine HRP.out.mono ?_); rintro e w1 ⟨v1, v2, rfl, ho1, ho2, hx, hg⟩; have HX1 := Lib.hid hx; have HG1 := Lib.hid hg; have HO1 := Lib.hid ho1; have HO2 := Lib.hid ho2; obtain ⟨o1, c1, g1, hv1, -⟩ := ho1.cases; obtain ⟨o2, c2, g2, hv2, -⟩ := ho2.cases; subst hv1 hv2; generalize (ints (nls D.1.lits)).length = n1 at *; generalize (ints (nls D.1.dists)).length = n2 at *; clear ho1 ho2 hx hg))
  have HHA := Lib.hid (ownH w1 D.1.fin (D.1.kind : Nat) (D.1.size : Nat) o1 o2 n1 n2 c1 c2 90)
  have HBA := Lib.hid (below_alloc w1 (.cells #[.bool D.1.fin, .int .i64 (D.1.kind : Nat), .int .i64 (D.1.size : Nat), .slice o1 n1 c1, .slice o2 n2 c2] 90))
  obtain ⟨hM1, hF1⟩ := HF.out.mach.read HX1.out HG1.out
  have HM2 := Lib.hid (hM1.up HBA.out)
  have HB2 := Lib.hid HBA.out.size
  have HF2 := Lib.hid (hF1.trans (fx_below (S := MSet gm gr gw vb) HBA.out))
  have HO1' := Lib.hid (HO1.out.up HBA.out)
  have HO2' := Lib.hid (HO2.out.up HBA.out)
  have hw1 : w.heap.size ≤ w1.heap.size := HG1.out.size
  generalize w1.alloc (.cells #[.bool D.1.fin, .int .i64 (D.1.kind : Nat), .int .i64 (D.1.size : Nat), .slice o1 n1 c1, .slice o2 n2 c2] 90) = w2 at *
  have HW1 := Lib.hid hw1
  generalize w1.heap.size = b1 at *
  clear hM1 hF1 HX1 HG1 HO1 HO2 HBA HAT HRP c0 hgm
  have HU2 := Lib.hid (HF.out.make HM2.out HF2.out (fun k e => .inl e) rfl)
  by_cases he : D.2.1 = 0
  · rw [if_neg (by rw [he]; exact fun h => h rfl)] at HY
    have hei : ((D.2.1 : Int) != 0) = false := by rw [he]; rfl
    have HKI2 := Lib.hid (HKI.out he)
    have HER2 := Lib.hid (HER.out he)
    have HSZ2 := Lib.hid (HSZ.out he)
    go_upto_region 5 with (fail)
    obtain ⟨row, hrw⟩ : ∃ row, row = m.vs.ownBlock := ⟨_, rfl⟩
    have HROW := Lib.hid hrw
    have hne : some gm ≠ row := fun e => (HU2.out.sd gm (by rw [← hrw, ← e])).1 rfl
    have c11 : w2.cell? ⟨gm, 11, none⟩ = some m.vs := HM2.out.box.cell (by decide)
    have c7 : w2.cell? ⟨gm, 7, none⟩ = some (.int .i64 (m.made : Nat)) := HM2.out.box.cell (by decide)
    have hgm := HM2.out.box.blk.2
    obtain ⟨mm, hmm⟩ : ∃ mm, mm = m.made := ⟨_, rfl⟩
    have HMM := Lib.hid hmm
    rw [← hmm] at c7
    have HTO := Lib.hid ((HU2.out.sts.up (below_drewN w2 1)).up (below_alloc _ (.cells #[.int .i64 (z.p : Nat), .int .i64 (mm : Nat)] 49)))
    rw [← World.drew_is_drewN] at HTO
    have hsl := slK_lit 2 w2.drew #[.int .i64 (z.p : Nat), .int .i64 (mm : Nat)] 49 [[.int .i64 (z.p : Nat), .int .i64 (mm : Nat)]] rfl (start_len _ _) (by simp)
    have HSL : Hid (SlK 2 (w2.drew.alloc (.cells #[.int .i64 (z.p : Nat), .int .i64 (mm : Nat)] 49)) (.slice (some ⟨w2.heap.size, 0, none⟩) 1 1) [[.int .i64 (z.p : Nat), .int .i64 (mm : Nat)]]) := Lib.hid (by simpa using hsl)
    have HLN : Hid ((z.st.map stC).length + [[Value.int .i64 (z.p : Nat), .int .i64 (mm : Nat)]].length ≤ 1000000000) := Lib.hid (by rw [List.length_map, List.length_singleton]; omega)
    have HT4 : Hid (B ≤ (w2.drew.alloc (.cells #[.int .i64 (z.p : Nat), .int .i64 (mm : Nat)] 49)).heap.size) := Lib.hid (Nat.le_trans HM2.out.B (below_alloc w2.drew _).size)
    clear hrw hsl hmm
    refine wp_region_tail (fun w' => ∃ x, w' = chg w2 row x) [0,1,2,3,4,5,6,7,8,9,10] [11,12,13,14] [15] (by kernel_rfl) (by kernel_rfl) (ex_chg (grown_drew _ _)) ?_
    simp only [pick, List.map_cons, List.map_nil, List.getD_cons_zero, List.getD_cons_succ]
    repeat (go_big_quiet_step (fail))
    refine wpQuiet_nil ?_
    (unfold wpAct; go_wp2; refine ⟨ex_chg (grown_below (by repeat (first | exact Below.refl _ _ | assumption | refine b_drewN ?_ _ | refine Below.drew ?_ | refine b_ext' ?_ _ | refine b_alloc' ?_ _)) _), ?_⟩)
    unfold wpAct
    go_wp2_with (at_builtin; go_loud (refine wpList_appK 2 rfl (.tmp 27) (.tmp 34) 24 rfl B 49 (.agg #[.int .i64 0, .int .i64 0]) 16 Tryz.underlying24 (by kernel_rfl) rfl (by decide) (by decide) m.vs _ rfl HTO.out _ _ rfl HSL.out (start_len _ _) (start_one _ _) HLN.out HT4.out ?_); intro v' w5 hown1 hg1 hk1; rw [← HROW.out] at hg1 hk1; have HO5 := Lib.hid hown1; have HG5 := Lib.hid hg1; have HK5 := Lib.hid hk1; clear hown1 hg1 hk1)
    refine ⟨ex_chg (grown_trans (grown_below (by repeat (first | exact Below.refl _ _ | assumption | refine b_drewN ?_ _ | refine Below.drew ?_ | refine b_ext' ?_ _ | refine b_alloc' ?_ _)) _) HG5.out), ?_⟩
    (unfold wpAct; go_wp2; refine ⟨ex_chg (grown_trans (grown_below (by repeat (first | exact Below.refl _ _ | assumption | refine b_drewN ?_ _ | refine Below.drew ?_ | refine b_ext' ?_ _ | refine b_alloc' ?_ _)) _) HG5.out), ?_⟩)
    (unfold wpAct; go_wp2; refine ⟨ex_chg (grown_trans (grown_below (by repeat (first | exact Below.refl _ _ | assumption | refine b_drewN ?_ _ | refine Below.drew ?_ | refine b_ext' ?_ _ | refine b_alloc' ?_ _)) _) HG5.out), ?_⟩)
    unfold wpAct
    have HU3 := Lib.hid ((HU2.out.up (below_drewN w2 1)).up (below_alloc _ (.cells #[.int .i64 (z.p : Nat), .int .i64 (mm : Nat)] 49)))
    rw [← World.drew_is_drewN] at HU3
    obtain ⟨o5, k5, q5, off5, hv5, -, -⟩ := HO5.out.sl
    obtain ⟨l5, hl5⟩ : ∃ l5, l5 = (z.st.map stC ++ [[Value.int .i64 (z.p : Nat), .int .i64 (mm : Nat)]]).length := ⟨_, rfl⟩
    rw [← hl5] at hv5
    subst hv5
    obtain ⟨hB5, hU6, hF6⟩ := HU3.out.push (x := (z.p, mm)) HO5.out (by have h := HG5.out; rw [HROW.out] at h; exact h) (by have h := HK5.out; rw [HROW.out] at h; exact h)
    have c115 : w5.cell? ⟨gm, 11, none⟩ = some m.vs := hB5.cell (by decide)
    have f115 := hB5.free 11
    have g5 := hB5.blk.2
    have HU6 := Lib.hid hU6
    have hb3 : Below w2.heap.size w2 (w2.drew.alloc (.cells #[.int .i64 (z.p : Nat), .int .i64 (mm : Nat)] 49)) := (below_drewN w2 1).trans ((below_alloc _ _).mono (Nat.le_refl _))
    have HF6 := Lib.hid ((fx_below (S := FSet gm gr gw vb m.vs) hb3).trans hF6)
    have HK6 : Hid (∀ k, (Value.slice o5 l5 k5).ownBlock = some k → m.vs.ownBlock = some k ∨ w2.heap.size ≤ k) := Lib.hid (fun k e => by
      have h := HK5.out k e
      rw [HROW.out] at h
      exact h.imp id (fun q => Nat.le_trans hb3.size q))
    clear hB5 hU6 hF6 HU3 hl5 HTO HSL HLN HT4 HG5 HK5 HO5
    unfold wpAct
    go_wp2
    refine ⟨trivial, ?_⟩
    unfold wpAct
    generalize w5.setCell ⟨gm, 11, none⟩ (.slice o5 l5 k5) = w6 at *
    clear c115 f115 g5 c11 c7 hgm hb3
    have hlt : gm < w.heap.size ∧ gr < w.heap.size ∧ gw < w.heap.size ∧ (∀ k, vb.ownBlock = some k → k < w.heap.size) ∧ (∀ k, m.vs.ownBlock = some k → k < w.heap.size) := by
      obtain ⟨b, hb, -⟩ := HF.out.mach.win
      exact ⟨HF.out.mach.box.blk.2, HF.out.mach.rd.lt, hb.box.blk.2, fun k e => (hb.own.lt k e).2, fun k e => (HF.out.sts.lt k e).2⟩
    have HLT := Lib.hid hlt
    have hge : ∀ k, w.heap.size ≤ k → ¬ FSet gm gr gw vb m.vs k := fun k hk e => by
      obtain ⟨a, b, c, d, f⟩ := hlt
      rcases e with (e | e | e | e) | e
      · omega
      · omega
      · omega
      · have := d k e; omega
      · have := f k e; omega
    have HGE := Lib.hid hge
    have HH6 := Lib.hid (HF6.out.own HHA.out (fun k e => by cases e; exact hge _ HW1.out))
    have HI1 := Lib.hid (HF6.out.own HO1'.out (fun k e => hge k (HO1'.out.lt k e).1))
    have HI2 := Lib.hid (HF6.out.own HO2'.out (fun k e => hge k (HO2'.out.lt k e).1))
    obtain ⟨hS7, hG7⟩ := HU6.out.mach.box.set 3 (.bool D.1.fin) (m' := { m with vs := .slice o5 l5 k5, fin := D.1.fin }) rfl
    obtain ⟨hU7, hF7⟩ := HU6.out.mset hS7 hG7 rfl
    have hbne : gm ≠ b1 := fun e => by have := hlt.1; have := HW1.out; omega
    have HH7 := Lib.hid (HH6.out.keep hG7 (.inr (fun e => hbne (by injection e with e; exact e.symm))))
    have HI17 := Lib.hid (HI1.out.keep hG7 (.inr (fun e => by have h1 := (HI1.out.lt gm e).1; have := hlt.1; omega)))
    have HI27 := Lib.hid (HI2.out.keep hG7 (.inr (fun e => by have h1 := (HI2.out.lt gm e).1; have := hlt.1; omega)))
    have HU7 := Lib.hid hU7
    have HF7 := Lib.hid (ffx_next HF6.out (fun k e => .inl e) (fun k e => HK6.out k e) hF7)
    have c3 : w6.cell? ⟨gm, 3, none⟩ = some (.bool m.fin) := HU6.out.mach.box.cell (by decide)
    have f3 := HU6.out.mach.box.free 3
    have g6 := HU6.out.mach.box.blk.2
    have p0 : w6.cell? ⟨b1, 0, none⟩ = some (.bool D.1.fin) := HH6.out.cell (by simp)
    have p1 : (w6.setCell ⟨gm, 3, none⟩ (.bool D.1.fin)).cell? ⟨b1, 1, none⟩ = some (.int .i64 (D.1.kind : Nat)) := HH7.out.cell (by simp)
    have hb6 := HH6.out.blk.2
    clear hS7 hG7 hU7 hF7 hge hlt HI1 HI2 HO1' HO2' HHA HH6 HU2 HM2
    go_upto_region 7 with (fail)
    generalize w6.setCell ⟨gm, 3, none⟩ (.bool D.1.fin) = w7 at *
    have HKK7 : Hid (∀ k, (Value.slice o5 l5 k5).ownBlock = some k → m.vs.ownBlock = some k ∨ w2.heap.size ≤ k) := HK6
    have HF7' := Lib.hid ((HF2.out.mono (fun k hk => (Or.inl hk : FSet gm gr gw vb m.vs k))).trans HF7.out)
    have HKW : Hid (∀ k, (Value.slice o5 l5 k5).ownBlock = some k → m.vs.ownBlock = some k ∨ w.heap.size ≤ k) := Lib.hid (fun k e => (HK6.out k e).imp id (fun q => Nat.le_trans (Nat.le_trans HW1.out HB2.out) q))
    clear p0 c3 f3 g6 hb6 HF6 HU6 HF7 HK6 HKK7
    have hb7 := HH7.out.blk.2
    have g7 := HU7.out.mach.box.blk.2
    have HME : Hid (mm = z.h.length - pre) := Lib.hid (HMM.out.trans HMD.out)
    by_cases hk0 : D.1.kind = 0
    · rw [if_pos hk0] at HY
      rw [hk0] at p1
      have p2 : w7.cell? ⟨b1, 2, none⟩ = some (.int .i64 (D.1.size : Nat)) := HH7.out.cell (by simp)
      have c4 : w7.cell? ⟨gm, 4, none⟩ = some (.int .i64 (m.left : Nat)) := HU7.out.mach.box.cell (by decide)
      have f4 := HU7.out.mach.box.free 4
      obtain ⟨hS8, hG8⟩ := HU7.out.mach.box.set 4 (.int .i64 (D.1.size : Nat)) (m' := { m with vs := .slice o5 l5 k5, fin := D.1.fin, left := D.1.size }) rfl
      obtain ⟨hU8, hF8⟩ := HU7.out.mset hS8 hG8 rfl
      have HU8 := Lib.hid hU8
      have HF8 := Lib.hid (ffx_next (vs' := .slice o5 l5 k5) HF7'.out (fun k e => .inl e) (fun k e => HKW.out k e) hF8)
      have HTN := Lib.hid (turnM hU8.mach.box 1 (by decide))
      clear hS8 hG8 hU8 hF8
      go_wp2_with ((with_reducible go_at_call 37); (refine HTN.out.mono ?_); rintro e w9 ⟨rfl, h9, g9⟩; have H9 := Lib.hid h9; have G9 := Lib.hid g9; clear h9 g9)
      go_ret2
      obtain ⟨hU9, hF9⟩ := HU8.out.mset H9.out G9.out rfl
      refine ⟨⟨#[]⟩, 0, [], vb, MV.turn { m with vs := .slice o5 l5 k5, fin := D.1.fin, left := D.1.size } 1, by rw [HY.out]; rfl, ffx_next (vs' := .slice o5 l5 k5) HF8.out (fun k e => .inl e) (fun k e => HKW.out k e) hF9, fun k e => .inl e, fun k e => HKW.out k e, ⟨rfl, rfl, rfl, rfl⟩, fun _ => ?_, fun e => ?_⟩
      · rw [HY.out]
        refine ⟨⟨?_, ⟨rfl, rfl, fun _ => rfl, fun _ => rfl⟩, fun e => by cases e⟩, by simp [bys]⟩
        show Full0 w9 B gm gr gw vb s D.2.2 z.h (z.st ++ [(z.p, z.h.length - pre)]) _
        rw [← HME.out]
        exact hU9
      · rw [HY.out] at e; exact absurd rfl e
    · rw [if_neg hk0] at HY
      obtain ⟨her1, her2⟩ := HER2.out hk0
      have hki : ((D.1.kind : Int) == 0) = false := by simpa using hk0
      have p3 : w7.cell? ⟨b1, 3, none⟩ = some (.slice o1 n1 c1) := HH7.out.cell (by simp)
      have HN1 := Lib.hid (newP (.slice o1 n1 c1) (nls D.1.lits) w7 HI17.out.sl)
      unfold RetTab at HN1
      rw [nls_toNat] at HN1
      have HE1 := Lib.hid her1
      have HE2 := Lib.hid her2
      clear her1 her2
      go_upto_region 11 with (fail)
      go_wp2_with (fail)
      (with_reducible refine HN1.out.mono ?_)
      rintro e w8 ⟨hb8, ⟨-, t1, rfl, ht1⟩ | ⟨h1, -⟩⟩
      · have HU8 := Lib.hid (HU7.out.up hb8)
        have HH8 := Lib.hid (HH7.out.up hb8)
        have HI28 := Lib.hid (HI27.out.up hb8)
        have HT8 := Lib.hid ht1.iv
        have HS8 := Lib.hid hb8.size
        have HF8 := Lib.hid (HF7'.out.trans (fx_below (S := FSet gm gr gw vb m.vs) hb8))
        have c5 : w8.cell? ⟨gm, 5, none⟩ = some m.vl := HU8.out.mach.box.cell (by decide)
        have f5 := HU8.out.mach.box.free 5
        have g8 := HU8.out.mach.box.blk.2
        have p4 : w8.cell? ⟨b1, 4, none⟩ = some (.slice o2 n2 c2) := HH8.out.cell (by simp)
        have hb1 := HH8.out.blk.2
        obtain ⟨hS9, hG9⟩ := HU8.out.mach.box.set 5 (.pointer (some ⟨t1, 0, none⟩)) (m' := { m with vs := .slice o5 l5 k5, fin := D.1.fin, vl := .pointer (some ⟨t1, 0, none⟩) }) rfl
        obtain ⟨hU9, hF9⟩ := HU8.out.mset hS9 hG9 rfl
        have HU9 := Lib.hid hU9
        have HG9 := Lib.hid hG9
        have HF9 := Lib.hid (ffx_next (vs' := .slice o5 l5 k5) HF8.out (fun k e => .inl e) (fun k e => HKW.out k e) hF9)
        have HH9 := Lib.hid (HH8.out.keep hG9 (.inr (fun e => hbne (by injection e with e; exact e.symm))))
        have hlt7 : gm < w7.heap.size := g7
        have HI29 := Lib.hid (HI28.out.keep hG9 (.inr (fun e => by have h1 := (HI28.out.lt gm e).1; have := HLT.out.1; omega)))
        have p49 : (w8.setCell ⟨gm, 5, none⟩ (.pointer (some ⟨t1, 0, none⟩))).cell? ⟨b1, 4, none⟩ = some (.slice o2 n2 c2) := HH9.out.cell (by simp)
        have hb9 := HH9.out.blk.2
        clear hb8 ht1 hS9 hG9 hU9 hF9
        go_upto_region 13 with (fail)
        generalize w8.setCell ⟨gm, 5, none⟩ (.pointer (some ⟨t1, 0, none⟩)) = w9 at *
        clear c5 f5 g8 p4 hb1 p1 p3
        have HN2 := Lib.hid (newP (.slice o2 n2 c2) (nls D.1.dists) w9 HI29.out.sl)
        unfold RetTab at HN2
        rw [nls_toNat] at HN2
        go_wp2_with (fail)
        (with_reducible refine HN2.out.mono ?_)
        rintro e w10 ⟨hb10, ⟨-, t2, rfl, ht2⟩ | ⟨h2, -⟩⟩
        · have HU10 := Lib.hid (HU9.out.up hb10)
          have HF10 := Lib.hid (HF9.out.trans (fx_below (S := FSet gm gr gw vb m.vs) hb10))
          have hnot : ∀ k, w7.heap.size ≤ k → ¬ FSet gm gr gw vb (.slice o5 l5 k5) k := fun k hk e => by
            obtain ⟨a, b, c, d, -⟩ := HLT.out
            have h7 : w.heap.size ≤ w7.heap.size := HF7'.out.size
            rcases e with (e | e | e | e) | e
            · omega
            · omega
            · omega
            · have := d k e; omega
            · have := (HU7.out.sts.lt k e).2; omega
          have HNOT := Lib.hid hnot
          have hs79 : w7.heap.size ≤ w9.heap.size := Nat.le_trans HS8.out HG9.out.size
          have HS79 := Lib.hid hs79
          have hf9 : Fx (fun k => k = gm) w8 w9 := fx_grown HG9.out (fun k e => by injection e with e; exact e.symm)
          have HTA := Lib.hid ((HT8.out.fx hf9 (fun k hk _ e => by omega)).fx (fx_below (S := fun _ => False) hb10) (fun _ _ _ h => h))
          have HTB := Lib.hid ht2.iv
          have c6 : w10.cell? ⟨gm, 6, none⟩ = some m.vd := HU10.out.mach.box.cell (by decide)
          have f6 := HU10.out.mach.box.free 6
          have g10 := HU10.out.mach.box.blk.2
          obtain ⟨hS11, hG11⟩ := HU10.out.mach.box.set 6 (.pointer (some ⟨t2, 0, none⟩)) (m' := { m with vs := .slice o5 l5 k5, fin := D.1.fin, vl := .pointer (some ⟨t1, 0, none⟩), vd := .pointer (some ⟨t2, 0, none⟩) }) rfl
          obtain ⟨hU11, hF11⟩ := HU10.out.mset hS11 hG11 rfl
          have HU11 := Lib.hid hU11
          have HG11 := Lib.hid hG11
          have HF11 := Lib.hid (ffx_next (vs' := .slice o5 l5 k5) HF10.out (fun k e => .inl e) (fun k e => HKW.out k e) hF11)
          have HTN := Lib.hid (turnM hU11.mach.box 2 (by decide))
          clear hb10 ht2 hS11 hG11 hU11 hF11 hf9 hnot hs79
          go_wp2_with ((with_reducible go_at_call 37); (refine HTN.out.mono ?_); rintro e w12 ⟨rfl, h9, g9⟩; have H12 := Lib.hid h9; have G12 := Lib.hid g9; clear h9 g9)
          go_ret2
          obtain ⟨hU12, hF12⟩ := HU11.out.mset H12.out G12.out rfl
          refine ⟨⟨#[]⟩, 0, [], vb, MV.turn { m with vs := .slice o5 l5 k5, fin := D.1.fin, vl := .pointer (some ⟨t1, 0, none⟩), vd := .pointer (some ⟨t2, 0, none⟩) } 2, by rw [HY.out]; rfl, ffx_next (vs' := .slice o5 l5 k5) HF11.out (fun k e => .inl e) (fun k e => HKW.out k e) hF12, fun k e => .inl e, fun k e => HKW.out k e, ⟨rfl, rfl, rfl, rfl⟩, fun _ => ?_, fun e => ?_⟩
          · rw [HY.out]
            have hfa : Fx (fun k => k = gm) w10 w12 := fx_grown (grown_trans HG11.out G12.out) (fun k e => by injection e with e; exact e.symm)
            refine ⟨⟨?_, ⟨rfl, rfl, fun e => (by cases e), fun _ => rfl⟩, fun _ => ?_⟩, by simp [bys]⟩
            · show Full0 w12 B gm gr gw vb s D.2.2 z.h (z.st ++ [(z.p, z.h.length - pre)]) _
              rw [← HME.out]
              exact hU12
            · refine ⟨_, _, _, _, HTA.out.fx hfa (fun k hk _ e => by omega), HTB.out.fx hfa (fun k hk _ e => by have := HS79.out; omega), fun k hk => ⟨HNOT.out k ?_, fun e => ?_⟩⟩
              · have := HS79.out
                omega
              · have := HX.out k e
                have h7 : w.heap.size ≤ w7.heap.size := HF7'.out.size
                have := HS79.out
                omega
          · rw [HY.out] at e; exact absurd rfl e
        · exact absurd HE2.out h2
      · exact absurd HE1.out h1
  · rw [if_pos he] at HY
    have hei : ((D.2.1 : Int) != 0) = true := by simpa using he
    go_wp2
    go_ret2
    refine ⟨⟨#[]⟩, D.2.2, z.h, vb, m, by rw [HY.out]; rfl, HF2.out.mono (fun k hk => .inl hk), fun k e => .inl e, fun k e => .inl e, ⟨rfl, rfl, rfl, rfl⟩, fun e => ?_, fun _ => HU2.out⟩
    rw [HY.out] at e
    exact absurd e he
end Go.Cm

/- A step of the machine, in any mode. Conditions: the machine is there. -/
namespace Go.Cm
open Go.RowKit Go.Proofs

theorem cpyI_keep {N T s p : Nat} {z : IS} : (cpyI N T z s p).2.st = z.st ∧ (cpyI N T z s p).2.li = z.li ∧ (cpyI N T z s p).2.di = z.di := by
  unfold cpyI cpyI2 cpyI3
  split
  · exact ⟨rfl, rfl, rfl⟩
  · split
    · exact ⟨rfl, rfl, rfl⟩
    · split
      · exact ⟨rfl, rfl, rfl⟩
      · split <;> exact ⟨rfl, rfl, rfl⟩
theorem codI_keep {N T : Nat} {z : IS} : (codI N T z).2.st = z.st ∧ (codI N T z).2.li = z.li ∧ (codI N T z).2.di = z.di := by
  unfold codI codI2
  split
  · exact ⟨rfl, rfl, rfl⟩
  · split
    · exact ⟨rfl, rfl, rfl⟩
    · split
      · exact cpyI_keep
      · exact ⟨rfl, rfl, rfl⟩
theorem storI_keep {T : Nat} {bs : Byts} {z : IS} (h : z.md = 1) : (storI T bs z).2.st = z.st ∧ (storI T bs z).2.md ≠ 2 := by
  unfold storI
  split
  · exact ⟨rfl, (close_ne z).2⟩
  · split
    · exact ⟨rfl, by rw [h]; decide⟩
    · exact ⟨rfl, by show z.md ≠ 2; rw [h]; decide⟩
theorem RetMake.full {w : World} {B gm gr gw : Nat} {vb : Value} {X : Nat → Prop} {s : ByteArray} {z : IS} {m : MV} {y : Nat × IS} {e : Ending} {w' : World} (hF : Full w B gm gr gw vb X s z m) (h : RetMake B gm gr gw vb s z.h m (fun m' => MRel y.2 m' ∧ MKeep m m') y w e w') (h1 : y.2.st = z.st)
    (h2 : y.1 = 0 → y.2.md = 2 → z.md = 2 ∧ y.2.li = z.li ∧ y.2.di = z.di) : RetFull B gm gr gw vb X s z m y w e w' := by
  obtain ⟨c, p', H', vb', m', he, hM, hf, hk, hy, hn⟩ := h
  have hf2 : Fx (FSet gm gr gw vb m.vs) w w' := hf.mono (fun k e => .inl e)
  by_cases h0 : y.1 = 0
  · obtain ⟨rfl, rfl, hc, hrel, hkp⟩ := hy h0
    have hvs : m'.vs = m.vs := hkp.2.2.2.2.2.2
    refine ⟨c, y.2.p, y.2.h, vb', m', he, hf2, hk, fun k e => .inl (by rw [← hvs]; exact e), ⟨hkp.2.2.1, hkp.2.2.2.1, hkp.2.2.2.2.1, hkp.2.2.2.2.2.1⟩, fun _ => ⟨⟨?_, hrel, fun h3 => ?_⟩, hc⟩, fun h3 => absurd h0 h3⟩
    · rw [h1]; exact hF.f0.make hM hf hk hvs
    · obtain ⟨hz, e1, e2⟩ := h2 h0 h3
      obtain ⟨ta, tb, tc, td, k1, k2, k3⟩ := hF.tabs hz
      have l1 : tb ≤ w.heap.size := by obtain ⟨_, _, q, _⟩ := k1; exact q
      have l2 : td ≤ w.heap.size := by obtain ⟨_, _, q, _⟩ := k2; exact q
      rw [e1, e2, hkp.1, hkp.2.1, hvs]
      refine ⟨ta, tb, tc, td, k1.fx hf2 (fun k a b => (k3 k (.inl ⟨a, b⟩)).1), k2.fx hf2 (fun k a b => (k3 k (.inr ⟨a, b⟩)).1), fun k hk' => ⟨fun e => ?_, (k3 k hk').2⟩⟩
      have hlt : k < w.heap.size := by omega
      refine (k3 k hk').1 ?_
      rcases e with (e | e | e | e) | e
      · exact .inl (.inl e)
      · exact .inl (.inr (.inl e))
      · exact .inl (.inr (.inr (.inl e)))
      · rcases hk k e with q | q
        · exact .inl (.inr (.inr (.inr q)))
        · omega
      · exact .inr e
  · have hm := hn h0
    subst hm
    exact ⟨c, p', H', vb', m', he, hf2, hk, fun k e => .inl e, ⟨rfl, rfl, rfl, rfl⟩, fun h3 => absurd h3 h0, fun _ => hF.f0.make hM hf hk rfl⟩
theorem nls_inj {a b : List Nat} (h : nls a = nls b) : a = b := by rw [← nls_toNat a, h, nls_toNat]
theorem lens_ok {L : List Nat} (h : errI (nls L) = 0) : L.length ≤ 320 ∧ ∀ x ∈ L, x ≤ 15 := by
  obtain ⟨M, h1, h2, h3, -⟩ := errI_list h
  rw [nls_inj h1]; exact ⟨h2, h3⟩
/-- a step of any mode -/
theorem makesM {w : World} {B gm gr gw pre : Nat} {vb : Value} {X : Nat → Prop} {s : ByteArray} {z : IS} {m : MV} (hF : Full w B gm gr gw vb X s z m) (hi : IOk (8 * s.size) pre z) (hmd : z.md ≠ 3) (hs : s.size ≤ 4294967296) (hmade : m.made = z.h.length - pre) (hst : z.st.length ≤ 100000000) (hX : ∀ k, X k → k < w.heap.size) :
    ∃ f, m.vf = .func (.func f) #[] #[] ∧ (∀ args w, (callFunc f args).run Tryz.prog w = .ok (.enter f args) w) ∧ Calls Tryz.prog f #[.pointer (some ⟨gm, 0, none⟩)] w (RetFull B gm gr gw vb X s z m (stI (numS s) (8 * s.size) pre (bys s) z) w) := by
  have h3 := hi.md
  have hv := hF.rel.2.2.2 (by omega)
  unfold stI
  rcases (show z.md = 0 ∨ z.md = 1 ∨ z.md = 2 by omega) with h0 | h0 | h0
  · rw [h0] at hv
    refine ⟨_, hv, enters_of Tryz.func24 (by kernel_rfl) rfl, ?_⟩
    rw [if_pos h0]
    exact headM hF.f0 hs hi.p hmade hst hX
  · rw [h0] at hv
    refine ⟨_, hv, enters_of Tryz.func61 (by kernel_rfl) rfl, ?_⟩
    rw [if_neg (by rw [h0]; decide), if_pos h0]
    obtain ⟨k1, k2⟩ := storI_keep (T := 8 * s.size) (bs := bys s) h0
    exact (storedM hF.f0.mach hs hi.p (hi.al h0) hi.left hF.rel h0).mono (fun e w' h => h.full hF k1 (fun _ q => absurd q k2))
  · rw [h0] at hv
    refine ⟨_, hv, enters_of Tryz.func62 (by kernel_rfl) rfl, ?_⟩
    rw [if_neg (by rw [h0]; decide), if_neg (by rw [h0]; decide), if_pos h0]
    obtain ⟨k1, k2, k3⟩ := codI_keep (N := numS s) (T := 8 * s.size) (z := z)
    obtain ⟨ta, tb, tc, td, t1, t2, t3⟩ := hF.tabs h0
    obtain ⟨a1, a2⟩ := lens_ok (hi.li.resolve_right (fun e => e h0))
    obtain ⟨b1, b2⟩ := lens_ok (hi.di.resolve_right (fun e => e h0))
    exact (codedM hF.f0.mach t1 t2 (fun k x y e => (t3 k (.inr ⟨x, y⟩)).1 (.inl e)) a2 b2 hs hi.p (by omega) (by omega) hF.rel).mono (fun e w' h => h.full hF k1 (fun _ _ => ⟨h0, k2, k3⟩))
end Go.Cm

/- Bytes of one's own that were made of a text, and a text behind them. Conditions: as each says. -/
namespace Go.Cm
open Go.RowKit Go.Proofs

theorem run_storeCells_nf (P : Program) (g o : Nat) (t : TypeId) (fz : Nat × Nat) : ∀ (vs : List Value) (i : Nat) (cur : Array Value) (w : World), w.heap[g]? = some (.cells cur t fz) → (cur.size ≤ fz.1 ∨ fz.2 = 0) → o + i + vs.length ≤ cur.size → (∀ v ∈ vs, v.oneCell' = true) →
    (storeCells ⟨g, o, none⟩ vs i).run P w = .ok () (w.setRow g (cur.toList.take (o + i) ++ vs ++ cur.toList.drop (o + i + vs.length)).toArray)
  | [], i, cur, w, hg, _, _, _ => by
    simp only [storeCells, List.append_nil, List.length_nil, Nat.add_zero, List.take_append_drop, Array.toArray_toList]
    rw [setRow_self w g cur t fz hg]
    rfl
  | v :: rest, i, cur, w, hg, hf, hl, h1 => by
    have hi : o + i < cur.size := by simp at hl; omega
    have hadd : (⟨g, o, none⟩ : Addr).add i = ⟨g, o + i, none⟩ := by unfold Addr.add; split <;> simp_all
    have hcell : w.cell? ⟨g, o + i, none⟩ = some cur[o + i] := by simp [World.cell?, hg, hi]
    have hfro : w.frozen? ⟨g, o + i, none⟩ = false := by
      obtain ⟨a, b⟩ := fz
      simp only [World.frozen?, hg, Bool.and_eq_false_iff, decide_eq_false_iff_not]
      simp only at hf
      omega
    have hst : (store ((⟨g, o, none⟩ : Addr).add i) v).run P w = .ok () (w.setRow g (cur.setIfInBounds (o + i) v)) := by
      rw [hadd, run_store P w _ v _ (h1 v (by simp)), hcell]
      simp [hfro, setCell_eq_setRow w g (o + i) cur t fz v hg]
    have ih := run_storeCells_nf P g o t fz rest (i + 1) (cur.setIfInBounds (o + i) v) (w.setRow g (cur.setIfInBounds (o + i) v)) (setRow_heap w g cur _ t _ hg) (by simpa using hf) (by simp at hl ⊢; omega) (fun x hx => h1 x (by simp [hx]))
    simp only [storeCells, Sem.run_bind, hst, Result.andThen_ok, ih, setRow_setRow]
    congr 3
    have e := list_seg_step cur.toList (o + i) v rest (by simp at hl ⊢; omega)
    simpa [Array.toList_setIfInBounds, Nat.add_assoc] using e
/-- bytes of one's own; nothing of them is shared with a text -/
def OwnF (w : World) (B : Nat) (E : TypeId) (v : Value) (xs : List Value) : Prop :=
  xs.length ≤ 140737488351232 ∧ ((v = .slice none 0 0 ∧ xs = []) ∨
   ∃ g cap cur fz, v = .slice (some ⟨g, 0, none⟩) xs.length cap ∧ B ≤ g ∧ w.heap[g]? = some (.cells cur E fz) ∧ (cur.size ≤ fz.1 ∨ fz.2 = 0) ∧ xs.length ≤ cap ∧ cap ≤ maxLen ∧ cur.size = cap ∧ cur.toList.take xs.length = xs)
theorem OwnF.lt {w : World} {B E : Nat} {v : Value} {xs : List Value} (h : OwnF w B E v xs) : ∀ k, v.ownBlock = some k → B ≤ k ∧ k < w.heap.size := by
  intro k hk
  obtain ⟨-, ⟨rfl, -⟩ | ⟨g, cap, cur, fz, rfl, hb, hg, -⟩⟩ := h
  · cases hk
  · injection hk with hk; subst hk
    exact ⟨hb, (Array.getElem?_eq_some_iff.1 hg).1⟩
theorem OwnF.fx {S : Nat → Prop} {w w' : World} {B E : Nat} {v : Value} {xs : List Value} (h : OwnF w B E v xs) (hf : Fx S w w') (hS : ∀ k, v.ownBlock = some k → ¬ S k) : OwnF w' B E v xs := by
  obtain ⟨h0, h1⟩ := h
  refine ⟨h0, ?_⟩
  rcases h1 with h1 | ⟨g, cap, cur, fz, e, hb, hg, hr⟩
  · exact .inl h1
  · refine .inr ⟨g, cap, cur, fz, e, hb, ?_, hr⟩
    rw [hf.block g (Array.getElem?_eq_some_iff.1 hg).1 (hS g (by rw [e]; rfl))]; exact hg
theorem OwnF.sl {w : World} {B : Nat} {E : TypeId} {v : Value} {xs : List Value} (h : OwnF w B E v xs) : Sl w v xs := by
  obtain ⟨hl, h⟩ := h
  rcases h with ⟨rfl, rfl⟩ | ⟨g, cap, cur, fz, rfl, hb, hg, hf, hnc, hcm, hcs, htake⟩
  · exact Sl.nil w
  · refine ⟨some ⟨g, 0, none⟩, cap, g, 0, rfl, ⟨fun _ => rfl, hnc, hcm, by omega, fun _ => (Array.getElem?_eq_some_iff.1 hg).1⟩, fun i hi => ?_⟩
    rw [cell_of_row _ _ _ _ _ _ hg, Nat.zero_add]
    have : cur[i]? = (cur.toList.take xs.length)[i]? := by rw [List.getElem?_take, if_pos hi]; simp
    rw [this, htake, List.getElem?_eq_getElem hi]
    simp [List.getD, hi]
theorem wpList_bytes_own {P : Program} {ops : Array Oper} {rest : List Oper} {o : Oper} {a : Act} {w : World} {Q : Exit → Act → World → Prop} (hgd : o.guard = none) (src dst e : TypeId) (x : Operand) (ho : o.op = .convert src dst x) (hs : P.underlying src = some .string) (hd : P.underlying dst = some (.slice e)) (he : P.underlying e = some (.int .u8)) (s : ByteArray) (hx : a.eval x = .string s) (hsz : s.size ≤ 100000000)
    (h : ∀ v' w', OwnF w' w.heap.size e v' (bytesV (bys s)) → Below w.heap.size w w' → wpList P ops Q rest (a.put o.dst v') w') : wpList P ops Q (o :: rest) a w := by
  have hr := run_bytes_of_string (P := P) w src dst e s hs hd he
  refine wpList_plain hgd fun K hK => ?_
  unfold Oper.wp execOp
  simp only [ho, hx, Sem.run_bind, Sem.run_pure, Result.andThen_ok, hr]
  refine hK _ _ (h _ _ ?_ ?_)
  · have hl : (bytesV (bys s)).length = s.size := by rw [bytesV_length, bys_len]
    have hmx : s.size ≤ maxLen := by simp only [maxLen]; omega
    have hge := grownCap_ge w s.size 0 e
    have hgs : (bytesRow s (grownCap w s.size 0 e)).size = grownCap w s.size 0 e := by
      unfold bytesRow
      simp only [Array.size_append, Array.size_map, Array.size_replicate]
      show s.data.size + (grownCap w s.size 0 e - s.data.size) = _
      have : s.data.size = s.size := rfl
      omega
    have hg : (w.drew.alloc (.cells (bytesRow s (grownCap w s.size 0 e)) e ((bytesRow s (grownCap w s.size 0 e)).size, (bytesRow s (grownCap w s.size 0 e)).size + 1))).heap[w.heap.size]? = some (.cells (bytesRow s (grownCap w s.size 0 e)) e ((bytesRow s (grownCap w s.size 0 e)).size, (bytesRow s (grownCap w s.size 0 e)).size + 1)) := by
      show (w.heap.push _)[w.heap.size]? = _
      simp
    refine ⟨by rw [hl]; omega, .inr ⟨w.heap.size, grownCap w s.size 0 e, _, _, by rw [hl], Nat.le_refl _, hg, .inl (Nat.le_refl _), by rw [hl]; exact hge, grownCap_le_maxLen w s.size 0 e hmx, hgs, ?_⟩⟩
    rw [hl]
    unfold bytesRow
    have e1 : (s.data.map (fun b => Value.int .u8 b.toNat)).toList = bytesV (bys s) := by simp [bytesV, bys]
    rw [Array.toList_append, e1, ← hl, List.take_left]
  · exact (below_drewN w 1).trans ((below_alloc w.drew _).mono (Nat.le_refl _))
theorem run_app_strF {P : Program} (w : World) (B : Nat) (t u ty E : TypeId) (z : Value) (bytes : Nat) (ht : P.underlying t = some (.slice E)) (hu : P.underlying u = some .string) (hinf : (P.info? E).map (fun i => (i.zero, i.size, i.bytes)) = some (some z, 1, bytes)) (hz : z.cells.size = 1) (hby : bytes ≤ 24)
    (v : Value) (xs : List Value) (hown : OwnF w B E v xs) (s : ByteArray) (hlen : xs.length + s.size ≤ 4294967296) (hB : B ≤ w.heap.size) :
    ∃ v' w', (Builtin.append_ #[t, u] ty #[v, .string s]).run P w = .ok v' w' ∧ OwnF w' B E v' (xs ++ bytesV s.data.toList) ∧ w.grownBy w' v.ownBlock ∧ (∀ k, v'.ownBlock = some k → v.ownBlock = some k ∨ w.heap.size ≤ k) := by
  obtain ⟨i, hi, hz0, hz1, hz2⟩ : ∃ i0, P.info? E = some i0 ∧ i0.zero = some z ∧ i0.size = 1 ∧ i0.bytes = bytes := by
    cases hq : P.info? E with
    | none => simp [hq] at hinf
    | some i0 => simp [hq] at hinf; exact ⟨i0, rfl, hinf.1, hinf.2.1, hinf.2.2⟩
  have hnl : (bytesV s.data.toList).length = s.size := by rw [bytesV_length]; simp
  have h1 := bytesV_one s.data.toList
  have hl1 : xs.length + s.size ≤ maxLen := by simp only [maxLen]; omega
  have hl2 : (xs.length + s.size) * bytes ≤ 140737488355328 := by
    have := Nat.mul_le_mul hlen hby; omega
  have hf := fun w' => run_firstCells_str (P := P) w' 1 s
  have hsl := hown.sl
  rcases hown with ⟨hsm, hrow⟩
  rcases hrow with ⟨rfl, rfl⟩ | ⟨g, cap, cur, fz, rfl, hbg, hg, hfz, hnc, hcm, hcs, htake⟩
  · obtain ⟨v', w', h2, ⟨⟨h3, h4⟩, h5⟩, h6, h7⟩ := run_app_str (P := P) w B t u ty E z bytes ht hu hinf hz hby (.slice none 0 0) [] (Own.nil w B E) s hlen hB
    refine ⟨v', w', h2, ⟨h5, ?_⟩, h6, h7⟩
    rcases h4 with ⟨a, b⟩ | ⟨g, cap, cur, a, b, c, d, e, f, i⟩
    · exact .inl ⟨a, List.length_eq_zero_iff.1 b⟩
    · exact .inr ⟨g, cap, cur, (0, 0), a, b, c, .inr rfl, d, e, by omega, by simpa using i⟩
  generalize bytesV s.data.toList = news at *
  have hlen' : (xs ++ news).length ≤ 140737488351232 := by rw [List.length_append, hnl]; omega
  by_cases hroom : xs.length + s.size ≤ cap
  · have hfit : xs.length + news.length ≤ cur.size := by rw [hnl, hcs]; omega
    have hst := run_storeCells_nf P g xs.length E fz news 0 cur w hg hfz (by simpa using hfit) h1
    simp only [Nat.add_zero] at hst
    generalize hR : (cur.toList.take xs.length ++ news ++ cur.toList.drop (xs.length + news.length)).toArray = R at hst
    have hRs : R.size = cur.size := by
      rw [← hR]
      simp only [List.size_toArray, List.length_append, List.length_take, List.length_drop, Array.length_toList]
      omega
    refine ⟨.slice (some ⟨g, 0, none⟩) (xs.length + s.size) cap, w.setRow g R, ?_, ⟨hlen', .inr ⟨g, cap, R, fz, ?_, hbg, setRow_heap w g cur R E _ hg, by rw [hRs]; exact hfz, ?_, hcm, by rw [hRs]; exact hcs, ?_⟩⟩, ⟨rfl, rfl, rfl, by simp, fun k _ hk => setRow_other w g k _ (fun e => hk (by simp [Value.ownBlock, e]))⟩, fun k hk => .inl hk⟩
    · have hf0 := hf w
      simp [Builtin.append_, run_underlying ht, run_underlying hu, sizeOf, typeInfo, hi, hz1, Builtin.lenOf, hroom, hf0, Addr.add_lit, hst]
    · rw [List.length_append, hnl]
    · rw [List.length_append, hnl]; exact hroom
    · rw [← hR, htake]
      exact List.take_left
  · have holds : ∀ j u, xs[j]? = some u → w.cell? ((⟨g, 0, none⟩ : Addr).add j) = some u := fun j u hj => by
      obtain ⟨hjl, hju⟩ := List.getElem?_eq_some_iff.1 hj
      rw [add_off, cell_of_row _ _ _ _ _ _ hg, Nat.zero_add]
      have : cur[j]? = (cur.toList.take xs.length)[j]? := by rw [List.getElem?_take, if_pos hjl]; simp
      rw [this, htake, hj]
    have hge := grownCap_ge w (xs.length + s.size) cap E
    have hcm2 : grownCap w (xs.length + s.size) cap E ≤ maxLen := grownCap_le_maxLen w (xs.length + s.size) cap E hl1
    refine ⟨.slice (some ⟨w.heap.size, 0, none⟩) (xs.length + s.size) (grownCap w (xs.length + s.size) cap E), w.drew.alloc (.cells (xs.toArray ++ news.toArray ++ Builtin.zeroCells z.cells (grownCap w (xs.length + s.size) cap E - (xs.length + s.size))) E), ?_, ⟨hlen', .inr ⟨w.heap.size, _, _, (0, 0), by rw [List.length_append, hnl], hB, heap_alloc_new w.drew _, .inr rfl, by rw [List.length_append, hnl]; exact hge, hcm2, ?_, ?_⟩⟩, ⟨rfl, rfl, rfl, by simp, fun k hk _ => Below.heap_alloc w.drew _ k hk⟩, fun k hk => .inr (by simp [Value.ownBlock] at hk; omega)⟩
    · have hn : ¬ (xs.length + s.size ≤ cap) := hroom
      have h63' : ¬ (9223372036854775807 < ((xs.length : Int) + (s.size : Int))) := by omega
      have h48' : ¬ (281474976710656 < Builtin.nextslicecap (xs.length + s.size) cap * i.bytes) := by
        have := growslice_fits (need := xs.length + s.size) (old := cap) (bytes := bytes) (by omega) hl2
        rw [hz2]; omega
      have hf0 := hf w.drew
      have hfo := run_firstCells_some (P := P) w.drew 1 xs.length ⟨g, 0, none⟩ xs.length cap xs (by omega) (by simpa using holds)
      simp [Builtin.append_, run_underlying ht, run_underlying hu, sizeOf, typeInfo, zeroValue, hi, hz0, hz1, Builtin.lenOf, hn, h63', h48', Question.forced, hf0, hfo, newRow, grownCap]
      congr 2
      apply Array.ext'
      simp [List.append_assoc]
    · simp only [Array.size_append, List.size_toArray, size_zeroCells, hz, hnl]
      omega
    · simp only [Array.toList_append]
      show List.take _ (xs ++ news ++ _) = _
      exact List.take_left
theorem wpList_app_strF {P : Program} {ops : Array Oper} {rest : List Oper} {o : Oper} {a : Act} {w : World} {Q : Exit → Act → World → Prop} (hgd : o.guard = none) (s x : Operand) (t u : TypeId)
    (ho : o.op = .call { callee := .builtin .append, args := #[s, x], argTypes := #[t, u] })
    (B E : TypeId) (z : Value) (bytes : Nat) (ht : P.underlying t = some (.slice E)) (hu : P.underlying u = some .string) (hinf : (P.info? E).map (fun i => (i.zero, i.size, i.bytes)) = some (some z, 1, bytes)) (hz : z.cells.size = 1) (hby : bytes ≤ 24)
    (v : Value) (xs : List Value) (hs : a.eval s = v) (hown : OwnF w B E v xs) (tx : ByteArray) (hxe : a.eval x = .string tx) (hlen : xs.length + tx.size ≤ 4294967296) (hB : B ≤ w.heap.size)
    (h : ∀ v' w', OwnF w' B E v' (xs ++ bytesV tx.data.toList) → w.grownBy w' v.ownBlock → (∀ k, v'.ownBlock = some k → v.ownBlock = some k ∨ w.heap.size ≤ k) → wpList P ops Q rest (a.put o.dst v') w') : wpList P ops Q (o :: rest) a w := by
  obtain ⟨v', w', hr, h2, h3, h4⟩ := run_app_strF (P := P) w B t u o.type E z bytes ht hu hinf hz hby v xs hown tx hlen hB
  refine wpList_plain hgd fun K hK => ?_
  unfold Oper.wp execOp
  simp only [ho, resolve, invoke, builtin, Sem.run_bind, Sem.run_pure, Result.andThen_ok, List.map_toArray, List.map_cons, List.map_nil, hs, hxe, hr]
  exact hK _ _ (h v' w' h2 h3 h4)
end Go.Cm

/- A machine that was played k steps. Conditions: as each says. -/
namespace Go.Cm
open Go.RowKit Go.Proofs

theorem headI_st {N T pre : Nat} {z : IS} : (headI N T pre z).2.st.length ≤ z.st.length + 1 := by
  unfold headI
  split
  · exact Nat.le_succ _
  · simp
theorem stI_st {N T pre : Nat} {bs : Byts} {z : IS} : (stI N T pre bs z).2.st.length ≤ z.st.length + 1 := by
  unfold stI
  split
  · exact headI_st
  · split
    · rename_i h; rw [(storI_keep h).1]; exact Nat.le_succ _
    · split
      · rw [codI_keep.1]; exact Nat.le_succ _
      · exact Nat.le_succ _
theorem bigI_st {pre : Nat} {y : Nat × IS} : (bigI pre y).2.st = y.2.st := by
  have key : ∀ M, (if y.1 ≠ 0 then y else if M < y.2.h.length - pre then (3, { y.2 with h := y.2.h.take (pre + M) }) else y).2.st = y.2.st := by
    intro M
    by_cases h1 : y.1 ≠ 0
    · rw [if_pos h1]
    · rw [if_neg h1]
      by_cases h2 : M < y.2.h.length - pre
      · rw [if_pos h2]
      · rw [if_neg h2]
  have h := key 16777216
  unfold bigI
  exact h
theorem playI_st {N T pre : Nat} {bs : Byts} {z0 : IS} : ∀ k, (playI N T pre bs z0 k).2.st.length ≤ z0.st.length + k
  | 0 => Nat.le_refl _
  | k + 1 => by
    have ih := playI_st (N := N) (T := T) (pre := pre) (bs := bs) (z0 := z0) k
    show (if (playI N T pre bs z0 k).1 ≠ 0 ∨ (playI N T pre bs z0 k).2.md = 3 then playI N T pre bs z0 k else bigI pre (stI N T pre bs (playI N T pre bs z0 k).2)).2.st.length ≤ _
    split
    · omega
    · rw [bigI_st]
      have := stI_st (N := N) (T := T) (pre := pre) (bs := bs) (z := (playI N T pre bs z0 k).2)
      omega
/-- k steps over the bytes of s -/
noncomputable def playS (s : ByteArray) (pre : Nat) (z0 : IS) (k : Nat) : Nat × IS := playI (numS s) (8 * s.size) pre (bys s) z0 k
/-- a step over the bytes of s -/
noncomputable def stepS (s : ByteArray) (pre : Nat) (z : IS) : Nat × IS := stI (numS s) (8 * s.size) pre (bys s) z
noncomputable def finS (s : ByteArray) (pre : Nat) (z0 : IS) : Nat × IS := finI (numS s) (8 * s.size) pre (bys s) z0
section
variable {s : ByteArray} {pre : Nat} {z0 : IS}
theorem t8 (s : ByteArray) : 8 ∣ 8 * s.size := ⟨s.size, rfl⟩
theorem playS_next {k : Nat} (h : ¬ StopI (playS s pre z0 k)) : playS s pre z0 (k + 1) = bigI pre (stepS s pre (playS s pre z0 k).2) := play_next h
theorem playS_err {k : Nat} (h : ¬ StopI (playS s pre z0 k)) (he : (stepS s pre (playS s pre z0 k).2).1 ≠ 0) : playS s pre z0 (k + 1) = ((stepS s pre (playS s pre z0 k).2).1, (playS s pre z0 k).2) := by
  have e := stI_err he
  rw [playS_next h]
  unfold bigI
  rw [if_pos he]
  show stI _ _ _ _ _ = _
  exact Prod.ext rfl e
theorem playS_big {k M : Nat} (hM : M = 16777216) (h : ¬ StopI (playS s pre z0 k)) (he : (stepS s pre (playS s pre z0 k).2).1 = 0) (hb : M < (stepS s pre (playS s pre z0 k).2).2.h.length - pre) :
    playS s pre z0 (k + 1) = (3, { (stepS s pre (playS s pre z0 k).2).2 with h := (stepS s pre (playS s pre z0 k).2).2.h.take (pre + M) }) := by
  rw [playS_next h]
  unfold bigI
  rw [← hM]
  rw [if_neg (by rw [he]; exact fun h => h rfl), if_pos hb]
theorem playS_ok {k M : Nat} (hM : M = 16777216) (h : ¬ StopI (playS s pre z0 k)) (he : (stepS s pre (playS s pre z0 k).2).1 = 0) (hb : ¬ M < (stepS s pre (playS s pre z0 k).2).2.h.length - pre) :
    playS s pre z0 (k + 1) = stepS s pre (playS s pre z0 k).2 := by
  rw [playS_next h]
  unfold bigI
  rw [← hM]
  rw [if_neg (by rw [he]; exact fun h => h rfl), if_neg hb]
theorem playS_keep (hi : IOk (8 * s.size) pre z0) (k : Nat) : (pre ≤ (playS s pre z0 k).2.h.length ∧ (playS s pre z0 k).2.h.length - pre ≤ 16777216) ∧ ((playS s pre z0 k).1 = 0 → IOk (8 * s.size) pre (playS s pre z0 k).2 ∧ (StopI (playS s pre z0 k) ∨ muI (8 * s.size) (playS s pre z0 k).2 + k ≤ muI (8 * s.size) z0)) := by
  obtain ⟨a, b, -⟩ := play_keep (N := numS s) (bs := bys s) (t8 s) hi k
  exact ⟨a, b⟩
theorem playS_st (hz : z0.st = []) (k : Nat) : (playS s pre z0 k).2.st.length ≤ k := by
  have h := playI_st (N := numS s) (T := 8 * s.size) (pre := pre) (bs := bys s) (z0 := z0) k
  rw [hz, List.length_nil, Nat.zero_add] at h
  exact h
theorem muI_le {T : Nat} (z : IS) : muI T z ≤ 2 * T + 1 := by unfold muI; split <;> omega
end
theorem Full0.fx {S : Nat → Prop} {w w' : World} {B gm gr gw p : Nat} {vb : Value} {s : ByteArray} {H : Byts} {st : List (Nat × Nat)} {m : MV} (h : Full0 w B gm gr gw vb s p H st m) (hf : Fx S w w') (hS : ∀ k, FSet gm gr gw vb m.vs k → ¬ S k) : Full0 w' B gm gr gw vb s p H st m :=
  ⟨h.mach.fx hf (fun k e => hS k (.inl e)), h.sts.fx hf (fun q e => hS q (.inr e)), h.sd⟩
/-- .. where the changed blocks are among those that the tables avoid -/
theorem Full.fx {S X : Nat → Prop} {w w' : World} {B gm gr gw : Nat} {vb : Value} {s : ByteArray} {z : IS} {m : MV} (h : Full w B gm gr gw vb X s z m) (hf : Fx S w w') (hS : ∀ k, FSet gm gr gw vb m.vs k → ¬ S k) (hX : ∀ k, S k → X k) : Full w' B gm gr gw vb X s z m :=
  ⟨h.f0.fx hf hS, h.rel, fun e => by
    obtain ⟨ta, tb, tc, td, k1, k2, k3⟩ := h.tabs e
    exact ⟨ta, tb, tc, td, k1.fx hf (fun k a b q => (k3 k (.inl ⟨a, b⟩)).2 (hX k q)), k2.fx hf (fun k a b q => (k3 k (.inr ⟨a, b⟩)).2 (hX k q)), k3⟩⟩
/-- they avoid new blocks -/
theorem Full.reX {X X' : Nat → Prop} {w : World} {B gm gr gw : Nat} {vb : Value} {s : ByteArray} {z : IS} {m : MV} (h : Full w B gm gr gw vb X s z m) (hX : ∀ k, X' k → X k ∨ w.heap.size ≤ k) : Full w B gm gr gw vb X' s z m :=
  ⟨h.f0, h.rel, fun e => by
    obtain ⟨ta, tb, tc, td, k1, k2, k3⟩ := h.tabs e
    have l1 : tb ≤ w.heap.size := by obtain ⟨_, _, q, _⟩ := k1; exact q
    have l2 : td ≤ w.heap.size := by obtain ⟨_, _, q, _⟩ := k2; exact q
    refine ⟨ta, tb, tc, td, k1, k2, fun k hk => ⟨(k3 k hk).1, fun q => ?_⟩⟩
    rcases hX k q with q | q
    · exact (k3 k hk).2 q
    · omega⟩
theorem Full.up {X : Nat → Prop} {w w' : World} {B gm gr gw : Nat} {vb : Value} {s : ByteArray} {z : IS} {m : MV} (h : Full w B gm gr gw vb X s z m) (hb : Below w.heap.size w w') : Full w' B gm gr gw vb X s z m :=
  h.fx (fx_below (S := fun _ => False) hb) (fun _ _ e => e) (fun _ e => e.elim)
/-- its cells change, but for those that tell where it stands -/
theorem Full.mset {X : Nat → Prop} {w w' : World} {B gm gr gw : Nat} {vb : Value} {s : ByteArray} {z : IS} {m m' : MV} (h : Full w B gm gr gw vb X s z m) (hm : MBox w' B gm gr gw m') (hg : w.grownBy w' (some gm)) (hv : m'.vs = m.vs) (h1 : m'.at_ = m.at_) (h2 : m'.fin = m.fin) (h3 : m'.left = m.left) (h4 : m'.vf = m.vf) (h5 : m'.vl = m.vl) (h6 : m'.vd = m.vd) : Full w' B gm gr gw vb X s z m' := by
  obtain ⟨hf0, hf⟩ := h.f0.mset hm hg hv
  refine ⟨hf0, ?_, fun e => ?_⟩
  · obtain ⟨r1, r2, r3, r4⟩ := h.rel
    exact ⟨by rw [h1]; exact r1, by rw [h2]; exact r2, by rw [h3]; exact r3, by rw [h4]; exact r4⟩
  · obtain ⟨ta, tb, tc, td, k1, k2, k3⟩ := h.tabs e
    rw [h5, h6, hv]
    exact ⟨ta, tb, tc, td, k1.fx hf (fun k a b => (k3 k (.inl ⟨a, b⟩)).1), k2.fx hf (fun k a b => (k3 k (.inr ⟨a, b⟩)).1), k3⟩
/-- a machine that was played k steps, but for what waits -/
structure LiveB (w : World) (B gm gr gw : Nat) (vb : Value) (X : Nat → Prop) (s : ByteArray) (pre : Nat) (z0 : IS) (m : MV) (k : Nat) : Prop where
  kb : k ≤ muI (8 * s.size) z0 + 1
  wrong : m.wrong = (playS s pre z0 k).1
  made : m.made = (playS s pre z0 k).2.h.length - pre
  bad : ∃ p H st, Full0 w B gm gr gw vb s p H st m
  good : (playS s pre z0 k).1 = 0 → Full w B gm gr gw vb X s (playS s pre z0 k).2 m
/-- .. with what waits -/
structure Live (w : World) (B gm gr gw : Nat) (vb : Value) (X : Nat → Prop) (s : ByteArray) (pre : Nat) (z0 : IS) (m : MV) (k : Nat) : Prop where
  live : LiveB w B gm gr gw vb X s pre z0 m k
  text : ∃ t : Byts, t.length = m.told ∧ (playS s pre z0 k).2.h.drop pre = t ++ bys m.waits
section
variable {w w' : World} {B gm gr gw : Nat} {vb : Value} {X : Nat → Prop} {s : ByteArray} {pre : Nat} {z0 : IS} {m m' : MV} {k : Nat}
theorem LiveB.box (h : LiveB w B gm gr gw vb X s pre z0 m k) : MBox w B gm gr gw m := by obtain ⟨p, H, st, h⟩ := h.bad; exact h.mach.box
theorem LiveB.lt (h : LiveB w B gm gr gw vb X s pre z0 m k) : ∀ q, FSet gm gr gw vb m.vs q → q < w.heap.size := by
  obtain ⟨p, H, st, h⟩ := h.bad
  intro q e
  obtain ⟨b, hb, -⟩ := h.mach.win
  rcases e with (e | e | e | e) | e
  · rw [e]; exact h.mach.box.blk.2
  · rw [e]; exact h.mach.rd.lt
  · rw [e]; exact hb.box.blk.2
  · exact (hb.own.lt q e).2
  · exact (h.sts.lt q e).2
theorem LiveB.fx {S : Nat → Prop} (h : LiveB w B gm gr gw vb X s pre z0 m k) (hf : Fx S w w') (hS : ∀ q, FSet gm gr gw vb m.vs q → ¬ S q) (hX : ∀ q, S q → X q) : LiveB w' B gm gr gw vb X s pre z0 m k := by
  obtain ⟨p, H, st, hb⟩ := h.bad
  exact ⟨h.kb, h.wrong, h.made, ⟨p, H, st, hb.fx hf hS⟩, fun e => (h.good e).fx hf hS hX⟩
theorem LiveB.up (h : LiveB w B gm gr gw vb X s pre z0 m k) (hb : Below w.heap.size w w') : LiveB w' B gm gr gw vb X s pre z0 m k :=
  h.fx (fx_below (S := fun _ => False) hb) (fun _ _ e => e) (fun _ e => e.elim)
theorem LiveB.reX {X' : Nat → Prop} (h : LiveB w B gm gr gw vb X s pre z0 m k) (hX : ∀ q, X' q → X q ∨ w.heap.size ≤ q) : LiveB w B gm gr gw vb X' s pre z0 m k :=
  ⟨h.kb, h.wrong, h.made, h.bad, fun e => (h.good e).reX hX⟩
/-- its words 'waits' and 'told' change -/
theorem LiveB.mset (h : LiveB w B gm gr gw vb X s pre z0 m k) (hm : MBox w' B gm gr gw m') (hg : w.grownBy w' (some gm)) (hw : m' = { m with waits := m'.waits, told := m'.told }) : LiveB w' B gm gr gw vb X s pre z0 m' k ∧ Fx (FSet gm gr gw vb m.vs) w w' := by
  obtain ⟨p, H, st, hb⟩ := h.bad
  have hv : m'.vs = m.vs := by rw [hw]
  obtain ⟨h1, h2⟩ := hb.mset hm hg hv
  exact ⟨⟨h.kb, by rw [hw]; exact h.wrong, by rw [hw]; exact h.made, ⟨p, H, st, h1⟩, fun e => (h.good e).mset hm hg hv (by rw [hw]) (by rw [hw]) (by rw [hw]) (by rw [hw]) (by rw [hw]) (by rw [hw])⟩, h2⟩
end
end Go.Cm

/- The walk of a machine's work. Conditions: the machine is there. -/
namespace Go.Cm
open Go.RowKit Go.Proofs

/-- what a call leaves of a machine -/
def After (w w' : World) (B gm gr gw : Nat) (vb : Value) (X : Nat → Prop) (s : ByteArray) (pre : Nat) (z0 : IS) (m : MV) (k : Nat) (M : Value → MV → Nat → Prop) : Prop :=
  ∃ vb' m' k', k ≤ k' ∧ Live w' B gm gr gw vb' X s pre z0 m' k' ∧ Fx (FSet gm gr gw vb m.vs) w w' ∧ (∀ q, vb'.ownBlock = some q → vb.ownBlock = some q ∨ w.heap.size ≤ q) ∧ (∀ q, m'.vs.ownBlock = some q → m.vs.ownBlock = some q ∨ w.heap.size ≤ q) ∧ M vb' m' k'
theorem bys_inj {a b : ByteArray} (h : bys a = bys b) : a = b := by
  cases a; cases b; congr 1; exact Array.toList_inj.1 h
theorem workEnd {w wr w' : World} {B gm gr gw pre k0 k : Nat} {vb vb1 : Value} {X X1 : Nat → Prop} {s : ByteArray} {z0 : IS} {m mr : MV} {t t1 : Byts} {n : Int} (hk : k0 ≤ k) (hlv : LiveB wr B gm gr gw vb1 X1 s pre z0 mr k) (hX : ∀ q, X q → X1 q) (hf : Fx (FSet gm gr gw vb m.vs) w wr)
    (hk1 : ∀ q, vb1.ownBlock = some q → vb.ownBlock = some q ∨ w.heap.size ≤ q) (hk2 : ∀ q, mr.vs.ownBlock = some q → m.vs.ownBlock = some q ∨ w.heap.size ≤ q) (htl : mr.told = m.told) (ht1 : t1.length = m.told) (htx : (playS s pre z0 k).2.h.drop pre = t1 ++ t)
    (hS : MBox w' B gm gr gw { mr with waits := ⟨t.toArray⟩ }) (hG : wr.grownBy w' (some gm)) (hst : n ≤ (t.length : Int) ∨ StopI (playS s pre z0 k)) :
    After w w' B gm gr gw vb X s pre z0 m k0 (fun _ m' k' => m'.told = m.told ∧ (n ≤ m'.waits.size ∨ StopI (playS s pre z0 k'))) := by
  obtain ⟨h1, h2⟩ := hlv.mset hS hG rfl
  refine ⟨vb1, _, k, hk, ⟨h1.reX (fun q e => .inl (hX q e)), t1, ?_, ?_⟩, ffx_next hf hk1 hk2 h2, hk1, hk2, htl, ?_⟩
  · rw [ht1]; exact htl.symm
  · rw [htx, bys_mk]
  · refine hst.imp (fun e => ?_) id
    show n ≤ ((⟨t.toArray⟩ : ByteArray).size : Int)
    rw [← bys_len, bys_mk]; exact e
theorem LiveB.app {w w' : World} {B gm gr gw pre k : Nat} {vb bv v' : Value} {X : Nat → Prop} {s : ByteArray} {z0 : IS} {m : MV} (h : LiveB w B gm gr gw vb (fun q => X q ∨ bv.ownBlock = some q) s pre z0 m k) (hsp : ∀ q, FSet gm gr gw vb m.vs q → bv.ownBlock ≠ some q) (hg : w.grownBy w' bv.ownBlock) (hk : ∀ q, v'.ownBlock = some q → bv.ownBlock = some q ∨ w.heap.size ≤ q) :
    LiveB w' B gm gr gw vb (fun q => X q ∨ v'.ownBlock = some q) s pre z0 m k ∧ ∀ q, FSet gm gr gw vb m.vs q → v'.ownBlock ≠ some q := by
  have h1 := h.reX (X' := fun q => (X q ∨ bv.ownBlock = some q) ∨ v'.ownBlock = some q) (fun q e => e.elim .inl (fun e => (hk q e).imp .inr id))
  have h2 := h1.fx (fx_grown (S := fun q => bv.ownBlock = some q) hg (fun q e => e)) (fun q e z => hsp q e z) (fun q e => .inl (.inr e))
  refine ⟨h2.reX (fun q e => .inl (e.elim (fun e => .inl (.inl e)) .inr)), fun q e z => ?_⟩
  rcases hk q z with h3 | h3
  · exact hsp q e h3
  · have := h.lt q e; omega
theorem ar1 {M made zl yl cl pre r : Nat} (h1 : r = M - made) (h2 : made = zl - pre) (h3 : pre ≤ zl) (h4 : yl = zl + cl) (h5 : r < cl) : M < yl - pre := by omega
theorem ar2 {M made zl pre r : Nat} (h1 : r = M - made) (h2 : made = zl - pre) (h3 : made ≤ M) : M = zl - pre + r := by omega
theorem ar3 {M made zl yl pre r : Nat} (h1 : M = zl - pre + r) (h2 : made = zl - pre) (h3 : M < yl - pre) : made + r = min (pre + M) yl - pre := by omega
theorem ar4 {M zl pre r : Nat} (h1 : M = zl - pre + r) (h3 : pre ≤ zl) : zl ≤ pre + M ∧ pre - zl = 0 ∧ pre + M - zl = r := by omega
theorem ar5 {M zl pre r a b : Nat} (h1 : M = zl - pre + r) (h2 : zl - pre = a + b) (hM : M = 16777216) : b + r ≤ 4294967296 := by omega
theorem ar6 {M made zl yl cl pre r : Nat} (h1 : r = M - made) (h2 : made = zl - pre) (h3 : pre ≤ zl) (h4 : yl = zl + cl) (h5 : ¬ r < cl) (h6 : made ≤ M) : ¬ M < yl - pre ∧ made + cl = yl - pre := by omega
theorem ar7 {M zl yl cl pre a b : Nat} (h1 : ¬ M < yl - pre) (h2 : zl - pre = a + b) (h3 : pre ≤ zl) (h4 : yl = zl + cl) (hM : M = 16777216) : b + cl ≤ 4294967296 := by omega
set_option maxRecDepth 100000 in
set_option maxHeartbeats 4000000 in
theorem workM {w : World} {B gm gr gw pre k0 : Nat} {vb : Value} {X : Nat → Prop} {s : ByteArray} {z0 : IS} {m : MV} (hL : Live w B gm gr gw vb X s pre z0 m k0) (hi : IOk (8 * s.size) pre z0) (hz : z0.st = []) (hs : s.size ≤ 4000000) (hX : ∀ q, X q → q < w.heap.size) (n : Int) :
    Calls Tryz.prog 28 #[.pointer (some ⟨gm, 0, none⟩), .int .i64 n] w fun e w' => e = .returned (.tuple #[]) ∧ After w w' B gm gr gw vb X s pre z0 m k0 (fun _ m' k' => m'.told = m.told ∧ (n ≤ m'.waits.size ∨ StopI (playS s pre z0 k'))) := by
  have HI := Lib.hid hi
  have HZ := Lib.hid hz
  have HS := Lib.hid hs
  have HX := Lib.hid hX
  obtain ⟨hB, t0, ht0, htx⟩ := hL
  have HLB := Lib.hid hB
  have HTX := Lib.hid htx
  have HT0 := Lib.hid ht0
  have c9 : w.cell? ⟨gm, 9, none⟩ = some (.string m.waits) := hB.box.cell (by decide)
  have hgm := hB.box.blk.2
  have hws : m.waits.size ≤ 16777216 := by
    have h1 := (playS_keep (s := s) hi k0).1.2
    have h2 := congrArg List.length htx
    rw [List.length_drop, List.length_append, bys_len] at h2
    omega
  have hws2 : m.waits.size ≤ 100000000 := by omega
  clear hB htx ht0 hX hz hi
  go_enter Tryz.func28, Tryz.ntmps28
  go_step3
  go_wp2_with ((with_reducible show wpList _ _ _ (Oper.mk _ (.convert _ _ _) _ _ _ _ :: _) _ _); (refine wpList_bytes_own rfl 9 54 5 (.tmp 11) rfl Tryz.underlying9 Tryz.underlying54 Tryz.underlying5 m.waits rfl hws2 ?_); intro v1 w1 ho1 hb1; have HO1 := Lib.hid ho1; have HB1 := Lib.hid hb1; clear ho1 hb1)
  go_step3
  go_wp2
  go_loopg [4] (muI (8 * s.size) z0 + 2 - k0) (fun gk bv wr => ∃ (k : Nat) (vb1 : Value) (mr : MV) (t : Byts), k0 ≤ k ∧ OwnF wr w.heap.size 5 bv (bytesV t) ∧ LiveB wr B gm gr gw vb1 (fun q => X q ∨ bv.ownBlock = some q) s pre z0 mr k ∧ (∀ q, FSet gm gr gw vb1 mr.vs q → bv.ownBlock ≠ some q) ∧
     Fx (FSet gm gr gw vb m.vs) w wr ∧ (∀ q, vb1.ownBlock = some q → vb.ownBlock = some q ∨ w.heap.size ≤ q) ∧ (∀ q, mr.vs.ownBlock = some q → m.vs.ownBlock = some q ∨ w.heap.size ≤ q) ∧ mr.told = m.told ∧ (∃ t1 : Byts, t1.length = m.told ∧ (playS s pre z0 k).2.h.drop pre = t1 ++ t) ∧ gk = muI (8 * s.size) z0 + 2 - k)
  case atStart =>
    exact ⟨k0, vb, m, bys m.waits, Nat.le_refl _, HO1.out, (HLB.out.reX (fun q e => e.imp id (fun e => (HO1.out.lt q e).1))).up HB1.out, fun q e z => by have h1 := HLB.out.lt q e; have h2 := (HO1.out.lt q z).1; omega, fx_below HB1.out, fun q e => .inl e, fun q e => .inl e, rfl, ⟨t0, HT0.out, HTX.out⟩, rfl⟩
  case round =>
    obtain ⟨k, vb1, mr, t, hk, hbo, hlv, hsp, hf, hk1, hk2, htl, ⟨t1, ht1, htx⟩, rfl⟩ := hrel
    obtain ⟨ob, kb, qb, fb, hvb, hdb, -⟩ := hbo.sl
    rw [bytesV_length] at hvb hdb
    have hmb := hdb.len
    subst hvb
    have HBO := Lib.hid hbo
    have HLV := Lib.hid hlv
    have HSP := Lib.hid hsp
    have HF := Lib.hid hf
    have HK1 := Lib.hid hk1
    have HK2 := Lib.hid hk2
    have HTL := Lib.hid htl
    have HT1 := Lib.hid ht1
    have HT2 := Lib.hid htx
    have HK := Lib.hid hk
    have c2 : wr.cell? ⟨gm, 2, none⟩ = some (.int .i64 (mr.at_ : Nat)) := hlv.box.cell (by decide)
    have c9 : wr.cell? ⟨gm, 9, none⟩ = some (.string mr.waits) := hlv.box.cell (by decide)
    have c10 : wr.cell? ⟨gm, 10, none⟩ = some (.int .i64 (mr.wrong : Nat)) := hlv.box.cell (by decide)
    have f9 := hlv.box.free 9
    have f10 := hlv.box.free 10
    have hgm := hlv.box.blk.2
    clear hbo hsp hf hk1 hk2 htl ht1 htx hk hdb
    by_cases hgo : (t.length : Int) < n ∧ mr.at_ ≠ 3 ∧ mr.wrong = 0
    · obtain ⟨h1, h2, h3⟩ := hgo
      have hp0 : (playS s pre z0 k).1 = 0 := by rw [← hlv.wrong]; exact h3
      have hfull := hlv.good hp0
      have hmd : (playS s pre z0 k).2.md ≠ 3 := by rw [← hfull.rel.1]; exact h2
      have hns : ¬ StopI (playS s pre z0 k) := fun e => e.elim (fun e => e hp0) hmd
      obtain ⟨⟨hpre, hbig⟩, hok⟩ := playS_keep (s := s) (pre := pre) HI.out k
      obtain ⟨hiok, hmu⟩ := hok hp0
      have hmu2 := hmu.resolve_left hns
      have hkb : k + 1 ≤ muI (8 * s.size) z0 + 1 := by omega
      have hk8 : k ≤ 100000000 := by have := muI_le (T := 8 * s.size) z0; omega
      obtain ⟨f, hvf, hent, hcall⟩ := makesM (X := fun q => X q ∨ (Value.slice ob t.length kb).ownBlock = some q) hfull hiok hmd (by omega) hlv.made (Nat.le_trans (playS_st HZ.out k) hk8) (fun q e => e.elim (fun e => Nat.lt_of_lt_of_le (HX.out q e) HF.out.size) (fun e => (HBO.out.lt q e).2))
      have HC := Lib.hid hcall
      have c12 : wr.cell? ⟨gm, 12, none⟩ = some (.func (.func f) #[] #[]) := by rw [← hvf]; exact hlv.box.cell (by decide)
      have h1' : decide ((t.length : Int) < n) = true := decide_eq_true h1
      have h2' : ((mr.at_ : Int) != 3) = true := by simpa using (by omega : ¬ (mr.at_ : Int) = 3)
      rw [h3] at c10
      have HNS := Lib.hid hns
      have HKB := Lib.hid hkb
      have HMD := Lib.hid hlv.made
      have HPR := Lib.hid hpre
      have HBG := Lib.hid hbig
      have HBD := Lib.hid hlv.bad
      have HWR := Lib.hid (hlv.wrong.trans hp0)
      clear hlv hfull hiok hmd hns hpre hbig hok hmu hmu2 hkb hk8 hcall hvf hp0
      have HPE := Lib.hid (fun e => playS_err (s := s) (pre := pre) (z0 := z0) HNS.out e)
      have HPB := Lib.hid (fun M (hM : M = 16777216) e => playS_big (s := s) (pre := pre) (z0 := z0) hM HNS.out e)
      have HPO := Lib.hid (fun M (hM : M = 16777216) e => playS_ok (s := s) (pre := pre) (z0 := z0) hM HNS.out e)
      obtain ⟨Z, hZ⟩ : ∃ Z, Z = (playS s pre z0 k).2 := ⟨_, rfl⟩
      obtain ⟨Y, hY⟩ : ∃ Y, Y = stepS s pre Z := ⟨_, rfl⟩
      rw [← hZ] at HPE HPB HPO HC HMD HPR HBG HT2
      rw [← hY] at HPE HPB HPO
      have HC2 : Hid (Calls Tryz.prog f #[.pointer (some ⟨gm, 0, none⟩)] wr (RetFull B gm gr gw vb1 (fun q => X q ∨ (Value.slice ob t.length kb).ownBlock = some q) s Z mr Y wr)) := Lib.hid (by rw [hY]; exact HC.out)
      clear HC hY hZ
      go_upto_region 3 with ((with_reducible refine HC2.out.mono ?_); rintro e w2 ⟨c, p2, H2, vb2, m2, rfl, hf2, ho1, ho2, hkp, hgd, hbd⟩; have HF2 := Lib.hid hf2; have HOA := Lib.hid ho1; have HOB := Lib.hid ho2; have HKP := Lib.hid hkp; have HGD := Lib.hid hgd; have HBD2 := Lib.hid hbd; clear hf2 ho1 ho2 hkp hgd hbd)
      have HFU := Lib.hid (HF.out.mono (S' := FSet gm gr gw vb m.vs) (fun _ e => e))
      have HBO2 := Lib.hid (HBO.out.fx HF2.out (fun q e z => HSP.out q z e))
      have HFX := Lib.hid (ffx_next HF.out HK1.out HK2.out HF2.out)
      have HSP2 : Hid (∀ q, FSet gm gr gw vb2 m2.vs q → (Value.slice ob t.length kb).ownBlock ≠ some q) := Lib.hid (fun q e z => by
        have hlt := (HBO.out.lt q z).2
        rcases e with (e | e | e | e) | e
        · exact HSP.out q (.inl (.inl e)) z
        · exact HSP.out q (.inl (.inr (.inl e))) z
        · exact HSP.out q (.inl (.inr (.inr (.inl e)))) z
        · rcases HOA.out q e with h | h
          · exact HSP.out q (.inl (.inr (.inr (.inr h)))) z
          · omega
        · rcases HOB.out q e with h | h
          · exact HSP.out q (.inr h) z
          · omega)
      have HK1' : Hid (∀ q, vb2.ownBlock = some q → vb.ownBlock = some q ∨ w.heap.size ≤ q) := Lib.hid (fun q e => by
        rcases HOA.out q e with h | h
        · exact HK1.out q h
        · exact .inr (Nat.le_trans HF.out.size h))
      have HK2' : Hid (∀ q, m2.vs.ownBlock = some q → m.vs.ownBlock = some q ∨ w.heap.size ≤ q) := Lib.hid (fun q e => by
        rcases HOB.out q e with h | h
        · exact HK2.out q h
        · exact .inr (Nat.le_trans HF.out.size h))
      have HTL2 : Hid (m2.told = m.told) := Lib.hid (HKP.out.2.1.trans HTL.out)
      have HMD2 : Hid (m2.made = Z.h.length - pre) := Lib.hid (HKP.out.1.trans HMD.out)
      clear HFU
      by_cases he : Y.1 = 0
      · have he2 : ((Y.1 : Int) != 0) = false := by rw [he]; rfl
        obtain ⟨hfull, hyh⟩ := HGD.out he
        have HFULL := Lib.hid hfull
        have HYH := Lib.hid hyh
        have c7 : w2.cell? ⟨gm, 7, none⟩ = some (.int .i64 (m2.made : Nat)) := hfull.f0.mach.box.cell (by decide)
        have g2 := hfull.f0.mach.box.blk.2
        obtain ⟨r, hr⟩ : ∃ r, r = 16777216 - m2.made := ⟨_, rfl⟩
        have hmle : m2.made ≤ 16777216 := by rw [HMD2.out]; exact HBG.out
        have hri : wrap64 ((16777216 : Int) - (m2.made : Nat)) = (r : Nat) := by rw [IntWalk.wrap64_in _ ⟨by omega, by omega⟩]; omega
        have HR := Lib.hid hr
        have HMLE := Lib.hid hmle
        clear hfull hyh hr hmle
        go_upto_region 6 with (fail)
        rw [hri]
        by_cases hbg : r < c.size
        · have hb2 : decide ((c.size : Int) > (r : Nat)) = true := by rw [decide_eq_true_eq]; omega
          obtain ⟨cr, hcr, hsl⟩ := slice_to c r (by omega)
          have HSL := Lib.hid hsl
          clear hsl
          have hcrs : cr.size = r := by rw [← bys_len, hcr, List.length_take, bys_len]; omega
          have HCR := Lib.hid hcr
          have HCS := Lib.hid hcrs
          have hF0 := HFULL.out.f0
          have c10 : w2.cell? ⟨gm, 10, none⟩ = some (.int .i64 (m2.wrong : Nat)) := hF0.mach.box.cell (by decide)
          have f10 := hF0.mach.box.free 10
          obtain ⟨hS3, hG3⟩ := hF0.mach.box.set 10 (.int .i64 3) (m' := { m2 with wrong := 3 }) rfl
          obtain ⟨hU3, hF3⟩ := hF0.mset hS3 hG3 rfl
          have c73 : (w2.setCell ⟨gm, 10, none⟩ (.int .i64 3)).cell? ⟨gm, 7, none⟩ = some (.int .i64 (m2.made : Nat)) := hU3.mach.box.cell (by decide)
          have f73 := hU3.mach.box.free 7
          have g3 := hU3.mach.box.blk.2
          obtain ⟨hS4, hG4⟩ := hU3.mach.box.set 7 (.int .i64 ((m2.made + r : Nat) : Int)) (m' := { m2 with wrong := 3, made := m2.made + r }) rfl
          obtain ⟨hU4, hF4⟩ := hU3.mset hS4 hG4 rfl
          have HU4 := Lib.hid hU4
          have HF4 := Lib.hid (hF3.trans hF4)
          have hadd : wrap64 (((m2.made : Nat) : Int) + (r : Nat)) = ((m2.made + r : Nat) : Int) := by
            have h1 := HR.out
            have h2 := HMLE.out
            rw [IntWalk.wrap64_in _ ⟨by omega, by omega⟩]; omega
          clear hS3 hG3 hU3 hF3 hS4 hG4 hU4 hF4 hF0
          go_upto_region 10 with ((with_reducible show wpList _ _ _ (Oper.mk _ (.slice _ _ _ _ _) _ _ _ _ :: _) _ _); refine wpList_slice_by rfl 9 (.tmp 55) none (some (.tmp 56)) none rfl _ (HSL.out _) ?_)
          try rw [hadd]
          have HF4' := Lib.hid (ffx_next (vs' := m2.vs) HFX.out (fun q e => HK1'.out q e) (fun q e => HK2'.out q e) HF4.out)
          have HBO4 := Lib.hid (HBO2.out.fx HF4.out (fun q e z => HSP2.out q z e))
          generalize hw4 : World.setCell (World.setCell w2 ⟨gm, 10, none⟩ _) ⟨gm, 7, none⟩ _ = w4
          have hw5 : (w2.setCell ⟨gm, 10, none⟩ (.int .i64 3)).setCell ⟨gm, 7, none⟩ (.int .i64 ((m2.made + r : Nat) : Int)) = w4 := hw4
          rw [hw5] at HU4 HF4 HF4' HBO4
          obtain ⟨M, hM⟩ : ∃ M : Nat, M = 16777216 := ⟨_, rfl⟩
          rw [← hM] at HR HMLE
          have h4 := congrArg List.length HYH.out
          rw [List.length_append, bys_len] at h4
          have hMY := ar1 HR.out HMD2.out HPR.out h4 hbg
          have hMh := ar2 HR.out HMD2.out HMLE.out
          have hP := HPB.out M hM he hMY
          have hL4 : LiveB w4 B gm gr gw vb2 (fun q => X q ∨ (Value.slice ob t.length kb).ownBlock = some q) s pre z0 { m2 with wrong := 3, made := m2.made + r } (k + 1) := by
            refine ⟨HKB.out, by rw [hP], ?_, ⟨_, _, _, HU4.out⟩, fun e => by rw [hP] at e; exact absurd e (show ¬ (3 : Nat) = 0 by decide)⟩
            rw [hP]
            show m2.made + r = (List.take (pre + M) Y.2.h).length - pre
            rw [List.length_take]
            exact ar3 hMh HMD2.out hMY
          obtain ⟨q1, q2, q3⟩ := ar4 hMh HPR.out
          have hTX : (playS s pre z0 (k + 1)).2.h.drop pre = t1 ++ (t ++ bys cr) := by
            rw [hP, HCR.out]
            show (List.take (pre + M) Y.2.h).drop pre = _
            rw [HYH.out, List.take_append, List.take_of_length_le q1, List.drop_append, q2, List.drop_zero, HT2.out, List.append_assoc, q3]
          have HL4 := Lib.hid hL4
          have HTX4 := Lib.hid hTX
          have HLN : Hid ((bytesV t).length + cr.size ≤ 4294967296) := Lib.hid (by
            have h1 := congrArg List.length HT2.out
            rw [List.length_drop, List.length_append] at h1
            rw [bytesV_length, hcrs]
            exact ar5 hMh h1 hM)
          have HSZ : Hid (w.heap.size ≤ w4.heap.size) := Lib.hid HF4'.out.size
          clear hL4 hTX hP hMY hMh hadd HR HMLE hM
          go_wp2_with (at_builtin; go_loud (refine wpList_app_strF rfl (.tmp 70) (.tmp 71) 54 9 rfl w.heap.size 5 (.int .u8 0) 1 Tryz.underlying54 Tryz.underlying9 (by kernel_rfl) rfl (by decide) (.slice ob t.length kb) (bytesV t) rfl HBO4.out cr rfl HLN.out HSZ.out ?_); intro v5 w5 hown5 hg5 hk5; have HO5 := Lib.hid hown5; have HG5 := Lib.hid hg5; have HK5 := Lib.hid hk5; clear hown5 hg5 hk5)
          obtain ⟨hl5, hs5⟩ := HL4.out.app HSP2.out HG5.out HK5.out
          go_roundg (muI (8 * s.size) z0 + 2 - (k + 1))
          case measure => have := HKB.out; omega
          case rel =>
            refine ⟨k + 1, vb2, _, t ++ bys cr, Nat.le_succ_of_le HK.out, ?_, hl5, hs5, HF4'.out.grown HG5.out (fun q e => .inr (HBO.out.lt q e).1), HK1'.out, HK2'.out, HTL2.out, ⟨t1, HT1.out, HTX4.out⟩, rfl⟩
            rw [bytesV_append]; exact HO5.out
        · have hb2 : decide ((c.size : Int) > (r : Nat)) = false := by rw [decide_eq_false_iff_not]; omega
          have hF0 := HFULL.out.f0
          have f7 := hF0.mach.box.free 7
          have h4 := congrArg List.length HYH.out
          rw [List.length_append, bys_len] at h4
          have HM4 := Lib.hid h4
          have hadd : wrap64 (((m2.made : Nat) : Int) + (c.size : Nat)) = ((m2.made + c.size : Nat) : Int) := by
            have h1 := HR.out
            have h2 := HMLE.out
            rw [IntWalk.wrap64_in _ ⟨by omega, by omega⟩]; omega
          obtain ⟨hS4, hG4⟩ := hF0.mach.box.set 7 (.int .i64 ((m2.made + c.size : Nat) : Int)) (m' := { m2 with made := m2.made + c.size }) rfl
          have HU4 := Lib.hid (HFULL.out.mset hS4 hG4 rfl rfl rfl rfl rfl rfl rfl)
          have HF4 := Lib.hid (hF0.mset hS4 hG4 rfl).2
          clear hS4 hG4 hF0 h4
          go_upto_region 10 with (fail)
          try rw [hadd]
          have HF4' := Lib.hid (ffx_next (vs' := m2.vs) HFX.out (fun q e => HK1'.out q e) (fun q e => HK2'.out q e) HF4.out)
          have HBO4 := Lib.hid (HBO2.out.fx HF4.out (fun q e z => HSP2.out q z e))
          generalize hw4 : World.setCell w2 ⟨gm, 7, none⟩ _ = w4
          have hw5 : w2.setCell ⟨gm, 7, none⟩ (.int .i64 ((m2.made + c.size : Nat) : Int)) = w4 := hw4
          rw [hw5] at HU4 HF4 HF4' HBO4
          obtain ⟨M, hM⟩ : ∃ M : Nat, M = 16777216 := ⟨_, rfl⟩
          rw [← hM] at HR HMLE
          obtain ⟨hMY, hms⟩ := ar6 HR.out HMD2.out HPR.out HM4.out hbg HMLE.out
          have hP := HPO.out M hM he hMY
          have hL4 : LiveB w4 B gm gr gw vb2 (fun q => X q ∨ (Value.slice ob t.length kb).ownBlock = some q) s pre z0 { m2 with made := m2.made + c.size } (k + 1) := by
            refine ⟨HKB.out, ?_, by rw [hP]; exact hms, ⟨_, _, _, HU4.out.f0⟩, fun _ => by rw [hP]; exact HU4.out⟩
            rw [hP, he]
            exact HKP.out.2.2.2.trans HWR.out
          have hTX : (playS s pre z0 (k + 1)).2.h.drop pre = t1 ++ (t ++ bys c) := by
            rw [hP, HYH.out, List.drop_append, show pre - Z.h.length = 0 from Nat.sub_eq_zero_of_le HPR.out, List.drop_zero, HT2.out, List.append_assoc]
          have HL4 := Lib.hid hL4
          have HTX4 := Lib.hid hTX
          have HLN : Hid ((bytesV t).length + c.size ≤ 4294967296) := Lib.hid (by
            have h1 := congrArg List.length HT2.out
            rw [List.length_drop, List.length_append] at h1
            rw [bytesV_length]
            exact ar7 hMY h1 HPR.out HM4.out hM)
          have HSZ : Hid (w.heap.size ≤ w4.heap.size) := Lib.hid HF4'.out.size
          clear hL4 hTX hP hMY hms hadd HR HMLE hM
          go_wp2_with (at_builtin; go_loud (refine wpList_app_strF rfl (.tmp 70) (.tmp 71) 54 9 rfl w.heap.size 5 (.int .u8 0) 1 Tryz.underlying54 Tryz.underlying9 (by kernel_rfl) rfl (by decide) (.slice ob t.length kb) (bytesV t) rfl HBO4.out c rfl HLN.out HSZ.out ?_); intro v5 w5 hown5 hg5 hk5; have HO5 := Lib.hid hown5; have HG5 := Lib.hid hg5; have HK5 := Lib.hid hk5; clear hown5 hg5 hk5)
          obtain ⟨hl5, hs5⟩ := HL4.out.app HSP2.out HG5.out HK5.out
          go_roundg (muI (8 * s.size) z0 + 2 - (k + 1))
          case measure => have := HKB.out; omega
          case rel =>
            refine ⟨k + 1, vb2, _, t ++ bys c, Nat.le_succ_of_le HK.out, ?_, hl5, hs5, HF4'.out.grown HG5.out (fun q e => .inr (HBO.out.lt q e).1), HK1'.out, HK2'.out, HTL2.out, ⟨t1, HT1.out, HTX4.out⟩, rfl⟩
            rw [bytesV_append]; exact HO5.out
      · have he2 : ((Y.1 : Int) != 0) = true := by simpa using he
        have hB2 := HBD2.out he
        have c10 : w2.cell? ⟨gm, 10, none⟩ = some (.int .i64 (m2.wrong : Nat)) := hB2.mach.box.cell (by decide)
        have f10 := hB2.mach.box.free 10
        have g2 := hB2.mach.box.blk.2
        obtain ⟨hS3, hG3⟩ := hB2.mach.box.set 10 (.int .i64 (Y.1 : Nat)) (m' := { m2 with wrong := Y.1 }) rfl
        obtain ⟨hU3, hF3⟩ := hB2.mset hS3 hG3 rfl
        have HU3 := Lib.hid hU3
        have HF3 := Lib.hid hF3
        clear hS3 hG3 hU3 hF3 hB2
        go_upto_region 11 with (fail)
        have HF3' := Lib.hid (ffx_next (vs' := m2.vs) HFX.out (fun q e => HK1'.out q e) (fun q e => HK2'.out q e) HF3.out)
        have HBO3 := Lib.hid (HBO2.out.fx HF3.out (fun q e z => HSP2.out q z e))
        generalize w2.setCell ⟨gm, 10, none⟩ (.int .i64 (Y.1 : Nat)) = w3 at *
        have HCV := Lib.hid (run_bytes_string (P := Tryz.prog) w3 54 9 5 Tryz.underlying54 Tryz.underlying5 Tryz.underlying9 (.slice ob t.length kb) t HBO3.out.sl)
        have c9 : w3.cell? ⟨gm, 9, none⟩ = some (.string m2.waits) := HU3.out.mach.box.cell (by decide)
        have f9 := HU3.out.mach.box.free 9
        have g3 := HU3.out.mach.box.blk.2
        obtain ⟨hS9, hG9⟩ := HU3.out.mach.box.set 9 (.string ⟨t.toArray⟩) (m' := { m2 with wrong := Y.1, waits := ⟨t.toArray⟩ }) rfl
        have HS9 := Lib.hid hS9
        have HG9 := Lib.hid hG9
        have HL3 : Hid (LiveB w3 B gm gr gw vb2 X s pre z0 { m2 with wrong := Y.1 } (k + 1)) := Lib.hid ⟨HKB.out, by rw [HPE.out he], by rw [HPE.out he]; exact HMD2.out, ⟨_, _, _, HU3.out⟩, fun e => by rw [HPE.out he] at e; exact absurd e he⟩
        clear hS9 hG9
        go_wp2_with ((with_reducible show wpList _ _ _ (Oper.mk _ (.convert _ _ _) _ _ _ _ :: _) _ _); refine wpList_conv_by rfl 54 9 (.tmp 74) rfl _ HCV.out ?_)
        try rw [Exit.noGoto_normal]
        go_end0
        exact ⟨rfl, workEnd (Nat.le_succ_of_le HK.out) HL3.out (fun q e => e) HF3'.out HK1'.out HK2'.out HTL2.out HT1.out (by rw [HPE.out he]; exact HT2.out) HS9.out HG9.out (.inr (.inl (by rw [HPE.out he]; exact he)))⟩
    · have hst : n ≤ (t.length : Int) ∨ StopI (playS s pre z0 k) := by
        by_cases h1 : n ≤ (t.length : Int)
        · exact .inl h1
        · refine .inr ?_
          by_cases h2 : (playS s pre z0 k).1 = 0
          · refine .inr ?_
            apply Classical.byContradiction
            intro h3
            exact hgo ⟨by omega, by rw [(hlv.good h2).rel.1]; exact h3, by rw [hlv.wrong]; exact h2⟩
          · exact .inl h2
      have HST := Lib.hid hst
      have HCV := Lib.hid (run_bytes_string (P := Tryz.prog) wr 54 9 5 Tryz.underlying54 Tryz.underlying5 Tryz.underlying9 (.slice ob t.length kb) t HBO.out.sl)
      obtain ⟨hS9, hG9⟩ := hlv.box.set 9 (.string ⟨t.toArray⟩) (m' := { mr with waits := ⟨t.toArray⟩ }) rfl
      have HS9 := Lib.hid hS9
      have HG9 := Lib.hid hG9
      clear hlv hst hS9 hG9
      rcases (show ¬ ((t.length : Int) < n) ∨ ((t.length : Int) < n ∧ mr.at_ = 3) ∨ ((t.length : Int) < n ∧ mr.at_ ≠ 3 ∧ mr.wrong ≠ 0) by omega) with h1 | ⟨h1, h2⟩ | ⟨h1, h2, h3⟩
      · have h1' : decide ((t.length : Int) < n) = false := decide_eq_false h1
        go_wp2_with ((with_reducible show wpList _ _ _ (Oper.mk _ (.convert _ _ _) _ _ _ _ :: _) _ _); refine wpList_conv_by rfl 54 9 (.tmp 74) rfl _ HCV.out ?_)
        try rw [Exit.noGoto_normal]
        go_end0
        exact ⟨rfl, workEnd HK.out HLV.out (fun q e => .inl e) HF.out HK1.out HK2.out HTL.out HT1.out HT2.out HS9.out HG9.out HST.out⟩
      · have h1' : decide ((t.length : Int) < n) = true := decide_eq_true h1
        have h2' : ((mr.at_ : Int) != 3) = false := by rw [h2]; rfl
        go_wp2_with ((with_reducible show wpList _ _ _ (Oper.mk _ (.convert _ _ _) _ _ _ _ :: _) _ _); refine wpList_conv_by rfl 54 9 (.tmp 74) rfl _ HCV.out ?_)
        try rw [Exit.noGoto_normal]
        go_end0
        exact ⟨rfl, workEnd HK.out HLV.out (fun q e => .inl e) HF.out HK1.out HK2.out HTL.out HT1.out HT2.out HS9.out HG9.out HST.out⟩
      · have h1' : decide ((t.length : Int) < n) = true := decide_eq_true h1
        have h2' : ((mr.at_ : Int) != 3) = true := by simpa using (by omega : ¬ (mr.at_ : Int) = 3)
        have h3' : ((mr.wrong : Int) == 0) = false := by simpa using h3
        go_wp2_with ((with_reducible show wpList _ _ _ (Oper.mk _ (.convert _ _ _) _ _ _ _ :: _) _ _); refine wpList_conv_by rfl 54 9 (.tmp 74) rfl _ HCV.out ?_)
        try rw [Exit.noGoto_normal]
        go_end0
        exact ⟨rfl, workEnd HK.out HLV.out (fun q e => .inl e) HF.out HK1.out HK2.out HTL.out HT1.out HT2.out HS9.out HG9.out HST.out⟩
end Go.Cm

/- The walks of a machine's step, and of what it tells of itself. Conditions: the machine is there. -/
namespace Go.Cm
open Go.RowKit Go.Proofs

/-- the whole text -/
noncomputable def textS (s : ByteArray) (pre : Nat) (z0 : IS) : Byts := (finS s pre z0).2.h.drop pre
theorem step_plain {s : ByteArray} {pre : Nat} {z0 : IS} (hi : IOk (8 * s.size) pre z0) {k : Nat} {t wt : Byts} (h : (playS s pre z0 k).2.h.drop pre = t ++ wt) {n : Nat} (hn : 1 ≤ n) (hst : n ≤ wt.length ∨ StopI (playS s pre z0 k)) :
    ((textS s pre z0).drop t.length).take n = wt.take n ∧ (wt = [] → (textS s pre z0).length ≤ t.length ∧ (finS s pre z0).1 = (playS s pre z0 k).1) ∧ (wt ≠ [] → t.length < (textS s pre z0).length) ∧ (StopI (playS s pre z0 k) → textS s pre z0 = t ++ wt ∧ finS s pre z0 = playS s pre z0 k) := by
  obtain ⟨c, hc⟩ := fin_app (N := numS s) (bs := bys s) (t8 s) hi k
  have hp := (playS_keep (s := s) hi k).1.1
  have htx : textS s pre z0 = t ++ wt ++ c := by
    show (finI _ _ _ _ _).2.h.drop pre = _
    rw [hc, ← h]
    show _ = List.drop pre (playI (numS s) (8 * s.size) pre (bys s) z0 k).2.h ++ c
    have hp2 : pre ≤ (playI (numS s) (8 * s.size) pre (bys s) z0 k).2.h.length := hp
    rw [List.drop_append, Nat.sub_eq_zero_of_le hp2, List.drop_zero]
  have hfin : StopI (playS s pre z0 k) → textS s pre z0 = t ++ wt ∧ finS s pre z0 = playS s pre z0 k := fun hs => by
    have e : finS s pre z0 = playS s pre z0 k := fin_of (t8 s) hi hs
    exact ⟨by unfold textS; rw [e, h], e⟩
  refine ⟨?_, fun hw => ?_, fun hw => ?_, hfin⟩
  · rcases hst with h1 | h1
    · rw [htx, List.append_assoc, List.drop_left, List.take_append_of_le_length h1]
    · rw [(hfin h1).1, List.drop_left]
  · have hs : StopI (playS s pre z0 k) := hst.resolve_left (by rw [hw, List.length_nil]; omega)
    obtain ⟨h1, h2⟩ := hfin hs
    rw [h1, h2, hw, List.append_nil]
    exact ⟨Nat.le_refl _, rfl⟩
  · rw [htx, List.length_append, List.length_append]
    have : 0 < wt.length := List.length_pos_iff.2 hw
    omega
/-- what a step answers -/
def RetStep (B gm gr gw : Nat) (vb : Value) (X : Nat → Prop) (s : ByteArray) (pre : Nat) (z0 : IS) (m : MV) (k0 : Nat) (n : Int) (w : World) (e : Ending) (w' : World) : Prop :=
  ∃ (c : ByteArray) (er : Nat), e = .returned (.tuple #[.string c, .int .i64 (er : Nat)]) ∧ (n < 1 → bys c = [] ∧ er = 1) ∧ (1 ≤ n → bys c = ((textS s pre z0).drop m.told).take n.toNat ∧ er = if (textS s pre z0).length ≤ m.told then (finS s pre z0).1 else 0) ∧
    After w w' B gm gr gw vb X s pre z0 m k0 (fun _ m' _ => m'.told = m.told + (bys c).length)
set_option maxRecDepth 100000 in
set_option maxHeartbeats 4000000 in
theorem stepM {w : World} {B gm gr gw pre k0 : Nat} {vb : Value} {X : Nat → Prop} {s : ByteArray} {z0 : IS} {m : MV} (hL : Live w B gm gr gw vb X s pre z0 m k0) (hi : IOk (8 * s.size) pre z0) (hz : z0.st = []) (hs : s.size ≤ 4000000) (hX : ∀ q, X q → q < w.heap.size) (n : Int) :
    Calls Tryz.prog 13 #[.pointer (some ⟨gm, 0, none⟩), .int .i64 n] w (RetStep B gm gr gw vb X s pre z0 m k0 n w) := by
  have HTH := Lib.hid (thereM hL.live.box)
  by_cases hn : n < 1
  · have hn' : decide (n < 1) = true := decide_eq_true hn
    have HL := Lib.hid hL
    clear hL hi
    go_enter Tryz.func13, Tryz.ntmps13
    go_wp2_with ((with_reducible go_at_call 25); (with_reducible refine HTH.out.mono ?_); rintro e w' ⟨rfl, hw⟩; rw [hw]; clear hw)
    go_ret2
    exact ⟨⟨#[]⟩, 1, rfl, fun _ => ⟨rfl, rfl⟩, fun h => by omega, vb, m, k0, Nat.le_refl _, HL.out, Fx.refl _ _, fun q e => .inl e, fun q e => .inl e, rfl⟩
  · have hn' : decide (n < 1) = false := decide_eq_false hn
    obtain ⟨N, rfl⟩ : ∃ N : Nat, n = N := ⟨n.toNat, by omega⟩
    have hN : 1 ≤ N := by omega
    have HN := Lib.hid hN
    have HWK := Lib.hid (workM hL hi hz hs hX (N : Int))
    have HI := Lib.hid hi
    clear hL hi hN hn
    go_enter Tryz.func13, Tryz.ntmps13
    go_upto_region 6 with (first | ((with_reducible go_at_call 25); (with_reducible refine HTH.out.mono ?_); rintro e w' ⟨rfl, hw⟩; rw [hw]; clear hw) | ((with_reducible go_at_call 28); (with_reducible refine HWK.out.mono ?_); rintro e w1 ⟨rfl, haf⟩; have HAF := Lib.hid haf; clear haf))
    obtain ⟨vb1, m1, k1, hk, ⟨hlv, t, ht, htx⟩, hfx, ho1, ho2, htl, hst⟩ := HAF.out
    have hst' : N ≤ (bys m1.waits).length ∨ StopI (playS s pre z0 k1) := hst.imp (fun h => by rw [bys_len]; omega) id
    obtain ⟨p1, p2, p3, -⟩ := step_plain HI.out htx HN.out hst'
    have HLV := Lib.hid hlv
    have c9 : w1.cell? ⟨gm, 9, none⟩ = some (.string m1.waits) := hlv.box.cell (by decide)
    have c10 : w1.cell? ⟨gm, 10, none⟩ = some (.int .i64 (m1.wrong : Nat)) := hlv.box.cell (by decide)
    have c8 : w1.cell? ⟨gm, 8, none⟩ = some (.int .i64 (m1.told : Nat)) := hlv.box.cell (by decide)
    have f9 := hlv.box.free 9
    have hgm := hlv.box.blk.2
    by_cases hw : m1.waits = ⟨#[]⟩
    · rw [hw] at c9
      have hwb : bys m1.waits = [] := by rw [hw]; rfl
      obtain ⟨q1, q2⟩ := p2 hwb
      have HQ : Hid (((textS s pre z0).drop m.told).take N = [] ∧ (if (textS s pre z0).length ≤ m.told then (finS s pre z0).1 else 0) = m1.wrong) := Lib.hid (by
        rw [← htl, ← ht, p1, hwb, if_pos q1, q2, hlv.wrong]
        exact ⟨by simp, rfl⟩)
      have HEND : Hid (After w w1 B gm gr gw vb X s pre z0 m k0 (fun _ m' _ => m'.told = m.told + 0)) := Lib.hid ⟨vb1, m1, k1, hk, ⟨hlv, t, ht, htx⟩, hfx, ho1, ho2, htl⟩
      clear hlv ht htx hfx ho1 ho2 htl hst hst' p1 p2 p3 hw hwb q1 q2 hk c8 f9
      go_wp2
      refine wp_region_ext (by kernel_rfl) (by kernel_rfl) ?_
      repeat (go_big_quiet_step (fail))
      refine wpQuiet_nil ?_
      rintro w2 ⟨y, rfl⟩
      go_wp2
      go_ret2
      obtain ⟨vb1, m1', k1, hk, ⟨hlv, htx⟩, hfx, ho1, ho2, htl⟩ := HEND.out
      have hb := ext_below w1 y
      refine ⟨⟨#[]⟩, m1.wrong, rfl, fun h => absurd h (by have := HN.out; omega), fun _ => ⟨HQ.out.1.symm, HQ.out.2.symm⟩, vb1, m1', k1, hk, ⟨hlv.up hb, htx⟩, hfx.trans (fx_below (S := FSet gm gr gw vb m.vs) hb), ho1, ho2, htl⟩
    · have hwb : bys m1.waits ≠ [] := fun e => hw (bys_inj e)
      have hwi : m1.waits.toList.isEmpty = false := by rw [← decide_eq_emptyBytes]; exact decide_eq_false hw
      have q3 := p3 hwb
      obtain ⟨K, hK⟩ : ∃ K, K = min N m1.waits.size := ⟨_, rfl⟩
      have hKs : K ≤ m1.waits.size := by omega
      obtain ⟨cr, hcr, hsl⟩ := slice_to m1.waits K hKs
      obtain ⟨cd, hcd, hsl2⟩ := slice_from m1.waits K hKs
      have HK := Lib.hid hK
      have HS1 := Lib.hid hsl
      have HS2 := Lib.hid hsl2
      have hcrl : (bys cr).length = K := by rw [hcr, List.length_take, bys_len]; omega
      have htk : (bys m1.waits).take N = bys cr := by
        rw [hcr, hK, ← bys_len]
        by_cases h : N ≤ (bys m1.waits).length
        · rw [Nat.min_eq_left h]
        · rw [Nat.min_eq_right (by omega), List.take_of_length_le (by omega), List.take_length]
      have HQ : Hid (((textS s pre z0).drop m.told).take N = bys cr ∧ (if (textS s pre z0).length ≤ m.told then (finS s pre z0).1 else 0) = 0) := Lib.hid (by
        rw [← htl, ← ht, p1, htk, if_neg (by omega)]
        exact ⟨rfl, rfl⟩)
      have HTX : Hid ((playS s pre z0 k1).2.h.drop pre = (t ++ bys cr) ++ bys cd) := Lib.hid (by rw [htx, hcr, hcd, List.append_assoc, List.take_append_drop])
      have HTL2 : Hid ((t ++ bys cr).length = m1.told + K) := Lib.hid (by rw [List.length_append, ht, hcrl])
      have HCL := Lib.hid hcrl
      obtain ⟨hS9, hG9⟩ := hlv.box.set 9 (.string cd) (m' := { m1 with waits := cd }) rfl
      obtain ⟨hL9, hF9⟩ := hlv.mset hS9 hG9 rfl
      have c89 : (w1.setCell ⟨gm, 9, none⟩ (.string cd)).cell? ⟨gm, 8, none⟩ = some (.int .i64 (m1.told : Nat)) := hL9.box.cell (by decide)
      have f89 := hL9.box.free 8
      have hgm9 := hL9.box.blk.2
      obtain ⟨hS8, hG8⟩ := hL9.box.set 8 (.int .i64 ((m1.told + K : Nat) : Int)) (m' := { m1 with waits := cd, told := m1.told + K }) rfl
      obtain ⟨hL8, hF8⟩ := hL9.mset hS8 hG8 rfl
      have HL8 := Lib.hid hL8
      have HF8 := Lib.hid (ffx_next hfx ho1 ho2 (hF9.trans hF8))
      have HO1 := Lib.hid ho1
      have HO2 := Lib.hid ho2
      have HKK := Lib.hid hk
      have HTT := Lib.hid htl
      have hbg := (playS_keep (s := s) HI.out k1).1.2
      have htb : m1.told + K ≤ 16777216 := by
        have h1 := congrArg List.length htx
        rw [List.length_drop, List.length_append, bys_len] at h1
        omega
      have hadd : wrap64 (((m1.told : Nat) : Int) + (K : Nat)) = ((m1.told + K : Nat) : Int) := by rw [IntWalk.wrap64_in _ ⟨by omega, by omega⟩]; omega
      clear hlv ht htx hfx ho1 ho2 htl hst hst' p1 p2 p3 hwb q3 hk hS9 hG9 hL9 hF9 hS8 hG8 hL8 hF8 htk hcrl hcr hcd hsl hsl2 hK hbg htb hKs
      go_upto_region 12 with (first | ((with_reducible show wpList _ _ _ (Oper.mk _ (.call _) _ _ _ _ :: _) _ _); refine wpList_min_by rfl (.tmp 27) (.tmp 32) 3 3 rfl N m1.waits.size K rfl rfl HK.out ?_) | ((with_reducible show wpList _ _ _ (Oper.mk _ (.slice _ _ _ _ _) _ _ _ _ :: _) _ _); refine wpList_slice_by rfl 9 (.tmp 37) none (some (.tmp 38)) none rfl _ (HS1.out _) ?_) | ((with_reducible show wpList _ _ _ (Oper.mk _ (.slice _ _ _ _ _) _ _ _ _ :: _) _ _); refine wpList_slice_by rfl 9 (.tmp 44) (some (.tmp 45)) none none rfl _ (HS2.out _) ?_))
      try rw [hadd]
      generalize hw4 : World.setCell (World.setCell w1 ⟨gm, 9, none⟩ _) ⟨gm, 8, none⟩ _ = w4
      have hw5 : (w1.setCell ⟨gm, 9, none⟩ (.string cd)).setCell ⟨gm, 8, none⟩ (.int .i64 ((m1.told + K : Nat) : Int)) = w4 := hw4
      rw [hw5] at HL8 HF8
      go_wp2
      go_ret2
      exact ⟨cr, 0, rfl, fun h => absurd h (by have := HN.out; omega), fun _ => ⟨HQ.out.1.symm, HQ.out.2.symm⟩, vb1, _, k1, HKK.out, ⟨HL8.out, _, HTL2.out, HTX.out⟩, HF8.out, HO1.out, HO2.out, by show m1.told + K = _; rw [HTT.out, HCL.out]⟩
end Go.Cm

/- The walks of Done, Out and End. Conditions: the machine is there. -/
namespace Go.Cm
open Go.RowKit Go.Proofs

/-- what Done answers -/
def RetDone (B gm gr gw : Nat) (vb : Value) (X : Nat → Prop) (s : ByteArray) (pre : Nat) (z0 : IS) (m : MV) (k0 : Nat) (w : World) (e : Ending) (w' : World) : Prop :=
  ∃ b : Bool, e = .returned (.bool b) ∧ (b = true ↔ (textS s pre z0).length ≤ m.told ∧ (finS s pre z0).1 = 0) ∧
    After w w' B gm gr gw vb X s pre z0 m k0 (fun _ m' k' => m'.told = m.told ∧ (b = true → playS s pre z0 k' = finS s pre z0))
set_option maxRecDepth 100000 in
set_option maxHeartbeats 4000000 in
theorem doneM {w : World} {B gm gr gw pre k0 : Nat} {vb : Value} {X : Nat → Prop} {s : ByteArray} {z0 : IS} {m : MV} (hL : Live w B gm gr gw vb X s pre z0 m k0) (hi : IOk (8 * s.size) pre z0) (hz : z0.st = []) (hs : s.size ≤ 4000000) (hX : ∀ q, X q → q < w.heap.size) :
    Calls Tryz.prog 15 #[.pointer (some ⟨gm, 0, none⟩)] w (RetDone B gm gr gw vb X s pre z0 m k0 w) := by
  have HTH := Lib.hid (thereM hL.live.box)
  have c9 : w.cell? ⟨gm, 9, none⟩ = some (.string m.waits) := hL.live.box.cell (by decide)
  have hgm := hL.live.box.blk.2
  by_cases hw : m.waits = ⟨#[]⟩
  · have HWK := Lib.hid (workM hL hi hz hs hX 1)
    have HI := Lib.hid hi
    rw [hw] at c9
    clear hL hi
    go_enter Tryz.func15, Tryz.ntmps15
    go_upto_region 4 with (first | ((with_reducible go_at_call 25); (with_reducible refine HTH.out.mono ?_); rintro e w' ⟨rfl, hw⟩; rw [hw]; clear hw) | ((with_reducible go_at_call 28); (with_reducible refine HWK.out.mono ?_); rintro e w1 ⟨rfl, haf⟩; have HAF := Lib.hid haf; clear haf))
    obtain ⟨vb1, m1, k1, hk, ⟨hlv, t, ht, htx⟩, hfx, ho1, ho2, htl, hst⟩ := HAF.out
    have hst' : 1 ≤ (bys m1.waits).length ∨ StopI (playS s pre z0 k1) := hst.imp (fun h => by rw [bys_len]; omega) id
    obtain ⟨p1, p2, p3, p4⟩ := step_plain HI.out htx (Nat.le_refl 1) hst'
    have hEND : ∀ b : Bool, (b = true → playS s pre z0 k1 = finS s pre z0) → After w w1 B gm gr gw vb X s pre z0 m k0 (fun _ m' k' => (m'.told = m.told ∧ (b = true → playS s pre z0 k' = finS s pre z0))) := fun b hb => ⟨vb1, m1, k1, hk, ⟨hlv, t, ht, htx⟩, hfx, ho1, ho2, htl, hb⟩
    have HEND := Lib.hid hEND
    have c9 : w1.cell? ⟨gm, 9, none⟩ = some (.string m1.waits) := hlv.box.cell (by decide)
    have c10 : w1.cell? ⟨gm, 10, none⟩ = some (.int .i64 (m1.wrong : Nat)) := hlv.box.cell (by decide)
    have hgm := hlv.box.blk.2
    by_cases hw1 : m1.waits = ⟨#[]⟩
    · have hwb : bys m1.waits = [] := by rw [hw1]; rfl
      obtain ⟨q1, q2⟩ := p2 hwb
      have hs1 : StopI (playS s pre z0 k1) := hst'.resolve_left (by rw [hwb]; exact Nat.not_succ_le_zero 0)
      have hq4 := (p4 hs1).2
      have hD : ((textS s pre z0).length ≤ m.told ∧ (finS s pre z0).1 = 0) ↔ m1.wrong = 0 := by
        rw [← htl, ← ht, hlv.wrong, q2]
        exact ⟨fun h => h.2, fun h => ⟨q1, h⟩⟩
      have HD := Lib.hid hD
      have HQ4 := Lib.hid hq4
      rw [hw1] at c9
      clear hlv ht htx hfx ho1 ho2 htl hst hst' p1 p2 p3 p4 hwb q1 q2 hk hs1 hD hq4 hEND
      by_cases h0 : m1.wrong = 0
      · rw [h0] at c10
        go_wp2
        go_ret
        exact ⟨true, rfl, ⟨fun _ => HD.out.2 h0, fun _ => rfl⟩, HEND.out true (fun _ => HQ4.out.symm)⟩
      · have h0' : ((m1.wrong : Int) == 0) = false := by simpa using h0
        go_wp2
        go_ret
        exact ⟨false, rfl, ⟨fun e => Bool.noConfusion e, fun e => absurd (HD.out.1 e) h0⟩, HEND.out false (fun e => Bool.noConfusion e)⟩
    · have hwb : bys m1.waits ≠ [] := fun e => hw1 (bys_inj e)
      have hwi : m1.waits.toList.isEmpty = false := by rw [← decide_eq_emptyBytes]; exact decide_eq_false hw1
      have q3 := p3 hwb
      have hD : ¬ ((textS s pre z0).length ≤ m.told ∧ (finS s pre z0).1 = 0) := fun h => by rw [← htl, ← ht] at h; omega
      have HD := Lib.hid hD
      clear hlv ht htx hfx ho1 ho2 htl hst hst' p1 p2 p3 p4 hwb q3 hk hD hEND
      go_wp2
      go_ret
      exact ⟨false, rfl, ⟨fun e => Bool.noConfusion e, fun e => absurd e HD.out⟩, HEND.out false (fun e => Bool.noConfusion e)⟩
  · have hwb : bys m.waits ≠ [] := fun e => hw (bys_inj e)
    have hwi : m.waits.toList.isEmpty = false := by rw [← decide_eq_emptyBytes]; exact decide_eq_false hw
    obtain ⟨t, ht, htx⟩ := hL.text
    obtain ⟨p1, p2, p3, p4⟩ := step_plain hi htx (Nat.le_refl 1) (.inl (List.length_pos_iff.2 hwb))
    have q3 := p3 hwb
    have hD : ¬ ((textS s pre z0).length ≤ m.told ∧ (finS s pre z0).1 = 0) := fun h => by rw [← ht] at h; omega
    have HD := Lib.hid hD
    have HL := Lib.hid hL
    clear hL hi ht htx p1 p2 p3 p4 q3 hwb hD
    go_enter Tryz.func15, Tryz.ntmps15
    go_wp2_with ((with_reducible go_at_call 25); (with_reducible refine HTH.out.mono ?_); rintro e w' ⟨rfl, hw⟩; rw [hw]; clear hw)
    go_ret
    exact ⟨false, rfl, ⟨fun e => Bool.noConfusion e, fun e => absurd e HD.out⟩, vb, m, k0, Nat.le_refl _, HL.out, Fx.refl _ _, fun q e => .inl e, fun q e => .inl e, rfl, fun e => Bool.noConfusion e⟩
/-- what End answers -/
def RetEnd (B gm gr gw : Nat) (vb : Value) (X : Nat → Prop) (s : ByteArray) (pre : Nat) (z0 : IS) (m : MV) (k0 : Nat) (w : World) (e : Ending) (w' : World) : Prop :=
  ∃ q : Nat, e = .returned (.int .i64 q) ∧ ((textS s pre z0).length ≤ m.told ∧ (finS s pre z0).1 = 0 → q = (finS s pre z0).2.p) ∧ (¬ ((textS s pre z0).length ≤ m.told ∧ (finS s pre z0).1 = 0) → q = 0) ∧ After w w' B gm gr gw vb X s pre z0 m k0 (fun _ m' _ => m'.told = m.told)
set_option maxRecDepth 100000 in
set_option maxHeartbeats 4000000 in
theorem endM {w : World} {B gm gr gw pre k0 : Nat} {vb : Value} {X : Nat → Prop} {s : ByteArray} {z0 : IS} {m : MV} (hL : Live w B gm gr gw vb X s pre z0 m k0) (hi : IOk (8 * s.size) pre z0) (hz : z0.st = []) (hs : s.size ≤ 4000000) (hX : ∀ q, X q → q < w.heap.size) :
    Calls Tryz.prog 17 #[.pointer (some ⟨gm, 0, none⟩)] w (RetEnd B gm gr gw vb X s pre z0 m k0 w) := by
  have HDN := Lib.hid (doneM hL hi hz hs hX)
  clear hL hi
  go_enter Tryz.func17, Tryz.ntmps17
  go_upto_region 1 with (fail)
  go_wp2_with (fail)
  (with_reducible refine HDN.out.mono ?_)
  rintro e w1 ⟨b, rfl, hb, vb1, m1, k1, hk, hlv, hfx, ho1, ho2, htl, hfin⟩
  have HB := Lib.hid hb
  cases b with
  | true =>
    have hD := hb.1 rfl
    have hp := hfin rfl
    have hfl := hlv.live.good (by rw [hp]; exact hD.2)
    have HAT := Lib.hid (atS hfl.f0.mach.rd)
    rw [hp] at HAT
    have c0 : w1.cell? ⟨gm, 0, none⟩ = some (.pointer (some ⟨gr, 0, none⟩)) := hfl.f0.mach.box.cell (by decide)
    have hgm := hfl.f0.mach.box.blk.2
    have HEND : Hid (After w w1 B gm gr gw vb X s pre z0 m k0 (fun _ m' _ => m'.told = m.told)) := Lib.hid ⟨vb1, m1, k1, hk, hlv, hfx, ho1, ho2, htl⟩
    have HD := Lib.hid hD
    clear hlv hfx ho1 ho2 htl hfin hk hb hD hp hfl
    go_wp2_with ((with_reducible go_at_call 29); (with_reducible refine HAT.out.mono ?_); rintro e w' ⟨rfl, hw⟩; rw [hw]; clear hw)
    go_ret
    exact ⟨_, rfl, fun _ => rfl, fun h => absurd HD.out h, HEND.out⟩
  | false =>
    have HEND : Hid (After w w1 B gm gr gw vb X s pre z0 m k0 (fun _ m' _ => m'.told = m.told)) := Lib.hid ⟨vb1, m1, k1, hk, hlv, hfx, ho1, ho2, htl⟩
    clear hlv hfx ho1 ho2 htl hfin hk hb
    go_wp2
    go_ret
    exact ⟨0, rfl, fun h => (by have := HB.out.2 h; cases this), fun _ => rfl, HEND.out⟩
end Go.Cm

/- The walks of a new machine, and of its starts. Conditions: as each says. -/
namespace Go.Cm
open Go.RowKit Go.Proofs

theorem stC_len (l : List (Nat × Nat)) : ∀ x ∈ l.map stC, x.length = 2 := by
  intro x hx; rw [List.mem_map] at hx; obtain ⟨y, -, rfl⟩ := hx; rfl
theorem stC_one (l : List (Nat × Nat)) : ∀ u ∈ (l.map stC).flatten, u.oneCell' = true := by
  intro u hu
  rw [List.mem_flatten] at hu
  obtain ⟨x, hx, hu⟩ := hu
  rw [List.mem_map] at hx
  obtain ⟨y, -, rfl⟩ := hx
  simp [stC] at hu
  rcases hu with rfl | rfl <;> rfl
/-- what Starts answers -/
def RetStarts (B gm gr gw : Nat) (vb : Value) (X : Nat → Prop) (s : ByteArray) (pre : Nat) (z0 : IS) (m : MV) (k0 : Nat) (w : World) (e : Ending) (w' : World) : Prop :=
  ∃ v : Value, e = .returned v ∧ ((textS s pre z0).length ≤ m.told ∧ (finS s pre z0).1 = 0 → OwnK 2 w' w.heap.size 49 v ((finS s pre z0).2.st.map stC)) ∧ (¬ ((textS s pre z0).length ≤ m.told ∧ (finS s pre z0).1 = 0) → v = .slice none 0 0) ∧ After w w' B gm gr gw vb X s pre z0 m k0 (fun vb' m' _ => m'.told = m.told ∧ ∀ q, v.ownBlock = some q → w.heap.size ≤ q ∧ ¬ FSet gm gr gw vb' m'.vs q)
set_option maxRecDepth 100000 in
set_option maxHeartbeats 4000000 in
theorem startsM {w : World} {B gm gr gw pre k0 : Nat} {vb : Value} {X : Nat → Prop} {s : ByteArray} {z0 : IS} {m : MV} (hL : Live w B gm gr gw vb X s pre z0 m k0) (hi : IOk (8 * s.size) pre z0) (hz : z0.st = []) (hs : s.size ≤ 4000000) (hX : ∀ q, X q → q < w.heap.size) :
    Calls Tryz.prog 16 #[.pointer (some ⟨gm, 0, none⟩)] w (RetStarts B gm gr gw vb X s pre z0 m k0 w) := by
  have HDN := Lib.hid (doneM hL hi hz hs hX)
  have HI := Lib.hid hi
  have HZ := Lib.hid hz
  have HS := Lib.hid hs
  clear hL hi hz hs
  go_enter Tryz.func16, Tryz.ntmps16
  go_upto_region 1 with (fail)
  go_wp2_with (fail)
  (with_reducible refine HDN.out.mono ?_)
  rintro e w1 ⟨b, rfl, hb, vb1, m1, k1, hk, hlv, hfx, ho1, ho2, htl, hfin⟩
  have HB := Lib.hid hb
  cases b with
  | true =>
    have hD := hb.1 rfl
    have hp := hfin rfl
    have hfl := hlv.live.good (by rw [hp]; exact hD.2)
    have hst := hfl.f0.sts
    have hstl : (playS s pre z0 k1).2.st.length ≤ 100000000 := by
      have h1 := playS_st (s := s) (pre := pre) HZ.out k1
      have h2 := hlv.live.kb
      have h3 := muI_le (T := 8 * s.size) z0
      have h4 := HS.out
      omega
    rw [hp] at hst hstl
    have HST := Lib.hid hst.sl
    have c11 : w1.cell? ⟨gm, 11, none⟩ = some m1.vs := hfl.f0.mach.box.cell (by decide)
    have hgm := hfl.f0.mach.box.blk.2
    have HLN : Hid (([] : List (List Value)).length + ((finS s pre z0).2.st.map stC).length ≤ 1000000000) := Lib.hid (by rw [List.length_map, List.length_nil]; omega)
    have HSZ : Hid (w.heap.size ≤ w1.heap.size) := Lib.hid hfx.size
    have HEND : Hid (∀ w5 (v : Value), w1.grownBy w5 none → (∀ q, v.ownBlock = some q → w1.heap.size ≤ q) → After w w5 B gm gr gw vb X s pre z0 m k0 (fun vb' m' _ => m'.told = m.told ∧ ∀ q, v.ownBlock = some q → w.heap.size ≤ q ∧ ¬ FSet gm gr gw vb' m'.vs q)) := Lib.hid (fun w5 v hg hv => by
      have hf : Fx (fun _ => False) w1 w5 := fx_grown hg (fun k e => by cases e)
      exact ⟨vb1, m1, k1, hk, ⟨hlv.live.fx hf (fun _ _ e => e) (fun _ e => e.elim), hlv.text⟩, hfx.trans (hf.mono (fun _ e => e.elim)), ho1, ho2, htl, fun q e => ⟨Nat.le_trans hfx.size (hv q e), fun z => by have h1 := hlv.live.lt q z; have h2 := hv q e; omega⟩⟩)
    have HD := Lib.hid hD
    clear hlv hfx ho1 ho2 htl hfin hk hb hD hp hfl hst hstl
    go_wp2_with (at_builtin; go_loud (refine wpList_appK 2 rfl (.const (.slice none 0 0)) (.tmp 9) 24 rfl w.heap.size 49 (.agg #[.int .i64 0, .int .i64 0]) 16 Tryz.underlying24 (by kernel_rfl) rfl (by decide) (by decide) (.slice none 0 0) [] rfl (OwnK.nil 2 w1 w.heap.size 49) m1.vs _ rfl HST.out (stC_len _) (stC_one _) HLN.out HSZ.out ?_); intro v5 w5 hown5 hg5 hk5; have HO5 := Lib.hid hown5; have HG5 := Lib.hid hg5; have HK5 := Lib.hid hk5; clear hown5 hg5 hk5)
    go_ret
    exact ⟨v5, rfl, fun _ => by simpa using HO5.out, fun h => absurd HD.out h, HEND.out _ v5 HG5.out (fun q e => (HK5.out q e).elim (fun h => by cases h) id)⟩
  | false =>
    have HEND : Hid (After w w1 B gm gr gw vb X s pre z0 m k0 (fun vb' m' _ => m'.told = m.told ∧ ∀ q, (Value.slice none 0 0).ownBlock = some q → w.heap.size ≤ q ∧ ¬ FSet gm gr gw vb' m'.vs q)) := Lib.hid ⟨vb1, m1, k1, hk, hlv, hfx, ho1, ho2, htl, fun q e => by cases e⟩
    clear hlv hfx ho1 ho2 htl hfin hk hb
    go_wp2
    go_ret
    exact ⟨_, rfl, fun h => (by have := HB.out.2 h; cases this), fun _ => rfl, HEND.out⟩
end Go.Cm

/- The walk of a new machine. Conditions: the text is not too long. -/
namespace Go.Cm
open Go.RowKit Go.Proofs

attribute [local irreducible] lastN
theorem newBad (s : ByteArray) (b : Int) (hs : s.size ≤ 4294967296) (hb : b < 0 ∨ 8 * (s.size : Int) < b) (w : World) : Calls Tryz.prog 22 #[.string s, .int .i64 b] w fun e w' => e = .returned (.tuple #[.pointer none, .int .i64 1]) ∧ w' = w := by
  by_cases h1 : b < 0
  · clear hb
    go_enter Tryz.func22, Tryz.ntmps22
    go_wp2
    go_ret2
    exact ⟨rfl, rfl⟩
  · have h2 : b > 8 * (s.size : Int) := hb.resolve_left h1
    clear hb
    go_enter Tryz.func22, Tryz.ntmps22
    go_wp2
    go_ret2
    exact ⟨rfl, rfl⟩
/-- where a machine begins -/
def zNew (t : Byts) (p : Nat) : IS := ⟨0, false, 0, [], [], p, lastN t, []⟩
theorem zNew_ok {s : ByteArray} {t : Byts} {p : Nat} (hp : p ≤ 8 * s.size) : IOk (8 * s.size) (lastN t).length (zNew t p) :=
  ⟨hp, Nat.zero_le _, fun h => absurd h (show ¬ (0 : Nat) = 1 by decide), Nat.zero_le _, .inr (show ¬ (0 : Nat) = 2 by decide), .inr (show ¬ (0 : Nat) = 2 by decide), Nat.le_refl _, by
    have h : (zNew t p).h.length - (lastN t).length = 0 := Nat.sub_self _
    rw [h]; exact Nat.zero_le _⟩
theorem playS_zero (s : ByteArray) (pre : Nat) (z0 : IS) : playS s pre z0 0 = (0, z0) := by unfold playS; rw [playI]
def mNew : MV := ⟨0, false, 0, .pointer none, .pointer none, 0, 0, ⟨#[]⟩, 0, .slice none 0 0, fnV 0⟩
/-- what New answers where the bit is one of the text's -/
def RetNewM (s : ByteArray) (t : Byts) (p : Nat) (w : World) (e : Ending) (w' : World) : Prop :=
  ∃ gm gr gw vb, e = .returned (.tuple #[.pointer (some ⟨gm, 0, none⟩), .int .i64 0]) ∧ (∀ X, Live w' w.heap.size gm gr gw vb X s (lastN t).length (zNew t p) mNew 0) ∧ Below w.heap.size w w'
set_option maxRecDepth 100000 in
set_option maxHeartbeats 4000000 in
theorem newM (s : ByteArray) (t : ByteArray) (p : Nat) (hs : s.size ≤ 4294967296) (hp : p ≤ 8 * s.size) (ht : t.size ≤ 50000000) (w : World) : Calls Tryz.prog 11 #[.string s, .int .i64 p, .string t] w (RetNewM s (bys t) p w) := by
  have HNS := Lib.hid (newS s p hs hp)
  have HNW := Lib.hid (newWn t ht)
  go_enter Tryz.func11, Tryz.ntmps11
  go_wp2_with (first | ((with_reducible go_at_call 22); (with_reducible refine (HNS.out _).mono ?_); rintro e w1 ⟨g, rfl, hx, hge, hb⟩; have HX1 := Lib.hid hx; have HB1 := Lib.hid hb; have HG1 := Lib.hid hge; clear hx hb hge) | ((with_reducible go_at_call 23); (with_reducible refine (HNW.out _).mono ?_); rintro e w2 ⟨gw, vb, rfl, hw, hgw, hgl, hb⟩; have HW2 := Lib.hid hw; have HGW := Lib.hid hgw; have HGL := Lib.hid hgl; have HB2 := Lib.hid hb; clear hw hgw hgl hb))
  go_ret2
  have hw2 := HW2.out
  obtain ⟨b, hV, hb1, hb2⟩ := hw2
  have hs1 := HB1.out.size
  have hs2 := HB2.out.size
  have hg := HG1.out
  have hgw := HGW.out
  have hg1 := HX1.out.lt
  have hbx := own_lit w2 w.heap.size #[.pointer (some ⟨g, 0, none⟩), .pointer (some ⟨gw, 0, none⟩), .int .i64 0, .bool false, .int .i64 0, .pointer none, .pointer none, .int .i64 0, .int .i64 0, .string ⟨#[]⟩, .int .i64 0, .slice none 0 0, .func (.func 24) #[] #[]] 76 (by simp) (Nat.le_trans hs1 hs2)
  have hal := below_alloc w2 (.cells #[.pointer (some ⟨g, 0, none⟩), .pointer (some ⟨gw, 0, none⟩), .int .i64 0, .bool false, .int .i64 0, .pointer none, .pointer none, .int .i64 0, .int .i64 0, .string ⟨#[]⟩, .int .i64 0, .slice none 0 0, .func (.func 24) #[] #[]] 76)
  have hvl : ∀ k, vb.ownBlock = some k → w1.heap.size ≤ k ∧ k < w2.heap.size := fun k e => hV.own.lt k e
  have hwin : WinAt w2 w.heap.size gw vb (lastN (bys t)) := ⟨b, ⟨hV.box.mono hs1, hV.own.mono hs1, hV.ne⟩, by rw [lastN_idem]; exact hb1, hb2⟩
  have hmach : Mach (w2.alloc (.cells #[.pointer (some ⟨g, 0, none⟩), .pointer (some ⟨gw, 0, none⟩), .int .i64 0, .bool false, .int .i64 0, .pointer none, .pointer none, .int .i64 0, .int .i64 0, .string ⟨#[]⟩, .int .i64 0, .slice none 0 0, .func (.func 24) #[] #[]] 76)) w.heap.size w2.heap.size g gw vb s p (lastN (bys t)) mNew := by
    refine ⟨?_, (HX1.out.up HB2.out).up hal, hwin.up hal, by omega, ?_, by omega, fun e => ?_, fun e => ?_, hg⟩
    · exact hbx
    · have := HGL.out; omega
    · have := (hvl _ e).2; omega
    · have := (hvl _ e).1; omega
  have hf0 : Full0 _ w.heap.size w2.heap.size g gw vb s p (lastN (bys t)) [] mNew := ⟨hmach, OwnK.nil 2 _ _ _, fun k e => by cases e⟩
  refine ⟨w2.heap.size, g, gw, vb, rfl, fun X => ⟨⟨Nat.zero_le _, by rw [playS_zero]; rfl, ?_, ⟨_, _, _, hf0⟩, fun _ => by rw [playS_zero]; exact ⟨hf0, ⟨rfl, rfl, fun _ => rfl, fun _ => rfl⟩, fun e => absurd e (show ¬ (0 : Nat) = 2 by decide)⟩⟩, [], rfl, ?_⟩, HB1.out.trans ((HB2.out.mono hs1).trans (hal.mono (Nat.le_trans hs1 hs2)))⟩
  · rw [playS_zero]
    show 0 = (lastN (bys t)).length - (lastN (bys t)).length
    rw [Nat.sub_self]
  · rw [playS_zero]
    show (lastN (bys t)).drop (lastN (bys t)).length = _
    rw [List.drop_length]; rfl
/-- .. and where it is none -/
theorem newMBad (s : ByteArray) (t : ByteArray) (b : Int) (hs : s.size ≤ 4294967296) (hb : b < 0 ∨ 8 * (s.size : Int) < b) (w : World) : Calls Tryz.prog 11 #[.string s, .int .i64 b, .string t] w fun e w' => e = .returned (.tuple #[.pointer none, .int .i64 1]) ∧ w' = w := by
  have HNS := Lib.hid (newBad s b hs hb)
  clear hb
  go_enter Tryz.func11, Tryz.ntmps11
  go_wp2_with ((with_reducible go_at_call 22); (with_reducible refine (HNS.out _).mono ?_); rintro e w1 ⟨rfl, hw⟩; rw [hw]; clear hw)
  go_ret2
  exact ⟨rfl, rfl⟩
end Go.Cm
