/- Texts of this claim, joined: walks of small functions and plain facts about them. Conditions: as each says. -/
import Derived.Test.YtmophmeiemfikaaGreatBP
import Derived.Test.YtmophmeiemfikaaGreatRows
import Derived.WalkKit
import Derived.WalkSpells
import Derived.WalkLawsBesides
import Derived.Deep.QuietTactic
import Derived.BigQuiet
import Derived.Lib.Hide
import Derived.Laws.Small
import Derived.Deep.LoopGhost
import Derived.Laws.BitsLemmas
import Derived.Deep.DeepCutAuto
import Derived.Deep.CutBlock
import Derived.Deep.CutRange
import Derived.Laws.IdiomStrings
import Derived.Laws.CopyOwn
import Derived.Laws.EntriesVeiled
import Derived.Shelf.Abstract
import Derived.WalkMore
/- The walk of a machine's work. Conditions: the machine is there. -/
namespace Go.Cm
open Go.RowKit Go.Proofs

/-- what a call leaves of a machine -/
def After (w w' : World) (B gm gr gw : Nat) (vb : Value) (X : Nat → Prop) (s : ByteArray) (pre : Nat) (z0 : IS) (m : MV) (k : Nat) (M : Value → MV → Nat → Prop) : Prop :=
  ∃ vb' m' k', k ≤ k' ∧ Live w' B gm gr gw vb' X s pre z0 m' k' ∧ Fx (FSet gm gr gw vb m.vs) w w' ∧ (∀ q, vb'.ownBlock = some q → vb.ownBlock = some q ∨ w.heap.size ≤ q) ∧ (∀ q, m'.vs.ownBlock = some q → m.vs.ownBlock = some q ∨ w.heap.size ≤ q) ∧ M vb' m' k'
theorem bys_inj {a b : ByteArray} (h : bys a = bys b) : a = b := by
  cases a; cases b; congr 1; exact Array.toList_inj.1 h
theorem workEnd {w wr w' : World} {B gm gr gw pre k0 k : Nat} {vb vb1 : Value} {X X1 : Nat → Prop} {s : ByteArray} {z0 : IS} {m mr : MV} {t t1 : Byts} {n : Int} (hk : k0 ≤ k) (hlv : LiveB wr B gm gr gw vb1 X1 s pre z0 mr k) (hX : ∀ q, X q → X1 q) (hf : Fx (FSet gm gr gw vb m.vs) w wr)
    (hk1 : ∀ q, vb1.ownBlock = some q → vb.ownBlock = some q ∨ w.heap.size ≤ q) (hk2 : ∀ q, mr.vs.ownBlock = some q → m.vs.ownBlock = some q ∨ w.heap.size ≤ q) (htl : mr.told = m.told) (ht1 : t1.length = m.told) (htx : (playS s pre z0 k).2.h.drop pre = t1 ++ t)
    (hS : MBox w' B gm gr gw { mr with waits := ⟨t.toArray⟩ }) (hG : wr.grownBy w' (some gm)) (hst : n ≤ (t.length : Int) ∨ StopI (playS s pre z0 k)) :
    After w w' B gm gr gw vb X s pre z0 m k0 (fun _ m' k' => m'.told = m.told ∧ (n ≤ m'.waits.size ∨ StopI (playS s pre z0 k'))) := by
  obtain ⟨h1, h2⟩ := hlv.mset hS hG rfl
  refine ⟨vb1, _, k, hk, ⟨h1.reX (fun q e => .inl (hX q e)), t1, ?_, ?_⟩, ffx_next hf hk1 hk2 h2, hk1, hk2, htl, ?_⟩
  · rw [ht1]; exact htl.symm
  · rw [htx, bys_mk]
  · refine hst.imp (fun e => ?_) id
    show n ≤ ((⟨t.toArray⟩ : ByteArray).size : Int)
    rw [← bys_len, bys_mk]; exact e
theorem LiveB.app {w w' : World} {B gm gr gw pre k : Nat} {vb bv v' : Value} {X : Nat → Prop} {s : ByteArray} {z0 : IS} {m : MV} (h : LiveB w B gm gr gw vb (fun q => X q ∨ bv.ownBlock = some q) s pre z0 m k) (hsp : ∀ q, FSet gm gr gw vb m.vs q → bv.ownBlock ≠ some q) (hg : w.grownBy w' bv.ownBlock) (hk : ∀ q, v'.ownBlock = some q → bv.ownBlock = some q ∨ w.heap.size ≤ q) :
    LiveB w' B gm gr gw vb (fun q => X q ∨ v'.ownBlock = some q) s pre z0 m k ∧ ∀ q, FSet gm gr gw vb m.vs q → v'.ownBlock ≠ some q := by
  have h1 := h.reX (X' := fun q => (X q ∨ bv.ownBlock = some q) ∨ v'.ownBlock = some q) (fun q e => e.elim .inl (fun e => (hk q e).imp .inr id))
  have h2 := h1.fx (fx_grown (S := fun q => bv.ownBlock = some q) hg (fun q e => e)) (fun q e z => hsp q e z) (fun q e => .inl (.inr e))
  refine ⟨h2.reX (fun q e => .inl (e.elim (fun e => .inl (.inl e)) .inr)), fun q e z => ?_⟩
  rcases hk q z with h3 | h3
  · exact hsp q e h3
  · have := h.lt q e; omega
theorem ar1 {M made zl yl cl pre r : Nat} (h1 : r = M - made) (h2 : made = zl - pre) (h3 : pre ≤ zl) (h4 : yl = zl + cl) (h5 : r < cl) : M < yl - pre := by omega
theorem ar2 {M made zl pre r : Nat} (h1 : r = M - made) (h2 : made = zl - pre) (h3 : made ≤ M) : M = zl - pre + r := by omega
theorem ar3 {M made zl yl pre r : Nat} (h1 : M = zl - pre + r) (h2 : made = zl - pre) (h3 : M < yl - pre) : made + r = min (pre + M) yl - pre := by omega
theorem ar4 {M zl pre r : Nat} (h1 : M = zl - pre + r) (h3 : pre ≤ zl) : zl ≤ pre + M ∧ pre - zl = 0 ∧ pre + M - zl = r := by omega
theorem ar5 {M zl pre r a b : Nat} (h1 : M = zl - pre + r) (h2 : zl - pre = a + b) (hM : M = 16777216) : b + r ≤ 4294967296 := by omega
theorem ar6 {M made zl yl cl pre r : Nat} (h1 : r = M - made) (h2 : made = zl - pre) (h3 : pre ≤ zl) (h4 : yl = zl + cl) (h5 : ¬ r < cl) (h6 : made ≤ M) : ¬ M < yl - pre ∧ made + cl = yl - pre := by omega
theorem ar7 {M zl yl cl pre a b : Nat} (h1 : ¬ M < yl - pre) (h2 : zl - pre = a + b) (h3 : pre ≤ zl) (h4 : yl = zl + cl) (hM : M = 16777216) : b + cl ≤ 4294967296 := by omega
set_option maxRecDepth 100000 in
set_option maxHeartbeats 4000000 in
theorem workM {w : World} {B gm gr gw pre k0 : Nat} {vb : Value} {X : Nat → Prop} {s : ByteArray} {z0 : IS} {m : MV} (hL : Live w B gm gr gw vb X s pre z0 m k0) (hi : IOk (8 * s.size) pre z0) (hz : z0.st = []) (hs : s.size ≤ 4000000) (hX : ∀ q, X q → q < w.heap.size) (n : Int) :
    Calls Tryz.prog 28 #[.pointer (some ⟨gm, 0, none⟩), .int .i64 n] w fun e w' => e = .returned (.tuple #[]) ∧ After w w' B gm gr gw vb X s pre z0 m k0 (fun _ m' k' => m'.told = m.told ∧ (n ≤ m'.waits.size ∨ StopI (playS s pre z0 k'))) := by
  have HI := Lib.hid hi
  have HZ := Lib.hid hz
  have HS := Lib.hid hs
  have HX := Lib.hid hX
  obtain ⟨hB, t0, ht0, htx⟩ := hL
  have HLB := Lib.hid hB
  have HTX := Lib.hid htx
  have HT0 := Lib.hid ht0
  have c9 : w.cell? ⟨gm, 9, none⟩ = some (.string m.waits) := hB.box.cell (by decide)
  have hgm := hB.box.blk.2
  have hws : m.waits.size ≤ 16777216 := by
    have h1 := (playS_keep (s := s) hi k0).1.2
    have h2 := congrArg List.length htx
    rw [List.length_drop, List.length_append, bys_len] at h2
    omega
  have hws2 : m.waits.size ≤ 100000000 := by omega
  clear hB htx ht0 hX hz hi
  go_enter Tryz.func28, Tryz.ntmps28
  go_step3
  go_wp2_with ((with_reducible show wpList _ _ _ (Oper.mk _ (.convert _ _ _) _ _ _ _ :: _) _ _); (refine wpList_bytes_own rfl 9 54 5 (.tmp 11) rfl Tryz.underlying9 Tryz.underlying54 Tryz.underlying5 m.waits rfl hws2 ?_); intro v1 w1 ho1 hb1; have HO1 := Lib.hid ho1; have HB1 := Lib.hid hb1; clear ho1 hb1)
  go_step3
  go_wp2
  go_loopg [4] (muI (8 * s.size) z0 + 2 - k0) (fun gk bv wr => ∃ (k : Nat) (vb1 : Value) (mr : MV) (t : Byts), k0 ≤ k ∧ OwnF wr w.heap.size 5 bv (bytesV t) ∧ LiveB wr B gm gr gw vb1 (fun q => X q ∨ bv.ownBlock = some q) s pre z0 mr k ∧ (∀ q, FSet gm gr gw vb1 mr.vs q → bv.ownBlock ≠ some q) ∧
     Fx (FSet gm gr gw vb m.vs) w wr ∧ (∀ q, vb1.ownBlock = some q → vb.ownBlock = some q ∨ w.heap.size ≤ q) ∧ (∀ q, mr.vs.ownBlock = some q → m.vs.ownBlock = some q ∨ w.heap.size ≤ q) ∧ mr.told = m.told ∧ (∃ t1 : Byts, t1.length = m.told ∧ (playS s pre z0 k).2.h.drop pre = t1 ++ t) ∧ gk = muI (8 * s.size) z0 + 2 - k)
  case atStart =>
    exact ⟨k0, vb, m, bys m.waits, Nat.le_refl _, HO1.out, (HLB.out.reX (fun q e => e.imp id (fun e => (HO1.out.lt q e).1))).up HB1.out, fun q e z => by have h1 := HLB.out.lt q e; have h2 := (HO1.out.lt q z).1; omega, fx_below HB1.out, fun q e => .inl e, fun q e => .inl e, rfl, ⟨t0, HT0.out, HTX.out⟩, rfl⟩
  case round =>
    obtain ⟨k, vb1, mr, t, hk, hbo, hlv, hsp, hf, hk1, hk2, htl, ⟨t1, ht1, htx⟩, rfl⟩ := hrel
    obtain ⟨ob, kb, qb, fb, hvb, hdb, -⟩ := hbo.sl
    rw [bytesV_length] at hvb hdb
    have hmb := hdb.len
    subst hvb
    have HBO := Lib.hid hbo
    have HLV := Lib.hid hlv
    have HSP := Lib.hid hsp
    have HF := Lib.hid hf
    have HK1 := Lib.hid hk1
    have HK2 := Lib.hid hk2
    have HTL := Lib.hid htl
    have HT1 := Lib.hid ht1
    have HT2 := Lib.hid htx
    have HK := Lib.hid hk
    have c2 : wr.cell? ⟨gm, 2, none⟩ = some (.int .i64 (mr.at_ : Nat)) := hlv.box.cell (by decide)
    have c9 : wr.cell? ⟨gm, 9, none⟩ = some (.string mr.waits) := hlv.box.cell (by decide)
    have c10 : wr.cell? ⟨gm, 10, none⟩ = some (.int .i64 (mr.wrong : Nat)) := hlv.box.cell (by decide)
    have f9 := hlv.box.free 9
    have f10 := hlv.box.free 10
    have hgm := hlv.box.blk.2
    clear hbo hsp hf hk1 hk2 htl ht1 htx hk hdb
    by_cases hgo : (t.length : Int) < n ∧ mr.at_ ≠ 3 ∧ mr.wrong = 0
    · obtain ⟨h1, h2, h3⟩ := hgo
      have hp0 : (playS s pre z0 k).1 = 0 := by rw [← hlv.wrong]; exact h3
      have hfull := hlv.good hp0
      have hmd : (playS s pre z0 k).2.md ≠ 3 := by rw [← hfull.rel.1]; exact h2
      have hns : ¬ StopI (playS s pre z0 k) := fun e => e.elim (fun e => e hp0) hmd
      obtain ⟨⟨hpre, hbig⟩, hok⟩ := playS_keep (s := s) (pre := pre) HI.out k
      obtain ⟨hiok, hmu⟩ := hok hp0
      have hmu2 := hmu.resolve_left hns
      have hkb : k + 1 ≤ muI (8 * s.size) z0 + 1 := by omega
      have hk8 : k ≤ 64000001 := by have := muI_le (T := 8 * s.size) z0; omega
      have HLZ : Hid ((playS s pre z0 k).2.st.length ≤ 100000000 ∧ (stepS s pre (playS s pre z0 k).2).2.st.length ≤ 100000000) := Lib.hid (by
        have q1 := playS_st (s := s) (pre := pre) HZ.out k
        have q2 : (stepS s pre (playS s pre z0 k).2).2.st.length ≤ (playS s pre z0 k).2.st.length + 1 := stI_st
        exact ⟨by omega, by omega⟩)
      obtain ⟨f, hvf, hent, hcall⟩ := makesM (X := fun q => X q ∨ (Value.slice ob t.length kb).ownBlock = some q) hfull hiok hmd (by omega) hlv.made (Nat.le_trans (playS_st HZ.out k) (Nat.le_trans hk8 (by decide))) (fun q e => e.elim (fun e => Nat.lt_of_lt_of_le (HX.out q e) HF.out.size) (fun e => (HBO.out.lt q e).2))
      have HC := Lib.hid hcall
      have c12 : wr.cell? ⟨gm, 12, none⟩ = some (.func (.func f) #[] #[]) := by rw [← hvf]; exact hlv.box.cell (by decide)
      have h1' : decide ((t.length : Int) < n) = true := decide_eq_true h1
      have h2' : ((mr.at_ : Int) != 3) = true := by simpa using (by omega : ¬ (mr.at_ : Int) = 3)
      rw [h3] at c10
      have HNS := Lib.hid hns
      have HKB := Lib.hid hkb
      have HMD := Lib.hid hlv.made
      have HPR := Lib.hid hpre
      have HBG := Lib.hid hbig
      have HBD := Lib.hid hlv.bad
      have HWR := Lib.hid (hlv.wrong.trans hp0)
      clear hlv hfull hiok hmd hns hpre hbig hok hmu hmu2 hkb hk8 hcall hvf hp0
      have HPE := Lib.hid (fun e => playS_err (s := s) (pre := pre) (z0 := z0) HNS.out e)
      have HPB := Lib.hid (fun M (hM : M = 16777216) e => playS_big (s := s) (pre := pre) (z0 := z0) hM HNS.out e)
      have HPO := Lib.hid (fun M (hM : M = 16777216) e => playS_ok (s := s) (pre := pre) (z0 := z0) hM HNS.out e)
      obtain ⟨Z, hZ⟩ : ∃ Z, Z = (playS s pre z0 k).2 := ⟨_, rfl⟩
      obtain ⟨Y, hY⟩ : ∃ Y, Y = stepS s pre Z := ⟨_, rfl⟩
      rw [← hZ] at HPE HPB HPO HC HMD HPR HBG HT2 HLZ
      rw [← hY] at HPE HPB HPO HLZ
      have HC2 : Hid (Calls Tryz.prog f #[.pointer (some ⟨gm, 0, none⟩)] wr (RetFull B gm gr gw vb1 (fun q => X q ∨ (Value.slice ob t.length kb).ownBlock = some q) s Z mr Y wr)) := Lib.hid (by rw [hY]; exact HC.out)
      clear HC hY hZ
      go_upto_region 3 with ((with_reducible refine HC2.out.mono ?_); rintro e w2 ⟨c, p2, H2, vb2, m2, rfl, hf2, ho1, ho2, hkp, hgd, hbd⟩; have HF2 := Lib.hid hf2; have HOA := Lib.hid ho1; have HOB := Lib.hid ho2; have HKP := Lib.hid hkp; have HGD := Lib.hid hgd; have HBD2 := Lib.hid hbd; clear hf2 ho1 ho2 hkp hgd hbd)
      have HFU := Lib.hid (HF.out.mono (S' := FSet gm gr gw vb m.vs) (fun _ e => e))
      have HBO2 := Lib.hid (HBO.out.fx HF2.out (fun q e z => HSP.out q z e))
      have HFX := Lib.hid (ffx_next HF.out HK1.out HK2.out HF2.out)
      have HSP2 : Hid (∀ q, FSet gm gr gw vb2 m2.vs q → (Value.slice ob t.length kb).ownBlock ≠ some q) := Lib.hid (fun q e z => by
        have hlt := (HBO.out.lt q z).2
        rcases e with (e | e | e | e) | e
        · exact HSP.out q (.inl (.inl e)) z
        · exact HSP.out q (.inl (.inr (.inl e))) z
        · exact HSP.out q (.inl (.inr (.inr (.inl e)))) z
        · rcases HOA.out q e with h | h
          · exact HSP.out q (.inl (.inr (.inr (.inr h)))) z
          · omega
        · rcases HOB.out q e with h | h
          · exact HSP.out q (.inr h) z
          · omega)
      have HK1' : Hid (∀ q, vb2.ownBlock = some q → vb.ownBlock = some q ∨ w.heap.size ≤ q) := Lib.hid (fun q e => by
        rcases HOA.out q e with h | h
        · exact HK1.out q h
        · exact .inr (Nat.le_trans HF.out.size h))
      have HK2' : Hid (∀ q, m2.vs.ownBlock = some q → m.vs.ownBlock = some q ∨ w.heap.size ≤ q) := Lib.hid (fun q e => by
        rcases HOB.out q e with h | h
        · exact HK2.out q h
        · exact .inr (Nat.le_trans HF.out.size h))
      have HTL2 : Hid (m2.told = m.told) := Lib.hid (HKP.out.2.1.trans HTL.out)
      have HMD2 : Hid (m2.made = Z.h.length - pre) := Lib.hid (HKP.out.1.trans HMD.out)
      clear HFU
      by_cases he : Y.1 = 0
      · have he2 : ((Y.1 : Int) != 0) = false := by rw [he]; rfl
        obtain ⟨hfull, hyh⟩ := HGD.out he
        have HFULL := Lib.hid hfull
        have HYH := Lib.hid hyh
        have c7 : w2.cell? ⟨gm, 7, none⟩ = some (.int .i64 (m2.made : Nat)) := hfull.f0.mach.box.cell (by decide)
        have g2 := hfull.f0.mach.box.blk.2
        obtain ⟨r, hr⟩ : ∃ r, r = 16777216 - m2.made := ⟨_, rfl⟩
        have hmle : m2.made ≤ 16777216 := by rw [HMD2.out]; exact HBG.out
        have hri : wrap64 ((16777216 : Int) - (m2.made : Nat)) = (r : Nat) := by rw [IntWalk.wrap64_in _ ⟨by omega, by omega⟩]; omega
        have HR := Lib.hid hr
        have HMLE := Lib.hid hmle
        clear hfull hyh hr hmle
        go_upto_region 6 with (fail)
        rw [hri]
        by_cases hbg : r < c.size
        · have hb2 : decide ((c.size : Int) > (r : Nat)) = true := by rw [decide_eq_true_eq]; omega
          obtain ⟨cr, hcr, hsl⟩ := slice_to c r (by omega)
          have HSL := Lib.hid hsl
          clear hsl
          have hcrs : cr.size = r := by rw [← bys_len, hcr, List.length_take, bys_len]; omega
          have HCR := Lib.hid hcr
          have HCS := Lib.hid hcrs
          have hF0 := HFULL.out.f0
          have c10 : w2.cell? ⟨gm, 10, none⟩ = some (.int .i64 (m2.wrong : Nat)) := hF0.mach.box.cell (by decide)
          have f10 := hF0.mach.box.free 10
          obtain ⟨hS3, hG3⟩ := hF0.mach.box.set 10 (.int .i64 3) (m' := { m2 with wrong := 3 }) rfl
          obtain ⟨hU3, hF3⟩ := hF0.mset hS3 hG3 rfl
          have c73 : (w2.setCell ⟨gm, 10, none⟩ (.int .i64 3)).cell? ⟨gm, 7, none⟩ = some (.int .i64 (m2.made : Nat)) := hU3.mach.box.cell (by decide)
          have f73 := hU3.mach.box.free 7
          have g3 := hU3.mach.box.blk.2
          obtain ⟨hS4, hG4⟩ := hU3.mach.box.set 7 (.int .i64 ((m2.made + r : Nat) : Int)) (m' := { m2 with wrong := 3, made := m2.made + r }) rfl
          obtain ⟨hU4, hF4⟩ := hU3.mset hS4 hG4 rfl
          have HU4 := Lib.hid hU4
          have HF4 := Lib.hid (hF3.trans hF4)
          have hadd : wrap64 (((m2.made : Nat) : Int) + (r : Nat)) = ((m2.made + r : Nat) : Int) := by
            have h1 := HR.out
            have h2 := HMLE.out
            rw [IntWalk.wrap64_in _ ⟨by omega, by omega⟩]; omega
          clear hS3 hG3 hU3 hF3 hS4 hG4 hU4 hF4 hF0
          go_upto_region 10 with ((with_reducible show wpList _ _ _ (Oper.mk _ (.slice _ _ _ _ _) _ _ _ _ :: _) _ _); refine wpList_slice_by rfl 9 (.tmp 55) none (some (.tmp 56)) none rfl _ (HSL.out _) ?_)
          try rw [hadd]
          have HF4' := Lib.hid (ffx_next (vs' := m2.vs) HFX.out (fun q e => HK1'.out q e) (fun q e => HK2'.out q e) HF4.out)
          have HBO4 := Lib.hid (HBO2.out.fx HF4.out (fun q e z => HSP2.out q z e))
          generalize hw4 : World.setCell (World.setCell w2 ⟨gm, 10, none⟩ _) ⟨gm, 7, none⟩ _ = w4
          have hw5 : (w2.setCell ⟨gm, 10, none⟩ (.int .i64 3)).setCell ⟨gm, 7, none⟩ (.int .i64 ((m2.made + r : Nat) : Int)) = w4 := hw4
          rw [hw5] at HU4 HF4 HF4' HBO4
          obtain ⟨M, hM⟩ : ∃ M : Nat, M = 16777216 := ⟨_, rfl⟩
          rw [← hM] at HR HMLE
          have h4 := congrArg List.length HYH.out
          rw [List.length_append, bys_len] at h4
          have hMY := ar1 HR.out HMD2.out HPR.out h4 hbg
          have hMh := ar2 HR.out HMD2.out HMLE.out
          have hP := HPB.out M hM he hMY
          have hL4 : LiveB w4 B gm gr gw vb2 (fun q => X q ∨ (Value.slice ob t.length kb).ownBlock = some q) s pre z0 { m2 with wrong := 3, made := m2.made + r } (k + 1) := by
            refine ⟨HKB.out, by rw [hP], ?_, ⟨_, _, _, HU4.out, HLZ.out.2⟩, fun e => by rw [hP] at e; exact absurd e (show ¬ (3 : Nat) = 0 by decide)⟩
            rw [hP]
            show m2.made + r = (List.take (pre + M) Y.2.h).length - pre
            rw [List.length_take]
            exact ar3 hMh HMD2.out hMY
          obtain ⟨q1, q2, q3⟩ := ar4 hMh HPR.out
          have hTX : (playS s pre z0 (k + 1)).2.h.drop pre = t1 ++ (t ++ bys cr) := by
            rw [hP, HCR.out]
            show (List.take (pre + M) Y.2.h).drop pre = _
            rw [HYH.out, List.take_append, List.take_of_length_le q1, List.drop_append, q2, List.drop_zero, HT2.out, List.append_assoc, q3]
          have HL4 := Lib.hid hL4
          have HTX4 := Lib.hid hTX
          have HLN : Hid ((bytesV t).length + cr.size ≤ 4294967296) := Lib.hid (by
            have h1 := congrArg List.length HT2.out
            rw [List.length_drop, List.length_append] at h1
            rw [bytesV_length, hcrs]
            exact ar5 hMh h1 hM)
          have HSZ : Hid (w.heap.size ≤ w4.heap.size) := Lib.hid HF4'.out.size
          clear hL4 hTX hP hMY hMh hadd HR HMLE hM
          go_wp2_with (at_builtin; go_loud (refine wpList_app_strF rfl (.tmp 70) (.tmp 71) 54 9 rfl w.heap.size 5 (.int .u8 0) 1 Tryz.underlying54 Tryz.underlying9 (by kernel_rfl) rfl (by decide) (.slice ob t.length kb) (bytesV t) rfl HBO4.out cr rfl HLN.out HSZ.out ?_); intro v5 w5 hown5 hg5 hk5; have HO5 := Lib.hid hown5; have HG5 := Lib.hid hg5; have HK5 := Lib.hid hk5; clear hown5 hg5 hk5)
          obtain ⟨hl5, hs5⟩ := HL4.out.app HSP2.out HG5.out HK5.out
          go_roundg (muI (8 * s.size) z0 + 2 - (k + 1))
          case measure => have := HKB.out; omega
          case rel =>
            refine ⟨k + 1, vb2, _, t ++ bys cr, Nat.le_succ_of_le HK.out, ?_, hl5, hs5, HF4'.out.grown HG5.out (fun q e => .inr (HBO.out.lt q e).1), HK1'.out, HK2'.out, HTL2.out, ⟨t1, HT1.out, HTX4.out⟩, rfl⟩
            rw [bytesV_append]; exact HO5.out
        · have hb2 : decide ((c.size : Int) > (r : Nat)) = false := by rw [decide_eq_false_iff_not]; omega
          have hF0 := HFULL.out.f0
          have f7 := hF0.mach.box.free 7
          have h4 := congrArg List.length HYH.out
          rw [List.length_append, bys_len] at h4
          have HM4 := Lib.hid h4
          have hadd : wrap64 (((m2.made : Nat) : Int) + (c.size : Nat)) = ((m2.made + c.size : Nat) : Int) := by
            have h1 := HR.out
            have h2 := HMLE.out
            rw [IntWalk.wrap64_in _ ⟨by omega, by omega⟩]; omega
          obtain ⟨hS4, hG4⟩ := hF0.mach.box.set 7 (.int .i64 ((m2.made + c.size : Nat) : Int)) (m' := { m2 with made := m2.made + c.size }) rfl
          have HU4 := Lib.hid (HFULL.out.mset hS4 hG4 rfl rfl rfl rfl rfl rfl rfl)
          have HF4 := Lib.hid (hF0.mset hS4 hG4 rfl).2
          clear hS4 hG4 hF0 h4
          go_upto_region 10 with (fail)
          try rw [hadd]
          have HF4' := Lib.hid (ffx_next (vs' := m2.vs) HFX.out (fun q e => HK1'.out q e) (fun q e => HK2'.out q e) HF4.out)
          have HBO4 := Lib.hid (HBO2.out.fx HF4.out (fun q e z => HSP2.out q z e))
          generalize hw4 : World.setCell w2 ⟨gm, 7, none⟩ _ = w4
          have hw5 : w2.setCell ⟨gm, 7, none⟩ (.int .i64 ((m2.made + c.size : Nat) : Int)) = w4 := hw4
          rw [hw5] at HU4 HF4 HF4' HBO4
          obtain ⟨M, hM⟩ : ∃ M : Nat, M = 16777216 := ⟨_, rfl⟩
          rw [← hM] at HR HMLE
          obtain ⟨hMY, hms⟩ := ar6 HR.out HMD2.out HPR.out HM4.out hbg HMLE.out
          have hP := HPO.out M hM he hMY
          have hL4 : LiveB w4 B gm gr gw vb2 (fun q => X q ∨ (Value.slice ob t.length kb).ownBlock = some q) s pre z0 { m2 with made := m2.made + c.size } (k + 1) := by
            refine ⟨HKB.out, ?_, by rw [hP]; exact hms, ⟨_, _, _, HU4.out.f0, HLZ.out.2⟩, fun _ => by rw [hP]; exact HU4.out⟩
            rw [hP, he]
            exact HKP.out.2.2.2.trans HWR.out
          have hTX : (playS s pre z0 (k + 1)).2.h.drop pre = t1 ++ (t ++ bys c) := by
            rw [hP, HYH.out, List.drop_append, show pre - Z.h.length = 0 from Nat.sub_eq_zero_of_le HPR.out, List.drop_zero, HT2.out, List.append_assoc]
          have HL4 := Lib.hid hL4
          have HTX4 := Lib.hid hTX
          have HLN : Hid ((bytesV t).length + c.size ≤ 4294967296) := Lib.hid (by
            have h1 := congrArg List.length HT2.out
            rw [List.length_drop, List.length_append] at h1
            rw [bytesV_length]
            exact ar7 hMY h1 HPR.out HM4.out hM)
          have HSZ : Hid (w.heap.size ≤ w4.heap.size) := Lib.hid HF4'.out.size
          clear hL4 hTX hP hMY hms hadd HR HMLE hM
          go_wp2_with (at_builtin; go_loud (refine wpList_app_strF rfl (.tmp 70) (.tmp 71) 54 9 rfl w.heap.size 5 (.int .u8 0) 1 Tryz.underlying54 Tryz.underlying9 (by kernel_rfl) rfl (by decide) (.slice ob t.length kb) (bytesV t) rfl HBO4.out c rfl HLN.out HSZ.out ?_); intro v5 w5 hown5 hg5 hk5; have HO5 := Lib.hid hown5; have HG5 := Lib.hid hg5; have HK5 := Lib.hid hk5; clear hown5 hg5 hk5)
          obtain ⟨hl5, hs5⟩ := HL4.out.app HSP2.out HG5.out HK5.out
          go_roundg (muI (8 * s.size) z0 + 2 - (k + 1))
          case measure => have := HKB.out; omega
          case rel =>
            refine ⟨k + 1, vb2, _, t ++ bys c, Nat.le_succ_of_le HK.out, ?_, hl5, hs5, HF4'.out.grown HG5.out (fun q e => .inr (HBO.out.lt q e).1), HK1'.out, HK2'.out, HTL2.out, ⟨t1, HT1.out, HTX4.out⟩, rfl⟩
            rw [bytesV_append]; exact HO5.out
      · have he2 : ((Y.1 : Int) != 0) = true := by simpa using he
        have hB2 := HBD2.out he
        have c10 : w2.cell? ⟨gm, 10, none⟩ = some (.int .i64 (m2.wrong : Nat)) := hB2.mach.box.cell (by decide)
        have f10 := hB2.mach.box.free 10
        have g2 := hB2.mach.box.blk.2
        obtain ⟨hS3, hG3⟩ := hB2.mach.box.set 10 (.int .i64 (Y.1 : Nat)) (m' := { m2 with wrong := Y.1 }) rfl
        obtain ⟨hU3, hF3⟩ := hB2.mset hS3 hG3 rfl
        have HU3 := Lib.hid hU3
        have HF3 := Lib.hid hF3
        clear hS3 hG3 hU3 hF3 hB2
        go_upto_region 11 with (fail)
        have HF3' := Lib.hid (ffx_next (vs' := m2.vs) HFX.out (fun q e => HK1'.out q e) (fun q e => HK2'.out q e) HF3.out)
        have HBO3 := Lib.hid (HBO2.out.fx HF3.out (fun q e z => HSP2.out q z e))
        generalize w2.setCell ⟨gm, 10, none⟩ (.int .i64 (Y.1 : Nat)) = w3 at *
        have HCV := Lib.hid (run_bytes_string (P := Tryz.prog) w3 54 9 5 Tryz.underlying54 Tryz.underlying5 Tryz.underlying9 (.slice ob t.length kb) t HBO3.out.sl)
        have c9 : w3.cell? ⟨gm, 9, none⟩ = some (.string m2.waits) := HU3.out.mach.box.cell (by decide)
        have f9 := HU3.out.mach.box.free 9
        have g3 := HU3.out.mach.box.blk.2
        obtain ⟨hS9, hG9⟩ := HU3.out.mach.box.set 9 (.string ⟨t.toArray⟩) (m' := { m2 with wrong := Y.1, waits := ⟨t.toArray⟩ }) rfl
        have HS9 := Lib.hid hS9
        have HG9 := Lib.hid hG9
        have HL3 : Hid (LiveB w3 B gm gr gw vb2 X s pre z0 { m2 with wrong := Y.1 } (k + 1)) := Lib.hid ⟨HKB.out, by rw [HPE.out he], by rw [HPE.out he]; exact HMD2.out, ⟨_, _, _, HU3.out, HLZ.out.1⟩, fun e => by rw [HPE.out he] at e; exact absurd e he⟩
        clear hS9 hG9
        go_wp2_with ((with_reducible show wpList _ _ _ (Oper.mk _ (.convert _ _ _) _ _ _ _ :: _) _ _); refine wpList_conv_by rfl 54 9 (.tmp 74) rfl _ HCV.out ?_)
        try rw [Exit.noGoto_normal]
        go_end0
        exact ⟨rfl, workEnd (Nat.le_succ_of_le HK.out) HL3.out (fun q e => e) HF3'.out HK1'.out HK2'.out HTL2.out HT1.out (by rw [HPE.out he]; exact HT2.out) HS9.out HG9.out (.inr (.inl (by rw [HPE.out he]; exact he)))⟩
    · have hst : n ≤ (t.length : Int) ∨ StopI (playS s pre z0 k) := by
        by_cases h1 : n ≤ (t.length : Int)
        · exact .inl h1
        · refine .inr ?_
          by_cases h2 : (playS s pre z0 k).1 = 0
          · refine .inr ?_
            apply Classical.byContradiction
            intro h3
            exact hgo ⟨by omega, by rw [(hlv.good h2).rel.1]; exact h3, by rw [hlv.wrong]; exact h2⟩
          · exact .inl h2
      have HST := Lib.hid hst
      have HCV := Lib.hid (run_bytes_string (P := Tryz.prog) wr 54 9 5 Tryz.underlying54 Tryz.underlying5 Tryz.underlying9 (.slice ob t.length kb) t HBO.out.sl)
      obtain ⟨hS9, hG9⟩ := hlv.box.set 9 (.string ⟨t.toArray⟩) (m' := { mr with waits := ⟨t.toArray⟩ }) rfl
      have HS9 := Lib.hid hS9
      have HG9 := Lib.hid hG9
      clear hlv hst hS9 hG9
      rcases (show ¬ ((t.length : Int) < n) ∨ ((t.length : Int) < n ∧ mr.at_ = 3) ∨ ((t.length : Int) < n ∧ mr.at_ ≠ 3 ∧ mr.wrong ≠ 0) by omega) with h1 | ⟨h1, h2⟩ | ⟨h1, h2, h3⟩
      · have h1' : decide ((t.length : Int) < n) = false := decide_eq_false h1
        go_wp2_with ((with_reducible show wpList _ _ _ (Oper.mk _ (.convert _ _ _) _ _ _ _ :: _) _ _); refine wpList_conv_by rfl 54 9 (.tmp 74) rfl _ HCV.out ?_)
        try rw [Exit.noGoto_normal]
        go_end0
        exact ⟨rfl, workEnd HK.out HLV.out (fun q e => .inl e) HF.out HK1.out HK2.out HTL.out HT1.out HT2.out HS9.out HG9.out HST.out⟩
      · have h1' : decide ((t.length : Int) < n) = true := decide_eq_true h1
        have h2' : ((mr.at_ : Int) != 3) = false := by rw [h2]; rfl
        go_wp2_with ((with_reducible show wpList _ _ _ (Oper.mk _ (.convert _ _ _) _ _ _ _ :: _) _ _); refine wpList_conv_by rfl 54 9 (.tmp 74) rfl _ HCV.out ?_)
        try rw [Exit.noGoto_normal]
        go_end0
        exact ⟨rfl, workEnd HK.out HLV.out (fun q e => .inl e) HF.out HK1.out HK2.out HTL.out HT1.out HT2.out HS9.out HG9.out HST.out⟩
      · have h1' : decide ((t.length : Int) < n) = true := decide_eq_true h1
        have h2' : ((mr.at_ : Int) != 3) = true := by simpa using (by omega : ¬ (mr.at_ : Int) = 3)
        have h3' : ((mr.wrong : Int) == 0) = false := by simpa using h3
        go_wp2_with ((with_reducible show wpList _ _ _ (Oper.mk _ (.convert _ _ _) _ _ _ _ :: _) _ _); refine wpList_conv_by rfl 54 9 (.tmp 74) rfl _ HCV.out ?_)
        try rw [Exit.noGoto_normal]
        go_end0
        exact ⟨rfl, workEnd HK.out HLV.out (fun q e => .inl e) HF.out HK1.out HK2.out HTL.out HT1.out HT2.out HS9.out HG9.out HST.out⟩
end Go.Cm

/- The walks of a machine's step, and of what it tells of itself. Conditions: the machine is there. -/
namespace Go.Cm
open Go.RowKit Go.Proofs

/-- the whole text -/
noncomputable def textS (s : ByteArray) (pre : Nat) (z0 : IS) : Byts := (finS s pre z0).2.h.drop pre
theorem step_plain {s : ByteArray} {pre : Nat} {z0 : IS} (hi : IOk (8 * s.size) pre z0) {k : Nat} {t wt : Byts} (h : (playS s pre z0 k).2.h.drop pre = t ++ wt) {n : Nat} (hn : 1 ≤ n) (hst : n ≤ wt.length ∨ StopI (playS s pre z0 k)) :
    ((textS s pre z0).drop t.length).take n = wt.take n ∧ (wt = [] → (textS s pre z0).length ≤ t.length ∧ (finS s pre z0).1 = (playS s pre z0 k).1) ∧ (wt ≠ [] → t.length < (textS s pre z0).length) ∧ (StopI (playS s pre z0 k) → textS s pre z0 = t ++ wt ∧ finS s pre z0 = playS s pre z0 k) := by
  obtain ⟨c, hc⟩ := fin_app (N := numS s) (bs := bys s) (t8 s) hi k
  have hp := (playS_keep (s := s) hi k).1.1
  have htx : textS s pre z0 = t ++ wt ++ c := by
    show (finI _ _ _ _ _).2.h.drop pre = _
    rw [hc, ← h]
    show _ = List.drop pre (playI (numS s) (8 * s.size) pre (bys s) z0 k).2.h ++ c
    have hp2 : pre ≤ (playI (numS s) (8 * s.size) pre (bys s) z0 k).2.h.length := hp
    rw [List.drop_append, Nat.sub_eq_zero_of_le hp2, List.drop_zero]
  have hfin : StopI (playS s pre z0 k) → textS s pre z0 = t ++ wt ∧ finS s pre z0 = playS s pre z0 k := fun hs => by
    have e : finS s pre z0 = playS s pre z0 k := fin_of (t8 s) hi hs
    exact ⟨by unfold textS; rw [e, h], e⟩
  refine ⟨?_, fun hw => ?_, fun hw => ?_, hfin⟩
  · rcases hst with h1 | h1
    · rw [htx, List.append_assoc, List.drop_left, List.take_append_of_le_length h1]
    · rw [(hfin h1).1, List.drop_left]
  · have hs : StopI (playS s pre z0 k) := hst.resolve_left (by rw [hw, List.length_nil]; omega)
    obtain ⟨h1, h2⟩ := hfin hs
    rw [h1, h2, hw, List.append_nil]
    exact ⟨Nat.le_refl _, rfl⟩
  · rw [htx, List.length_append, List.length_append]
    have : 0 < wt.length := List.length_pos_iff.2 hw
    omega
/-- what a step answers -/
def RetStep (B gm gr gw : Nat) (vb : Value) (X : Nat → Prop) (s : ByteArray) (pre : Nat) (z0 : IS) (m : MV) (k0 : Nat) (n : Int) (w : World) (e : Ending) (w' : World) : Prop :=
  ∃ (c : ByteArray) (er : Nat), e = .returned (.tuple #[.string c, .int .i64 (er : Nat)]) ∧ (n < 1 → bys c = [] ∧ er = 1) ∧ (1 ≤ n → bys c = ((textS s pre z0).drop m.told).take n.toNat ∧ er = if (textS s pre z0).length ≤ m.told then (finS s pre z0).1 else 0) ∧
    After w w' B gm gr gw vb X s pre z0 m k0 (fun _ m' _ => m'.told = m.told + (bys c).length)
set_option maxRecDepth 100000 in
set_option maxHeartbeats 4000000 in
theorem stepM {w : World} {B gm gr gw pre k0 : Nat} {vb : Value} {X : Nat → Prop} {s : ByteArray} {z0 : IS} {m : MV} (hL : Live w B gm gr gw vb X s pre z0 m k0) (hi : IOk (8 * s.size) pre z0) (hz : z0.st = []) (hs : s.size ≤ 4000000) (hX : ∀ q, X q → q < w.heap.size) (n : Int) :
    Calls Tryz.prog 13 #[.pointer (some ⟨gm, 0, none⟩), .int .i64 n] w (RetStep B gm gr gw vb X s pre z0 m k0 n w) := by
  have HTH := Lib.hid (thereM hL.live.box)
  by_cases hn : n < 1
  · have hn' : decide (n < 1) = true := decide_eq_true hn
    have HL := Lib.hid hL
    clear hL hi
    go_enter Tryz.func13, Tryz.ntmps13
    go_wp2_with ((with_reducible go_at_call 25); (with_reducible refine HTH.out.mono ?_); rintro e w' ⟨rfl, hw⟩; rw [hw]; clear hw)
    go_ret2
    exact ⟨⟨#[]⟩, 1, rfl, fun _ => ⟨rfl, rfl⟩, fun h => by omega, vb, m, k0, Nat.le_refl _, HL.out, Fx.refl _ _, fun q e => .inl e, fun q e => .inl e, rfl⟩
  · have hn' : decide (n < 1) = false := decide_eq_false hn
    obtain ⟨N, rfl⟩ : ∃ N : Nat, n = N := ⟨n.toNat, by omega⟩
    have hN : 1 ≤ N := by omega
    have HN := Lib.hid hN
    have HWK := Lib.hid (workM hL hi hz hs hX (N : Int))
    have HI := Lib.hid hi
    clear hL hi hN hn
    go_enter Tryz.func13, Tryz.ntmps13
    go_upto_region 6 with (first | ((with_reducible go_at_call 25); (with_reducible refine HTH.out.mono ?_); rintro e w' ⟨rfl, hw⟩; rw [hw]; clear hw) | ((with_reducible go_at_call 28); (with_reducible refine HWK.out.mono ?_); rintro e w1 ⟨rfl, haf⟩; have HAF := Lib.hid haf; clear haf))
    obtain ⟨vb1, m1, k1, hk, ⟨hlv, t, ht, htx⟩, hfx, ho1, ho2, htl, hst⟩ := HAF.out
    have hst' : N ≤ (bys m1.waits).length ∨ StopI (playS s pre z0 k1) := hst.imp (fun h => by rw [bys_len]; omega) id
    obtain ⟨p1, p2, p3, -⟩ := step_plain HI.out htx HN.out hst'
    have HLV := Lib.hid hlv
    have c9 : w1.cell? ⟨gm, 9, none⟩ = some (.string m1.waits) := hlv.box.cell (by decide)
    have c10 : w1.cell? ⟨gm, 10, none⟩ = some (.int .i64 (m1.wrong : Nat)) := hlv.box.cell (by decide)
    have c8 : w1.cell? ⟨gm, 8, none⟩ = some (.int .i64 (m1.told : Nat)) := hlv.box.cell (by decide)
    have f9 := hlv.box.free 9
    have hgm := hlv.box.blk.2
    by_cases hw : m1.waits = ⟨#[]⟩
    · rw [hw] at c9
      have hwb : bys m1.waits = [] := by rw [hw]; rfl
      obtain ⟨q1, q2⟩ := p2 hwb
      have HQ : Hid (((textS s pre z0).drop m.told).take N = [] ∧ (if (textS s pre z0).length ≤ m.told then (finS s pre z0).1 else 0) = m1.wrong) := Lib.hid (by
        rw [← htl, ← ht, p1, hwb, if_pos q1, q2, hlv.wrong]
        exact ⟨by simp, rfl⟩)
      have HEND : Hid (After w w1 B gm gr gw vb X s pre z0 m k0 (fun _ m' _ => m'.told = m.told + 0)) := Lib.hid ⟨vb1, m1, k1, hk, ⟨hlv, t, ht, htx⟩, hfx, ho1, ho2, htl⟩
      clear hlv ht htx hfx ho1 ho2 htl hst hst' p1 p2 p3 hw hwb q1 q2 hk c8 f9
      go_wp2
      refine wp_region_ext (by kernel_rfl) (by kernel_rfl) ?_
      repeat (go_big_quiet_step (fail))
      refine wpQuiet_nil ?_
      rintro w2 ⟨y, rfl⟩
      go_wp2
      go_ret2
      obtain ⟨vb1, m1', k1, hk, ⟨hlv, htx⟩, hfx, ho1, ho2, htl⟩ := HEND.out
      have hb := ext_below w1 y
      refine ⟨⟨#[]⟩, m1.wrong, rfl, fun h => absurd h (by have := HN.out; omega), fun _ => ⟨HQ.out.1.symm, HQ.out.2.symm⟩, vb1, m1', k1, hk, ⟨hlv.up hb, htx⟩, hfx.trans (fx_below (S := FSet gm gr gw vb m.vs) hb), ho1, ho2, htl⟩
    · have hwb : bys m1.waits ≠ [] := fun e => hw (bys_inj e)
      have hwi : m1.waits.toList.isEmpty = false := by rw [← decide_eq_emptyBytes]; exact decide_eq_false hw
      have q3 := p3 hwb
      obtain ⟨K, hK⟩ : ∃ K, K = min N m1.waits.size := ⟨_, rfl⟩
      have hKs : K ≤ m1.waits.size := by omega
      obtain ⟨cr, hcr, hsl⟩ := slice_to m1.waits K hKs
      obtain ⟨cd, hcd, hsl2⟩ := slice_from m1.waits K hKs
      have HK := Lib.hid hK
      have HS1 := Lib.hid hsl
      have HS2 := Lib.hid hsl2
      have hcrl : (bys cr).length = K := by rw [hcr, List.length_take, bys_len]; omega
      have htk : (bys m1.waits).take N = bys cr := by
        rw [hcr, hK, ← bys_len]
        by_cases h : N ≤ (bys m1.waits).length
        · rw [Nat.min_eq_left h]
        · rw [Nat.min_eq_right (by omega), List.take_of_length_le (by omega), List.take_length]
      have HQ : Hid (((textS s pre z0).drop m.told).take N = bys cr ∧ (if (textS s pre z0).length ≤ m.told then (finS s pre z0).1 else 0) = 0) := Lib.hid (by
        rw [← htl, ← ht, p1, htk, if_neg (by omega)]
        exact ⟨rfl, rfl⟩)
      have HTX : Hid ((playS s pre z0 k1).2.h.drop pre = (t ++ bys cr) ++ bys cd) := Lib.hid (by rw [htx, hcr, hcd, List.append_assoc, List.take_append_drop])
      have HTL2 : Hid ((t ++ bys cr).length = m1.told + K) := Lib.hid (by rw [List.length_append, ht, hcrl])
      have HCL := Lib.hid hcrl
      obtain ⟨hS9, hG9⟩ := hlv.box.set 9 (.string cd) (m' := { m1 with waits := cd }) rfl
      obtain ⟨hL9, hF9⟩ := hlv.mset hS9 hG9 rfl
      have c89 : (w1.setCell ⟨gm, 9, none⟩ (.string cd)).cell? ⟨gm, 8, none⟩ = some (.int .i64 (m1.told : Nat)) := hL9.box.cell (by decide)
      have f89 := hL9.box.free 8
      have hgm9 := hL9.box.blk.2
      obtain ⟨hS8, hG8⟩ := hL9.box.set 8 (.int .i64 ((m1.told + K : Nat) : Int)) (m' := { m1 with waits := cd, told := m1.told + K }) rfl
      obtain ⟨hL8, hF8⟩ := hL9.mset hS8 hG8 rfl
      have HL8 := Lib.hid hL8
      have HF8 := Lib.hid (ffx_next hfx ho1 ho2 (hF9.trans hF8))
      have HO1 := Lib.hid ho1
      have HO2 := Lib.hid ho2
      have HKK := Lib.hid hk
      have HTT := Lib.hid htl
      have hbg := (playS_keep (s := s) HI.out k1).1.2
      have htb : m1.told + K ≤ 16777216 := by
        have h1 := congrArg List.length htx
        rw [List.length_drop, List.length_append, bys_len] at h1
        omega
      have hadd : wrap64 (((m1.told : Nat) : Int) + (K : Nat)) = ((m1.told + K : Nat) : Int) := by rw [IntWalk.wrap64_in _ ⟨by omega, by omega⟩]; omega
      clear hlv ht htx hfx ho1 ho2 htl hst hst' p1 p2 p3 hwb q3 hk hS9 hG9 hL9 hF9 hS8 hG8 hL8 hF8 htk hcrl hcr hcd hsl hsl2 hK hbg htb hKs
      go_upto_region 12 with (first | ((with_reducible show wpList _ _ _ (Oper.mk _ (.call _) _ _ _ _ :: _) _ _); refine wpList_min_by rfl (.tmp 27) (.tmp 32) 3 3 rfl N m1.waits.size K rfl rfl HK.out ?_) | ((with_reducible show wpList _ _ _ (Oper.mk _ (.slice _ _ _ _ _) _ _ _ _ :: _) _ _); refine wpList_slice_by rfl 9 (.tmp 37) none (some (.tmp 38)) none rfl _ (HS1.out _) ?_) | ((with_reducible show wpList _ _ _ (Oper.mk _ (.slice _ _ _ _ _) _ _ _ _ :: _) _ _); refine wpList_slice_by rfl 9 (.tmp 44) (some (.tmp 45)) none none rfl _ (HS2.out _) ?_))
      try rw [hadd]
      generalize hw4 : World.setCell (World.setCell w1 ⟨gm, 9, none⟩ _) ⟨gm, 8, none⟩ _ = w4
      have hw5 : (w1.setCell ⟨gm, 9, none⟩ (.string cd)).setCell ⟨gm, 8, none⟩ (.int .i64 ((m1.told + K : Nat) : Int)) = w4 := hw4
      rw [hw5] at HL8 HF8
      go_wp2
      go_ret2
      exact ⟨cr, 0, rfl, fun h => absurd h (by have := HN.out; omega), fun _ => ⟨HQ.out.1.symm, HQ.out.2.symm⟩, vb1, _, k1, HKK.out, ⟨HL8.out, _, HTL2.out, HTX.out⟩, HF8.out, HO1.out, HO2.out, by show m1.told + K = _; rw [HTT.out, HCL.out]⟩
end Go.Cm

/- The walks of Done, Out and End. Conditions: the machine is there. -/
namespace Go.Cm
open Go.RowKit Go.Proofs

/-- what Done answers -/
def RetDone (B gm gr gw : Nat) (vb : Value) (X : Nat → Prop) (s : ByteArray) (pre : Nat) (z0 : IS) (m : MV) (k0 : Nat) (w : World) (e : Ending) (w' : World) : Prop :=
  ∃ b : Bool, e = .returned (.bool b) ∧ (b = true ↔ (textS s pre z0).length ≤ m.told ∧ (finS s pre z0).1 = 0) ∧
    After w w' B gm gr gw vb X s pre z0 m k0 (fun _ m' k' => m'.told = m.told ∧ (b = true → playS s pre z0 k' = finS s pre z0))
set_option maxRecDepth 100000 in
set_option maxHeartbeats 4000000 in
theorem doneM {w : World} {B gm gr gw pre k0 : Nat} {vb : Value} {X : Nat → Prop} {s : ByteArray} {z0 : IS} {m : MV} (hL : Live w B gm gr gw vb X s pre z0 m k0) (hi : IOk (8 * s.size) pre z0) (hz : z0.st = []) (hs : s.size ≤ 4000000) (hX : ∀ q, X q → q < w.heap.size) :
    Calls Tryz.prog 15 #[.pointer (some ⟨gm, 0, none⟩)] w (RetDone B gm gr gw vb X s pre z0 m k0 w) := by
  have HTH := Lib.hid (thereM hL.live.box)
  have c9 : w.cell? ⟨gm, 9, none⟩ = some (.string m.waits) := hL.live.box.cell (by decide)
  have hgm := hL.live.box.blk.2
  by_cases hw : m.waits = ⟨#[]⟩
  · have HWK := Lib.hid (workM hL hi hz hs hX 1)
    have HI := Lib.hid hi
    rw [hw] at c9
    clear hL hi
    go_enter Tryz.func15, Tryz.ntmps15
    go_upto_region 4 with (first | ((with_reducible go_at_call 25); (with_reducible refine HTH.out.mono ?_); rintro e w' ⟨rfl, hw⟩; rw [hw]; clear hw) | ((with_reducible go_at_call 28); (with_reducible refine HWK.out.mono ?_); rintro e w1 ⟨rfl, haf⟩; have HAF := Lib.hid haf; clear haf))
    obtain ⟨vb1, m1, k1, hk, ⟨hlv, t, ht, htx⟩, hfx, ho1, ho2, htl, hst⟩ := HAF.out
    have hst' : 1 ≤ (bys m1.waits).length ∨ StopI (playS s pre z0 k1) := hst.imp (fun h => by rw [bys_len]; omega) id
    obtain ⟨p1, p2, p3, p4⟩ := step_plain HI.out htx (Nat.le_refl 1) hst'
    have hEND : ∀ b : Bool, (b = true → playS s pre z0 k1 = finS s pre z0) → After w w1 B gm gr gw vb X s pre z0 m k0 (fun _ m' k' => (m'.told = m.told ∧ (b = true → playS s pre z0 k' = finS s pre z0))) := fun b hb => ⟨vb1, m1, k1, hk, ⟨hlv, t, ht, htx⟩, hfx, ho1, ho2, htl, hb⟩
    have HEND := Lib.hid hEND
    have c9 : w1.cell? ⟨gm, 9, none⟩ = some (.string m1.waits) := hlv.box.cell (by decide)
    have c10 : w1.cell? ⟨gm, 10, none⟩ = some (.int .i64 (m1.wrong : Nat)) := hlv.box.cell (by decide)
    have hgm := hlv.box.blk.2
    by_cases hw1 : m1.waits = ⟨#[]⟩
    · have hwb : bys m1.waits = [] := by rw [hw1]; rfl
      obtain ⟨q1, q2⟩ := p2 hwb
      have hs1 : StopI (playS s pre z0 k1) := hst'.resolve_left (by rw [hwb]; exact Nat.not_succ_le_zero 0)
      have hq4 := (p4 hs1).2
      have hD : ((textS s pre z0).length ≤ m.told ∧ (finS s pre z0).1 = 0) ↔ m1.wrong = 0 := by
        rw [← htl, ← ht, hlv.wrong, q2]
        exact ⟨fun h => h.2, fun h => ⟨q1, h⟩⟩
      have HD := Lib.hid hD
      have HQ4 := Lib.hid hq4
      rw [hw1] at c9
      clear hlv ht htx hfx ho1 ho2 htl hst hst' p1 p2 p3 p4 hwb q1 q2 hk hs1 hD hq4 hEND
      by_cases h0 : m1.wrong = 0
      · rw [h0] at c10
        go_wp2
        go_ret
        exact ⟨true, rfl, ⟨fun _ => HD.out.2 h0, fun _ => rfl⟩, HEND.out true (fun _ => HQ4.out.symm)⟩
      · have h0' : ((m1.wrong : Int) == 0) = false := by simpa using h0
        go_wp2
        go_ret
        exact ⟨false, rfl, ⟨fun e => Bool.noConfusion e, fun e => absurd (HD.out.1 e) h0⟩, HEND.out false (fun e => Bool.noConfusion e)⟩
    · have hwb : bys m1.waits ≠ [] := fun e => hw1 (bys_inj e)
      have hwi : m1.waits.toList.isEmpty = false := by rw [← decide_eq_emptyBytes]; exact decide_eq_false hw1
      have q3 := p3 hwb
      have hD : ¬ ((textS s pre z0).length ≤ m.told ∧ (finS s pre z0).1 = 0) := fun h => by rw [← htl, ← ht] at h; omega
      have HD := Lib.hid hD
      clear hlv ht htx hfx ho1 ho2 htl hst hst' p1 p2 p3 p4 hwb q3 hk hD hEND
      go_wp2
      go_ret
      exact ⟨false, rfl, ⟨fun e => Bool.noConfusion e, fun e => absurd e HD.out⟩, HEND.out false (fun e => Bool.noConfusion e)⟩
  · have hwb : bys m.waits ≠ [] := fun e => hw (bys_inj e)
    have hwi : m.waits.toList.isEmpty = false := by rw [← decide_eq_emptyBytes]; exact decide_eq_false hw
    obtain ⟨t, ht, htx⟩ := hL.text
    obtain ⟨p1, p2, p3, p4⟩ := step_plain hi htx (Nat.le_refl 1) (.inl (List.length_pos_iff.2 hwb))
    have q3 := p3 hwb
    have hD : ¬ ((textS s pre z0).length ≤ m.told ∧ (finS s pre z0).1 = 0) := fun h => by rw [← ht] at h; omega
    have HD := Lib.hid hD
    have HL := Lib.hid hL
    clear hL hi ht htx p1 p2 p3 p4 q3 hwb hD
    go_enter Tryz.func15, Tryz.ntmps15
    go_wp2_with ((with_reducible go_at_call 25); (with_reducible refine HTH.out.mono ?_); rintro e w' ⟨rfl, hw⟩; rw [hw]; clear hw)
    go_ret
    exact ⟨false, rfl, ⟨fun e => Bool.noConfusion e, fun e => absurd e HD.out⟩, vb, m, k0, Nat.le_refl _, HL.out, Fx.refl _ _, fun q e => .inl e, fun q e => .inl e, rfl, fun e => Bool.noConfusion e⟩
/-- what is told -/
theorem outM {w : World} {B gm gr gw : Nat} {m : MV} (h : MBox w B gm gr gw m) : Calls Tryz.prog 14 #[.pointer (some ⟨gm, 0, none⟩)] w fun e w' => e = .returned (.int .i64 (m.told : Nat)) ∧ w' = w := by
  have HTH := Lib.hid (thereM h)
  have c8 : w.cell? ⟨gm, 8, none⟩ = some (.int .i64 (m.told : Nat)) := h.cell (by decide)
  have hgm := h.blk.2
  clear h
  go_enter Tryz.func14, Tryz.ntmps14
  go_wp2_with ((with_reducible go_at_call 25); (with_reducible refine HTH.out.mono ?_); rintro e w' ⟨rfl, hw⟩; rw [hw]; clear hw)
  go_ret
  exact ⟨rfl, rfl⟩
/-- what End answers -/
def RetEnd (B gm gr gw : Nat) (vb : Value) (X : Nat → Prop) (s : ByteArray) (pre : Nat) (z0 : IS) (m : MV) (k0 : Nat) (w : World) (e : Ending) (w' : World) : Prop :=
  ∃ q : Nat, e = .returned (.int .i64 q) ∧ ((textS s pre z0).length ≤ m.told ∧ (finS s pre z0).1 = 0 → q = (finS s pre z0).2.p) ∧ (¬ ((textS s pre z0).length ≤ m.told ∧ (finS s pre z0).1 = 0) → q = 0) ∧ After w w' B gm gr gw vb X s pre z0 m k0 (fun _ m' _ => m'.told = m.told)
set_option maxRecDepth 100000 in
set_option maxHeartbeats 4000000 in
theorem endM {w : World} {B gm gr gw pre k0 : Nat} {vb : Value} {X : Nat → Prop} {s : ByteArray} {z0 : IS} {m : MV} (hL : Live w B gm gr gw vb X s pre z0 m k0) (hi : IOk (8 * s.size) pre z0) (hz : z0.st = []) (hs : s.size ≤ 4000000) (hX : ∀ q, X q → q < w.heap.size) :
    Calls Tryz.prog 17 #[.pointer (some ⟨gm, 0, none⟩)] w (RetEnd B gm gr gw vb X s pre z0 m k0 w) := by
  have HDN := Lib.hid (doneM hL hi hz hs hX)
  clear hL hi
  go_enter Tryz.func17, Tryz.ntmps17
  go_upto_region 1 with (fail)
  go_wp2_with (fail)
  (with_reducible refine HDN.out.mono ?_)
  rintro e w1 ⟨b, rfl, hb, vb1, m1, k1, hk, hlv, hfx, ho1, ho2, htl, hfin⟩
  have HB := Lib.hid hb
  cases b with
  | true =>
    have hD := hb.1 rfl
    have hp := hfin rfl
    have hfl := hlv.live.good (by rw [hp]; exact hD.2)
    have HAT := Lib.hid (atS hfl.f0.mach.rd)
    rw [hp] at HAT
    have c0 : w1.cell? ⟨gm, 0, none⟩ = some (.pointer (some ⟨gr, 0, none⟩)) := hfl.f0.mach.box.cell (by decide)
    have hgm := hfl.f0.mach.box.blk.2
    have HEND : Hid (After w w1 B gm gr gw vb X s pre z0 m k0 (fun _ m' _ => m'.told = m.told)) := Lib.hid ⟨vb1, m1, k1, hk, hlv, hfx, ho1, ho2, htl⟩
    have HD := Lib.hid hD
    clear hlv hfx ho1 ho2 htl hfin hk hb hD hp hfl
    go_wp2_with ((with_reducible go_at_call 29); (with_reducible refine HAT.out.mono ?_); rintro e w' ⟨rfl, hw⟩; rw [hw]; clear hw)
    go_ret
    exact ⟨_, rfl, fun _ => rfl, fun h => absurd HD.out h, HEND.out⟩
  | false =>
    have HEND : Hid (After w w1 B gm gr gw vb X s pre z0 m k0 (fun _ m' _ => m'.told = m.told)) := Lib.hid ⟨vb1, m1, k1, hk, hlv, hfx, ho1, ho2, htl⟩
    clear hlv hfx ho1 ho2 htl hfin hk hb
    go_wp2
    go_ret
    exact ⟨0, rfl, fun h => (by have := HB.out.2 h; cases this), fun _ => rfl, HEND.out⟩
end Go.Cm

/- The walks of a new machine, and of its starts. Conditions: as each says. -/
namespace Go.Cm
open Go.RowKit Go.Proofs

theorem stC_len (l : List (Nat × Nat)) : ∀ x ∈ l.map stC, x.length = 2 := by
  intro x hx; rw [List.mem_map] at hx; obtain ⟨y, -, rfl⟩ := hx; rfl
theorem stC_one (l : List (Nat × Nat)) : ∀ u ∈ (l.map stC).flatten, u.oneCell' = true := by
  intro u hu
  rw [List.mem_flatten] at hu
  obtain ⟨x, hx, hu⟩ := hu
  rw [List.mem_map] at hx
  obtain ⟨y, -, rfl⟩ := hx
  simp [stC] at hu
  rcases hu with rfl | rfl <;> rfl
/-- what Starts answers -/
def RetStarts (B gm gr gw : Nat) (vb : Value) (X : Nat → Prop) (s : ByteArray) (pre : Nat) (z0 : IS) (m : MV) (k0 : Nat) (w : World) (e : Ending) (w' : World) : Prop :=
  ∃ v : Value, e = .returned v ∧ ((textS s pre z0).length ≤ m.told ∧ (finS s pre z0).1 = 0 → OwnK 2 w' w.heap.size 49 v ((finS s pre z0).2.st.map stC)) ∧ (¬ ((textS s pre z0).length ≤ m.told ∧ (finS s pre z0).1 = 0) → v = .slice none 0 0) ∧ After w w' B gm gr gw vb X s pre z0 m k0 (fun vb' m' _ => m'.told = m.told ∧ ∀ q, v.ownBlock = some q → w.heap.size ≤ q ∧ ¬ FSet gm gr gw vb' m'.vs q)
set_option maxRecDepth 100000 in
set_option maxHeartbeats 4000000 in
theorem startsM {w : World} {B gm gr gw pre k0 : Nat} {vb : Value} {X : Nat → Prop} {s : ByteArray} {z0 : IS} {m : MV} (hL : Live w B gm gr gw vb X s pre z0 m k0) (hi : IOk (8 * s.size) pre z0) (hz : z0.st = []) (hs : s.size ≤ 4000000) (hX : ∀ q, X q → q < w.heap.size) :
    Calls Tryz.prog 16 #[.pointer (some ⟨gm, 0, none⟩)] w (RetStarts B gm gr gw vb X s pre z0 m k0 w) := by
  have HDN := Lib.hid (doneM hL hi hz hs hX)
  have HI := Lib.hid hi
  have HZ := Lib.hid hz
  have HS := Lib.hid hs
  clear hL hi hz hs
  go_enter Tryz.func16, Tryz.ntmps16
  go_upto_region 1 with (fail)
  go_wp2_with (fail)
  (with_reducible refine HDN.out.mono ?_)
  rintro e w1 ⟨b, rfl, hb, vb1, m1, k1, hk, hlv, hfx, ho1, ho2, htl, hfin⟩
  have HB := Lib.hid hb
  cases b with
  | true =>
    have hD := hb.1 rfl
    have hp := hfin rfl
    have hfl := hlv.live.good (by rw [hp]; exact hD.2)
    have hst := hfl.f0.sts
    have hstl : (playS s pre z0 k1).2.st.length ≤ 100000000 := by
      have h1 := playS_st (s := s) (pre := pre) HZ.out k1
      have h2 := hlv.live.kb
      have h3 := muI_le (T := 8 * s.size) z0
      have h4 := HS.out
      omega
    rw [hp] at hst hstl
    have HST := Lib.hid hst.sl
    have c11 : w1.cell? ⟨gm, 11, none⟩ = some m1.vs := hfl.f0.mach.box.cell (by decide)
    have hgm := hfl.f0.mach.box.blk.2
    have HLN : Hid (([] : List (List Value)).length + ((finS s pre z0).2.st.map stC).length ≤ 1000000000) := Lib.hid (by rw [List.length_map, List.length_nil]; omega)
    have HSZ : Hid (w.heap.size ≤ w1.heap.size) := Lib.hid hfx.size
    have HEND : Hid (∀ w5 (v : Value), w1.grownBy w5 none → (∀ q, v.ownBlock = some q → w1.heap.size ≤ q) → After w w5 B gm gr gw vb X s pre z0 m k0 (fun vb' m' _ => m'.told = m.told ∧ ∀ q, v.ownBlock = some q → w.heap.size ≤ q ∧ ¬ FSet gm gr gw vb' m'.vs q)) := Lib.hid (fun w5 v hg hv => by
      have hf : Fx (fun _ => False) w1 w5 := fx_grown hg (fun k e => by cases e)
      exact ⟨vb1, m1, k1, hk, ⟨hlv.live.fx hf (fun _ _ e => e) (fun _ e => e.elim), hlv.text⟩, hfx.trans (hf.mono (fun _ e => e.elim)), ho1, ho2, htl, fun q e => ⟨Nat.le_trans hfx.size (hv q e), fun z => by have h1 := hlv.live.lt q z; have h2 := hv q e; omega⟩⟩)
    have HD := Lib.hid hD
    clear hlv hfx ho1 ho2 htl hfin hk hb hD hp hfl hst hstl
    go_wp2_with (at_builtin; go_loud (refine wpList_appK 2 rfl (.const (.slice none 0 0)) (.tmp 9) 24 rfl w.heap.size 49 (.agg #[.int .i64 0, .int .i64 0]) 16 Tryz.underlying24 (by kernel_rfl) rfl (by decide) (by decide) (.slice none 0 0) [] rfl (OwnK.nil 2 w1 w.heap.size 49) m1.vs _ rfl HST.out (stC_len _) (stC_one _) HLN.out HSZ.out ?_); intro v5 w5 hown5 hg5 hk5; have HO5 := Lib.hid hown5; have HG5 := Lib.hid hg5; have HK5 := Lib.hid hk5; clear hown5 hg5 hk5)
    go_ret
    exact ⟨v5, rfl, fun _ => by simpa using HO5.out, fun h => absurd HD.out h, HEND.out _ v5 HG5.out (fun q e => (HK5.out q e).elim (fun h => by cases h) id)⟩
  | false =>
    have HEND : Hid (After w w1 B gm gr gw vb X s pre z0 m k0 (fun vb' m' _ => m'.told = m.told ∧ ∀ q, (Value.slice none 0 0).ownBlock = some q → w.heap.size ≤ q ∧ ¬ FSet gm gr gw vb' m'.vs q)) := Lib.hid ⟨vb1, m1, k1, hk, hlv, hfx, ho1, ho2, htl, fun q e => by cases e⟩
    clear hlv hfx ho1 ho2 htl hfin hk hb
    go_wp2
    go_ret
    exact ⟨_, rfl, fun h => (by have := HB.out.2 h; cases this), fun _ => rfl, HEND.out⟩
end Go.Cm

/- The walk of a new machine. Conditions: the text is not too long. -/
namespace Go.Cm
open Go.RowKit Go.Proofs

attribute [local irreducible] lastN
theorem newBad (s : ByteArray) (b : Int) (hs : s.size ≤ 4294967296) (hb : b < 0 ∨ 8 * (s.size : Int) < b) (w : World) : Calls Tryz.prog 22 #[.string s, .int .i64 b] w fun e w' => e = .returned (.tuple #[.pointer none, .int .i64 1]) ∧ w' = w := by
  by_cases h1 : b < 0
  · clear hb
    go_enter Tryz.func22, Tryz.ntmps22
    go_wp2
    go_ret2
    exact ⟨rfl, rfl⟩
  · have h2 : b > 8 * (s.size : Int) := hb.resolve_left h1
    clear hb
    go_enter Tryz.func22, Tryz.ntmps22
    go_wp2
    go_ret2
    exact ⟨rfl, rfl⟩
/-- where a machine begins -/
def zNew (t : Byts) (p : Nat) : IS := ⟨0, false, 0, [], [], p, lastN t, []⟩
theorem zNew_ok {s : ByteArray} {t : Byts} {p : Nat} (hp : p ≤ 8 * s.size) : IOk (8 * s.size) (lastN t).length (zNew t p) :=
  ⟨hp, Nat.zero_le _, fun h => absurd h (show ¬ (0 : Nat) = 1 by decide), Nat.zero_le _, .inr (show ¬ (0 : Nat) = 2 by decide), .inr (show ¬ (0 : Nat) = 2 by decide), Nat.le_refl _, by
    have h : (zNew t p).h.length - (lastN t).length = 0 := Nat.sub_self _
    rw [h]; exact Nat.zero_le _⟩
theorem playS_zero (s : ByteArray) (pre : Nat) (z0 : IS) : playS s pre z0 0 = (0, z0) := by unfold playS; rw [playI]
def mNew : MV := ⟨0, false, 0, .pointer none, .pointer none, 0, 0, ⟨#[]⟩, 0, .slice none 0 0, fnV 0⟩
/-- what New answers where the bit is one of the text's -/
def RetNewM (s : ByteArray) (t : Byts) (p : Nat) (w : World) (e : Ending) (w' : World) : Prop :=
  ∃ gm gr gw vb, e = .returned (.tuple #[.pointer (some ⟨gm, 0, none⟩), .int .i64 0]) ∧ (∀ X, Live w' w.heap.size gm gr gw vb X s (lastN t).length (zNew t p) mNew 0) ∧ Below w.heap.size w w'
set_option maxRecDepth 100000 in
set_option maxHeartbeats 4000000 in
theorem newM (s : ByteArray) (t : ByteArray) (p : Nat) (hs : s.size ≤ 4294967296) (hp : p ≤ 8 * s.size) (ht : t.size ≤ 50000000) (w : World) : Calls Tryz.prog 11 #[.string s, .int .i64 p, .string t] w (RetNewM s (bys t) p w) := by
  have HNS := Lib.hid (newS s p hs hp)
  have HNW := Lib.hid (newWn t ht)
  go_enter Tryz.func11, Tryz.ntmps11
  go_wp2_with (first | ((with_reducible go_at_call 22); (with_reducible refine (HNS.out _).mono ?_); rintro e w1 ⟨g, rfl, hx, hge, hb⟩; have HX1 := Lib.hid hx; have HB1 := Lib.hid hb; have HG1 := Lib.hid hge; clear hx hb hge) | ((with_reducible go_at_call 23); (with_reducible refine (HNW.out _).mono ?_); rintro e w2 ⟨gw, vb, rfl, hw, hgw, hgl, hb⟩; have HW2 := Lib.hid hw; have HGW := Lib.hid hgw; have HGL := Lib.hid hgl; have HB2 := Lib.hid hb; clear hw hgw hgl hb))
  go_ret2
  have hw2 := HW2.out
  obtain ⟨b, hV, hb1, hb2⟩ := hw2
  have hs1 := HB1.out.size
  have hs2 := HB2.out.size
  have hg := HG1.out
  have hgw := HGW.out
  have hg1 := HX1.out.lt
  have hbx := own_lit w2 w.heap.size #[.pointer (some ⟨g, 0, none⟩), .pointer (some ⟨gw, 0, none⟩), .int .i64 0, .bool false, .int .i64 0, .pointer none, .pointer none, .int .i64 0, .int .i64 0, .string ⟨#[]⟩, .int .i64 0, .slice none 0 0, .func (.func 24) #[] #[]] 76 (by simp) (Nat.le_trans hs1 hs2)
  have hal := below_alloc w2 (.cells #[.pointer (some ⟨g, 0, none⟩), .pointer (some ⟨gw, 0, none⟩), .int .i64 0, .bool false, .int .i64 0, .pointer none, .pointer none, .int .i64 0, .int .i64 0, .string ⟨#[]⟩, .int .i64 0, .slice none 0 0, .func (.func 24) #[] #[]] 76)
  have hvl : ∀ k, vb.ownBlock = some k → w1.heap.size ≤ k ∧ k < w2.heap.size := fun k e => hV.own.lt k e
  have hwin : WinAt w2 w.heap.size gw vb (lastN (bys t)) := ⟨b, ⟨hV.box.mono hs1, hV.own.mono hs1, hV.ne⟩, by rw [lastN_idem]; exact hb1, hb2⟩
  have hmach : Mach (w2.alloc (.cells #[.pointer (some ⟨g, 0, none⟩), .pointer (some ⟨gw, 0, none⟩), .int .i64 0, .bool false, .int .i64 0, .pointer none, .pointer none, .int .i64 0, .int .i64 0, .string ⟨#[]⟩, .int .i64 0, .slice none 0 0, .func (.func 24) #[] #[]] 76)) w.heap.size w2.heap.size g gw vb s p (lastN (bys t)) mNew := by
    refine ⟨?_, (HX1.out.up HB2.out).up hal, hwin.up hal, by omega, ?_, by omega, fun e => ?_, fun e => ?_, hg⟩
    · exact hbx
    · have := HGL.out; omega
    · have := (hvl _ e).2; omega
    · have := (hvl _ e).1; omega
  have hf0 : Full0 _ w.heap.size w2.heap.size g gw vb s p (lastN (bys t)) [] mNew := ⟨hmach, OwnK.nil 2 _ _ _, (fun k e => by cases e), rfl, rfl, 0, rfl⟩
  refine ⟨w2.heap.size, g, gw, vb, rfl, fun X => ⟨⟨Nat.zero_le _, by rw [playS_zero]; rfl, ?_, ⟨_, _, _, hf0, Nat.zero_le _⟩, fun _ => by rw [playS_zero]; exact ⟨hf0, ⟨rfl, rfl, fun _ => rfl, fun _ => rfl, 0, rfl⟩, fun e => absurd e (show ¬ (0 : Nat) = 2 by decide)⟩⟩, [], rfl, ?_⟩, HB1.out.trans ((HB2.out.mono hs1).trans (hal.mono (Nat.le_trans hs1 hs2)))⟩
  · rw [playS_zero]
    show 0 = (lastN (bys t)).length - (lastN (bys t)).length
    rw [Nat.sub_self]
  · rw [playS_zero]
    show (lastN (bys t)).drop (lastN (bys t)).length = _
    rw [List.drop_length]; rfl
/-- .. and where it is none -/
theorem newMBad (s : ByteArray) (t : ByteArray) (b : Int) (hs : s.size ≤ 4294967296) (hb : b < 0 ∨ 8 * (s.size : Int) < b) (w : World) : Calls Tryz.prog 11 #[.string s, .int .i64 b, .string t] w fun e w' => e = .returned (.tuple #[.pointer none, .int .i64 1]) ∧ w' = w := by
  have HNS := Lib.hid (newBad s b hs hb)
  clear hb
  go_enter Tryz.func11, Tryz.ntmps11
  go_wp2_with ((with_reducible go_at_call 22); (with_reducible refine (HNS.out _).mono ?_); rintro e w1 ⟨rfl, hw⟩; rw [hw]; clear hw)
  go_ret2
  exact ⟨rfl, rfl⟩
end Go.Cm
