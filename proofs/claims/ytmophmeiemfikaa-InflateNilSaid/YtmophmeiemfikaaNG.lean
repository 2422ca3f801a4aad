/- Texts of this claim, joined: walks of small functions and plain facts about them. Conditions: as each says. -/
import Derived.Test.YtmophmeiemfikaaNF
import Derived.Test.YtmophmeiemfikaaRows
import Derived.WalkKit
import Derived.WalkSpells
import Derived.WalkLawsBesides
import Derived.Deep.QuietTactic
import Derived.BigQuiet
import Derived.Lib.Hide
import Derived.Laws.Small
import Derived.Deep.LoopGhost
import Derived.Laws.BitsLemmas
import Derived.Deep.DeepCutAuto
import Derived.Deep.CutBlock
import Derived.Deep.CutRange
import Derived.Laws.IdiomStrings
import Derived.Laws.CopyOwn
import Derived.Laws.EntriesVeiled
import Derived.Shelf.Abstract
import Derived.WalkMore
import Derived.SizedLaws
import Derived.ProofKit
import Derived.OpenShut
import Derived.Deep.Slices
import Derived.ChangeSlices
import Derived.WideKeyArgs
/- The walk of a machine's work. Conditions: the machine is there. -/
namespace Go.Cm
open Go.RowKit Go.Proofs

/-- what a call leaves of a machine -/
def After (w w' : World) (B gm gr gw : Nat) (vb : Value) (X : Nat → Prop) (s : ByteArray) (pre : Nat) (z0 : IS) (m : MV) (k : Nat) (M : Value → MV → Nat → Prop) : Prop :=
  ∃ vb' m' k', k ≤ k' ∧ Live w' B gm gr gw vb' X s pre z0 m' k' ∧ Fx (FSet gm gr gw vb m.vs) w w' ∧ (∀ q, vb'.ownBlock = some q → vb.ownBlock = some q ∨ w.heap.size ≤ q) ∧ (∀ q, m'.vs.ownBlock = some q → m.vs.ownBlock = some q ∨ w.heap.size ≤ q) ∧ M vb' m' k'
theorem bys_inj {a b : ByteArray} (h : bys a = bys b) : a = b := by
  cases a; cases b; congr 1; exact Array.toList_inj.1 h
theorem workEnd {w wr w' : World} {B gm gr gw pre k0 k : Nat} {vb vb1 : Value} {X X1 : Nat → Prop} {s : ByteArray} {z0 : IS} {m mr : MV} {t t1 : Byts} {n : Int} (hk : k0 ≤ k) (hlv : LiveB wr B gm gr gw vb1 X1 s pre z0 mr k) (hX : ∀ q, X q → X1 q) (hf : Fx (FSet gm gr gw vb m.vs) w wr)
    (hk1 : ∀ q, vb1.ownBlock = some q → vb.ownBlock = some q ∨ w.heap.size ≤ q) (hk2 : ∀ q, mr.vs.ownBlock = some q → m.vs.ownBlock = some q ∨ w.heap.size ≤ q) (htl : mr.told = m.told) (ht1 : t1.length = m.told) (htx : (playS s pre z0 k).2.h.drop pre = t1 ++ t)
    (hS : MBox w' B gm gr gw { mr with waits := ⟨t.toArray⟩ }) (hG : wr.grownBy w' (some gm)) (hst : n ≤ (t.length : Int) ∨ StopI (playS s pre z0 k)) :
    After w w' B gm gr gw vb X s pre z0 m k0 (fun _ m' k' => m'.told = m.told ∧ (n ≤ m'.waits.size ∨ StopI (playS s pre z0 k'))) := by
  obtain ⟨h1, h2⟩ := hlv.mset hS hG rfl
  refine ⟨vb1, _, k, hk, ⟨h1.reX (fun q e => .inl (hX q e)), t1, ?_, ?_⟩, ffx_next hf hk1 hk2 h2, hk1, hk2, htl, ?_⟩
  · rw [ht1]; exact htl.symm
  · rw [htx, bys_mk]
  · refine hst.imp (fun e => ?_) id
    show n ≤ ((⟨t.toArray⟩ : ByteArray).size : Int)
    rw [← bys_len, bys_mk]; exact e
theorem LiveB.app {w w' : World} {B gm gr gw pre k : Nat} {vb bv v' : Value} {X : Nat → Prop} {s : ByteArray} {z0 : IS} {m : MV} (h : LiveB w B gm gr gw vb (fun q => X q ∨ bv.ownBlock = some q) s pre z0 m k) (hsp : ∀ q, FSet gm gr gw vb m.vs q → bv.ownBlock ≠ some q) (hg : w.grownBy w' bv.ownBlock) (hk : ∀ q, v'.ownBlock = some q → bv.ownBlock = some q ∨ w.heap.size ≤ q) :
    LiveB w' B gm gr gw vb (fun q => X q ∨ v'.ownBlock = some q) s pre z0 m k ∧ ∀ q, FSet gm gr gw vb m.vs q → v'.ownBlock ≠ some q := by
  have h1 := h.reX (X' := fun q => (X q ∨ bv.ownBlock = some q) ∨ v'.ownBlock = some q) (fun q e => e.elim .inl (fun e => (hk q e).imp .inr id))
  have h2 := h1.fx (fx_grown (S := fun q => bv.ownBlock = some q) hg (fun q e => e)) (fun q e z => hsp q e z) (fun q e => .inl (.inr e))
  refine ⟨h2.reX (fun q e => .inl (e.elim (fun e => .inl (.inl e)) .inr)), fun q e z => ?_⟩
  rcases hk q z with h3 | h3
  · exact hsp q e h3
  · have := h.lt q e; omega
theorem ar1 {M made zl yl cl pre r : Nat} (h1 : r = M - made) (h2 : made = zl - pre) (h3 : pre ≤ zl) (h4 : yl = zl + cl) (h5 : r < cl) : M < yl - pre := by omega
theorem ar2 {M made zl pre r : Nat} (h1 : r = M - made) (h2 : made = zl - pre) (h3 : made ≤ M) : M = zl - pre + r := by omega
theorem ar3 {M made zl yl pre r : Nat} (h1 : M = zl - pre + r) (h2 : made = zl - pre) (h3 : M < yl - pre) : made + r = min (pre + M) yl - pre := by omega
theorem ar4 {M zl pre r : Nat} (h1 : M = zl - pre + r) (h3 : pre ≤ zl) : zl ≤ pre + M ∧ pre - zl = 0 ∧ pre + M - zl = r := by omega
theorem ar5 {M zl pre r a b : Nat} (h1 : M = zl - pre + r) (h2 : zl - pre = a + b) (hM : M = 16777216) : b + r ≤ 4294967296 := by omega
theorem ar6 {M made zl yl cl pre r : Nat} (h1 : r = M - made) (h2 : made = zl - pre) (h3 : pre ≤ zl) (h4 : yl = zl + cl) (h5 : ¬ r < cl) (h6 : made ≤ M) : ¬ M < yl - pre ∧ made + cl = yl - pre := by omega
theorem ar7 {M zl yl cl pre a b : Nat} (h1 : ¬ M < yl - pre) (h2 : zl - pre = a + b) (h3 : pre ≤ zl) (h4 : yl = zl + cl) (hM : M = 16777216) : b + cl ≤ 4294967296 := by omega
set_option maxRecDepth 100000 in
set_option maxHeartbeats 4000000 in
theorem workM {w : World} {B gm gr gw pre k0 : Nat} {vb : Value} {X : Nat → Prop} {s : ByteArray} {z0 : IS} {m : MV} (hL : Live w B gm gr gw vb X s pre z0 m k0) (hi : IOk (8 * s.size) pre z0) (hz : z0.st = []) (hs : s.size ≤ 4000000) (hX : ∀ q, X q → q < w.heap.size) (n : Int) :
    Calls Try.prog 60 #[.pointer (some ⟨gm, 0, none⟩), .int .i64 n] w fun e w' => e = .returned (.tuple #[]) ∧ After w w' B gm gr gw vb X s pre z0 m k0 (fun _ m' k' => m'.told = m.told ∧ (n ≤ m'.waits.size ∨ StopI (playS s pre z0 k'))) := by
  have HI := Lib.hid hi
  have HZ := Lib.hid hz
  have HS := Lib.hid hs
  have HX := Lib.hid hX
  obtain ⟨hB, t0, ht0, htx⟩ := hL
  have HLB := Lib.hid hB
  have HTX := Lib.hid htx
  have HT0 := Lib.hid ht0
  have c9 : w.cell? ⟨gm, 9, none⟩ = some (.string m.waits) := hB.box.cell (by decide)
  have hgm := hB.box.blk.2
  have hws : m.waits.size ≤ 16777216 := by
    have h1 := (playS_keep (s := s) hi k0).1.2
    have h2 := congrArg List.length htx
    rw [List.length_drop, List.length_append, bys_len] at h2
    omega
  have hws2 : m.waits.size ≤ 100000000 := by omega
  clear hB htx ht0 hX hz hi
  go_enter Try.func60, Try.ntmps60
  go_step3
  go_wp2_with ((with_reducible show wpList _ _ _ (Oper.mk _ (.convert _ _ _) _ _ _ _ :: _) _ _); (refine wpList_bytes_own rfl 9 43 5 (.tmp 11) rfl Try.underlying9 Try.underlying43 Try.underlying5 m.waits rfl hws2 ?_); intro v1 w1 ho1 hb1; have HO1 := Lib.hid ho1; have HB1 := Lib.hid hb1; clear ho1 hb1)
  go_step3
  go_wp2
  go_loopg [4] (muI (8 * s.size) z0 + 2 - k0) (fun gk bv wr => ∃ (k : Nat) (vb1 : Value) (mr : MV) (t : Byts), k0 ≤ k ∧ OwnF wr w.heap.size 5 bv (bytesV t) ∧ LiveB wr B gm gr gw vb1 (fun q => X q ∨ bv.ownBlock = some q) s pre z0 mr k ∧ (∀ q, FSet gm gr gw vb1 mr.vs q → bv.ownBlock ≠ some q) ∧
     Fx (FSet gm gr gw vb m.vs) w wr ∧ (∀ q, vb1.ownBlock = some q → vb.ownBlock = some q ∨ w.heap.size ≤ q) ∧ (∀ q, mr.vs.ownBlock = some q → m.vs.ownBlock = some q ∨ w.heap.size ≤ q) ∧ mr.told = m.told ∧ (∃ t1 : Byts, t1.length = m.told ∧ (playS s pre z0 k).2.h.drop pre = t1 ++ t) ∧ gk = muI (8 * s.size) z0 + 2 - k)
  case atStart =>
    exact ⟨k0, vb, m, bys m.waits, Nat.le_refl _, HO1.out, (HLB.out.reX (fun q e => e.imp id (fun e => (HO1.out.lt q e).1))).up HB1.out, fun q e z => by have h1 := HLB.out.lt q e; have h2 := (HO1.out.lt q z).1; omega, fx_below HB1.out, fun q e => .inl e, fun q e => .inl e, rfl, ⟨t0, HT0.out, HTX.out⟩, rfl⟩
  case round =>
    obtain ⟨k, vb1, mr, t, hk, hbo, hlv, hsp, hf, hk1, hk2, htl, ⟨t1, ht1, htx⟩, rfl⟩ := hrel
    obtain ⟨ob, kb, qb, fb, hvb, hdb, -⟩ := hbo.sl
    rw [bytesV_length] at hvb hdb
    have hmb := hdb.len
    subst hvb
    have HBO := Lib.hid hbo
    have HLV := Lib.hid hlv
    have HSP := Lib.hid hsp
    have HF := Lib.hid hf
    have HK1 := Lib.hid hk1
    have HK2 := Lib.hid hk2
    have HTL := Lib.hid htl
    have HT1 := Lib.hid ht1
    have HT2 := Lib.hid htx
    have HK := Lib.hid hk
    have c2 : wr.cell? ⟨gm, 2, none⟩ = some (.int .i64 (mr.at_ : Nat)) := hlv.box.cell (by decide)
    have c9 : wr.cell? ⟨gm, 9, none⟩ = some (.string mr.waits) := hlv.box.cell (by decide)
    have c10 : wr.cell? ⟨gm, 10, none⟩ = some (.int .i64 (mr.wrong : Nat)) := hlv.box.cell (by decide)
    have f9 := hlv.box.free 9
    have f10 := hlv.box.free 10
    have hgm := hlv.box.blk.2
    clear hbo hsp hf hk1 hk2 htl ht1 htx hk hdb
    by_cases hgo : (t.length : Int) < n ∧ mr.at_ ≠ 3 ∧ mr.wrong = 0
    · obtain ⟨h1, h2, h3⟩ := hgo
      have hp0 : (playS s pre z0 k).1 = 0 := by rw [← hlv.wrong]; exact h3
      have hfull := hlv.good hp0
      have hmd : (playS s pre z0 k).2.md ≠ 3 := by rw [← hfull.rel.1]; exact h2
      have hns : ¬ StopI (playS s pre z0 k) := fun e => e.elim (fun e => e hp0) hmd
      obtain ⟨⟨hpre, hbig⟩, hok⟩ := playS_keep (s := s) (pre := pre) HI.out k
      obtain ⟨hiok, hmu⟩ := hok hp0
      have hmu2 := hmu.resolve_left hns
      have hkb : k + 1 ≤ muI (8 * s.size) z0 + 1 := by omega
      have hk8 : k ≤ 100000000 := by have := muI_le (T := 8 * s.size) z0; omega
      obtain ⟨f, hvf, hent, hcall⟩ := makesM (X := fun q => X q ∨ (Value.slice ob t.length kb).ownBlock = some q) hfull hiok hmd (by omega) hlv.made (Nat.le_trans (playS_st HZ.out k) hk8) (fun q e => e.elim (fun e => Nat.lt_of_lt_of_le (HX.out q e) HF.out.size) (fun e => (HBO.out.lt q e).2))
      have HC := Lib.hid hcall
      have c12 : wr.cell? ⟨gm, 12, none⟩ = some (.func (.func f) #[] #[]) := by rw [← hvf]; exact hlv.box.cell (by decide)
      have h1' : decide ((t.length : Int) < n) = true := decide_eq_true h1
      have h2' : ((mr.at_ : Int) != 3) = true := by simpa using (by omega : ¬ (mr.at_ : Int) = 3)
      rw [h3] at c10
      have HNS := Lib.hid hns
      have HKB := Lib.hid hkb
      have HMD := Lib.hid hlv.made
      have HPR := Lib.hid hpre
      have HBG := Lib.hid hbig
      have HBD := Lib.hid hlv.bad
      have HWR := Lib.hid (hlv.wrong.trans hp0)
      clear hlv hfull hiok hmd hns hpre hbig hok hmu hmu2 hkb hk8 hcall hvf hp0
      have HPE := Lib.hid (fun e => playS_err (s := s) (pre := pre) (z0 := z0) HNS.out e)
      have HPB := Lib.hid (fun M (hM : M = 16777216) e => playS_big (s := s) (pre := pre) (z0 := z0) hM HNS.out e)
      have HPO := Lib.hid (fun M (hM : M = 16777216) e => playS_ok (s := s) (pre := pre) (z0 := z0) hM HNS.out e)
      obtain ⟨Z, hZ⟩ : ∃ Z, Z = (playS s pre z0 k).2 := ⟨_, rfl⟩
      obtain ⟨Y, hY⟩ : ∃ Y, Y = stepS s pre Z := ⟨_, rfl⟩
      rw [← hZ] at HPE HPB HPO HC HMD HPR HBG HT2
      rw [← hY] at HPE HPB HPO
      have HC2 : Hid (Calls Try.prog f #[.pointer (some ⟨gm, 0, none⟩)] wr (RetFull B gm gr gw vb1 (fun q => X q ∨ (Value.slice ob t.length kb).ownBlock = some q) s Z mr Y wr)) := Lib.hid (by rw [hY]; exact HC.out)
      clear HC hY hZ
      go_upto_region 3 with ((with_reducible refine HC2.out.mono ?_); rintro e w2 ⟨c, p2, H2, vb2, m2, rfl, hf2, ho1, ho2, hkp, hgd, hbd⟩; have HF2 := Lib.hid hf2; have HOA := Lib.hid ho1; have HOB := Lib.hid ho2; have HKP := Lib.hid hkp; have HGD := Lib.hid hgd; have HBD2 := Lib.hid hbd; clear hf2 ho1 ho2 hkp hgd hbd)
      have HFU := Lib.hid (HF.out.mono (S' := FSet gm gr gw vb m.vs) (fun _ e => e))
      have HBO2 := Lib.hid (HBO.out.fx HF2.out (fun q e z => HSP.out q z e))
      have HFX := Lib.hid (ffx_next HF.out HK1.out HK2.out HF2.out)
      have HSP2 : Hid (∀ q, FSet gm gr gw vb2 m2.vs q → (Value.slice ob t.length kb).ownBlock ≠ some q) := Lib.hid (fun q e z => by
        have hlt := (HBO.out.lt q z).2
        rcases e with (e | e | e | e) | e
        · exact HSP.out q (.inl (.inl e)) z
        · exact HSP.out q (.inl (.inr (.inl e))) z
        · exact HSP.out q (.inl (.inr (.inr (.inl e)))) z
        · rcases HOA.out q e with h | h
          · exact HSP.out q (.inl (.inr (.inr (.inr h)))) z
          · omega
        · rcases HOB.out q e with h | h
          · exact HSP.out q (.inr h) z
          · omega)
      have HK1' : Hid (∀ q, vb2.ownBlock = some q → vb.ownBlock = some q ∨ w.heap.size ≤ q) := Lib.hid (fun q e => by
        rcases HOA.out q e with h | h
        · exact HK1.out q h
        · exact .inr (Nat.le_trans HF.out.size h))
      have HK2' : Hid (∀ q, m2.vs.ownBlock = some q → m.vs.ownBlock = some q ∨ w.heap.size ≤ q) := Lib.hid (fun q e => by
        rcases HOB.out q e with h | h
        · exact HK2.out q h
        · exact .inr (Nat.le_trans HF.out.size h))
      have HTL2 : Hid (m2.told = m.told) := Lib.hid (HKP.out.2.1.trans HTL.out)
      have HMD2 : Hid (m2.made = Z.h.length - pre) := Lib.hid (HKP.out.1.trans HMD.out)
      clear HFU
      by_cases he : Y.1 = 0
      · have he2 : ((Y.1 : Int) != 0) = false := by rw [he]; rfl
        obtain ⟨hfull, hyh⟩ := HGD.out he
        have HFULL := Lib.hid hfull
        have HYH := Lib.hid hyh
        have c7 : w2.cell? ⟨gm, 7, none⟩ = some (.int .i64 (m2.made : Nat)) := hfull.f0.mach.box.cell (by decide)
        have g2 := hfull.f0.mach.box.blk.2
        obtain ⟨r, hr⟩ : ∃ r, r = 16777216 - m2.made := ⟨_, rfl⟩
        have hmle : m2.made ≤ 16777216 := by rw [HMD2.out]; exact HBG.out
        have hri : wrap64 ((16777216 : Int) - (m2.made : Nat)) = (r : Nat) := by rw [IntWalk.wrap64_in _ ⟨by omega, by omega⟩]; omega
        have HR := Lib.hid hr
        have HMLE := Lib.hid hmle
        clear hfull hyh hr hmle
        go_upto_region 6 with (fail)
        rw [hri]
        by_cases hbg : r < c.size
        · have hb2 : decide ((c.size : Int) > (r : Nat)) = true := by rw [decide_eq_true_eq]; omega
          obtain ⟨cr, hcr, hsl⟩ := slice_to c r (by omega)
          have HSL := Lib.hid hsl
          clear hsl
          have hcrs : cr.size = r := by rw [← bys_len, hcr, List.length_take, bys_len]; omega
          have HCR := Lib.hid hcr
          have HCS := Lib.hid hcrs
          have hF0 := HFULL.out.f0
          have c10 : w2.cell? ⟨gm, 10, none⟩ = some (.int .i64 (m2.wrong : Nat)) := hF0.mach.box.cell (by decide)
          have f10 := hF0.mach.box.free 10
          obtain ⟨hS3, hG3⟩ := hF0.mach.box.set 10 (.int .i64 3) (m' := { m2 with wrong := 3 }) rfl
          obtain ⟨hU3, hF3⟩ := hF0.mset hS3 hG3 rfl
          have c73 : (w2.setCell ⟨gm, 10, none⟩ (.int .i64 3)).cell? ⟨gm, 7, none⟩ = some (.int .i64 (m2.made : Nat)) := hU3.mach.box.cell (by decide)
          have f73 := hU3.mach.box.free 7
          have g3 := hU3.mach.box.blk.2
          obtain ⟨hS4, hG4⟩ := hU3.mach.box.set 7 (.int .i64 ((m2.made + r : Nat) : Int)) (m' := { m2 with wrong := 3, made := m2.made + r }) rfl
          obtain ⟨hU4, hF4⟩ := hU3.mset hS4 hG4 rfl
          have HU4 := Lib.hid hU4
          have HF4 := Lib.hid (hF3.trans hF4)
          have hadd : wrap64 (((m2.made : Nat) : Int) + (r : Nat)) = ((m2.made + r : Nat) : Int) := by
            have h1 := HR.out
            have h2 := HMLE.out
            rw [IntWalk.wrap64_in _ ⟨by omega, by omega⟩]; omega
          clear hS3 hG3 hU3 hF3 hS4 hG4 hU4 hF4 hF0
          go_upto_region 10 with ((with_reducible show wpList _ _ _ (Oper.mk _ (.slice _ _ _ _ _) _ _ _ _ :: _) _ _); refine wpList_slice_by rfl 9 (.tmp 55) none (some (.tmp 56)) none rfl _ (HSL.out _) ?_)
          try rw [hadd]
          have HF4' := Lib.hid (ffx_next (vs' := m2.vs) HFX.out (fun q e => HK1'.out q e) (fun q e => HK2'.out q e) HF4.out)
          have HBO4 := Lib.hid (HBO2.out.fx HF4.out (fun q e z => HSP2.out q z e))
          generalize hw4 : World.setCell (World.setCell w2 ⟨gm, 10, none⟩ _) ⟨gm, 7, none⟩ _ = w4
          have hw5 : (w2.setCell ⟨gm, 10, none⟩ (.int .i64 3)).setCell ⟨gm, 7, none⟩ (.int .i64 ((m2.made + r : Nat) : Int)) = w4 := hw4
          rw [hw5] at HU4 HF4 HF4' HBO4
          obtain ⟨M, hM⟩ : ∃ M : Nat, M = 16777216 := ⟨_, rfl⟩
          rw [← hM] at HR HMLE
          have h4 := congrArg List.length HYH.out
          rw [List.length_append, bys_len] at h4
          have hMY := ar1 HR.out HMD2.out HPR.out h4 hbg
          have hMh := ar2 HR.out HMD2.out HMLE.out
          have hP := HPB.out M hM he hMY
          have hL4 : LiveB w4 B gm gr gw vb2 (fun q => X q ∨ (Value.slice ob t.length kb).ownBlock = some q) s pre z0 { m2 with wrong := 3, made := m2.made + r } (k + 1) := by
            refine ⟨HKB.out, by rw [hP], ?_, ⟨_, _, _, HU4.out⟩, fun e => by rw [hP] at e; exact absurd e (show ¬ (3 : Nat) = 0 by decide)⟩
            rw [hP]
            show m2.made + r = (List.take (pre + M) Y.2.h).length - pre
            rw [List.length_take]
            exact ar3 hMh HMD2.out hMY
          obtain ⟨q1, q2, q3⟩ := ar4 hMh HPR.out
          have hTX : (playS s pre z0 (k + 1)).2.h.drop pre = t1 ++ (t ++ bys cr) := by
            rw [hP, HCR.out]
            show (List.take (pre + M) Y.2.h).drop pre = _
            rw [HYH.out, List.take_append, List.take_of_length_le q1, List.drop_append, q2, List.drop_zero, HT2.out, List.append_assoc, q3]
          have HL4 := Lib.hid hL4
          have HTX4 := Lib.hid hTX
          have HLN : Hid ((bytesV t).length + cr.size ≤ 4294967296) := Lib.hid (by
            have h1 := congrArg List.length HT2.out
            rw [List.length_drop, List.length_append] at h1
            rw [bytesV_length, hcrs]
            exact ar5 hMh h1 hM)
          have HSZ : Hid (w.heap.size ≤ w4.heap.size) := Lib.hid HF4'.out.size
          clear hL4 hTX hP hMY hMh hadd HR HMLE hM
          go_wp2_with (at_builtin; go_loud (refine wpList_app_strF rfl (.tmp 70) (.tmp 71) 43 9 rfl w.heap.size 5 (.int .u8 0) 1 Try.underlying43 Try.underlying9 (by kernel_rfl) rfl (by decide) (.slice ob t.length kb) (bytesV t) rfl HBO4.out cr rfl HLN.out HSZ.out ?_); intro v5 w5 hown5 hg5 hk5; have HO5 := Lib.hid hown5; have HG5 := Lib.hid hg5; have HK5 := Lib.hid hk5; clear hown5 hg5 hk5)
          obtain ⟨hl5, hs5⟩ := HL4.out.app HSP2.out HG5.out HK5.out
          go_roundg (muI (8 * s.size) z0 + 2 - (k + 1))
          case measure => have := HKB.out; omega
          case rel =>
            refine ⟨k + 1, vb2, _, t ++ bys cr, Nat.le_succ_of_le HK.out, ?_, hl5, hs5, HF4'.out.grown HG5.out (fun q e => .inr (HBO.out.lt q e).1), HK1'.out, HK2'.out, HTL2.out, ⟨t1, HT1.out, HTX4.out⟩, rfl⟩
            rw [bytesV_append]; exact HO5.out
        · have hb2 : decide ((c.size : Int) > (r : Nat)) = false := by rw [decide_eq_false_iff_not]; omega
          have hF0 := HFULL.out.f0
          have f7 := hF0.mach.box.free 7
          have h4 := congrArg List.length HYH.out
          rw [List.length_append, bys_len] at h4
          have HM4 := Lib.hid h4
          have hadd : wrap64 (((m2.made : Nat) : Int) + (c.size : Nat)) = ((m2.made + c.size : Nat) : Int) := by
            have h1 := HR.out
            have h2 := HMLE.out
            rw [IntWalk.wrap64_in _ ⟨by omega, by omega⟩]; omega
          obtain ⟨hS4, hG4⟩ := hF0.mach.box.set 7 (.int .i64 ((m2.made + c.size : Nat) : Int)) (m' := { m2 with made := m2.made + c.size }) rfl
          have HU4 := Lib.hid (HFULL.out.mset hS4 hG4 rfl rfl rfl rfl rfl rfl rfl)
          have HF4 := Lib.hid (hF0.mset hS4 hG4 rfl).2
          clear hS4 hG4 hF0 h4
          go_upto_region 10 with (fail)
          try rw [hadd]
          have HF4' := Lib.hid (ffx_next (vs' := m2.vs) HFX.out (fun q e => HK1'.out q e) (fun q e => HK2'.out q e) HF4.out)
          have HBO4 := Lib.hid (HBO2.out.fx HF4.out (fun q e z => HSP2.out q z e))
          generalize hw4 : World.setCell w2 ⟨gm, 7, none⟩ _ = w4
          have hw5 : w2.setCell ⟨gm, 7, none⟩ (.int .i64 ((m2.made + c.size : Nat) : Int)) = w4 := hw4
          rw [hw5] at HU4 HF4 HF4' HBO4
          obtain ⟨M, hM⟩ : ∃ M : Nat, M = 16777216 := ⟨_, rfl⟩
          rw [← hM] at HR HMLE
          obtain ⟨hMY, hms⟩ := ar6 HR.out HMD2.out HPR.out HM4.out hbg HMLE.out
          have hP := HPO.out M hM he hMY
          have hL4 : LiveB w4 B gm gr gw vb2 (fun q => X q ∨ (Value.slice ob t.length kb).ownBlock = some q) s pre z0 { m2 with made := m2.made + c.size } (k + 1) := by
            refine ⟨HKB.out, ?_, by rw [hP]; exact hms, ⟨_, _, _, HU4.out.f0⟩, fun _ => by rw [hP]; exact HU4.out⟩
            rw [hP, he]
            exact HKP.out.2.2.2.trans HWR.out
          have hTX : (playS s pre z0 (k + 1)).2.h.drop pre = t1 ++ (t ++ bys c) := by
            rw [hP, HYH.out, List.drop_append, show pre - Z.h.length = 0 from Nat.sub_eq_zero_of_le HPR.out, List.drop_zero, HT2.out, List.append_assoc]
          have HL4 := Lib.hid hL4
          have HTX4 := Lib.hid hTX
          have HLN : Hid ((bytesV t).length + c.size ≤ 4294967296) := Lib.hid (by
            have h1 := congrArg List.length HT2.out
            rw [List.length_drop, List.length_append] at h1
            rw [bytesV_length]
            exact ar7 hMY h1 HPR.out HM4.out hM)
          have HSZ : Hid (w.heap.size ≤ w4.heap.size) := Lib.hid HF4'.out.size
          clear hL4 hTX hP hMY hms hadd HR HMLE hM
          go_wp2_with (at_builtin; go_loud (refine wpList_app_strF rfl (.tmp 70) (.tmp 71) 43 9 rfl w.heap.size 5 (.int .u8 0) 1 Try.underlying43 Try.underlying9 (by kernel_rfl) rfl (by decide) (.slice ob t.length kb) (bytesV t) rfl HBO4.out c rfl HLN.out HSZ.out ?_); intro v5 w5 hown5 hg5 hk5; have HO5 := Lib.hid hown5; have HG5 := Lib.hid hg5; have HK5 := Lib.hid hk5; clear hown5 hg5 hk5)
          obtain ⟨hl5, hs5⟩ := HL4.out.app HSP2.out HG5.out HK5.out
          go_roundg (muI (8 * s.size) z0 + 2 - (k + 1))
          case measure => have := HKB.out; omega
          case rel =>
            refine ⟨k + 1, vb2, _, t ++ bys c, Nat.le_succ_of_le HK.out, ?_, hl5, hs5, HF4'.out.grown HG5.out (fun q e => .inr (HBO.out.lt q e).1), HK1'.out, HK2'.out, HTL2.out, ⟨t1, HT1.out, HTX4.out⟩, rfl⟩
            rw [bytesV_append]; exact HO5.out
      · have he2 : ((Y.1 : Int) != 0) = true := by simpa using he
        have hB2 := HBD2.out he
        have c10 : w2.cell? ⟨gm, 10, none⟩ = some (.int .i64 (m2.wrong : Nat)) := hB2.mach.box.cell (by decide)
        have f10 := hB2.mach.box.free 10
        have g2 := hB2.mach.box.blk.2
        obtain ⟨hS3, hG3⟩ := hB2.mach.box.set 10 (.int .i64 (Y.1 : Nat)) (m' := { m2 with wrong := Y.1 }) rfl
        obtain ⟨hU3, hF3⟩ := hB2.mset hS3 hG3 rfl
        have HU3 := Lib.hid hU3
        have HF3 := Lib.hid hF3
        clear hS3 hG3 hU3 hF3 hB2
        go_upto_region 11 with (fail)
        have HF3' := Lib.hid (ffx_next (vs' := m2.vs) HFX.out (fun q e => HK1'.out q e) (fun q e => HK2'.out q e) HF3.out)
        have HBO3 := Lib.hid (HBO2.out.fx HF3.out (fun q e z => HSP2.out q z e))
        generalize w2.setCell ⟨gm, 10, none⟩ (.int .i64 (Y.1 : Nat)) = w3 at *
        have HCV := Lib.hid (run_bytes_string (P := Try.prog) w3 43 9 5 Try.underlying43 Try.underlying5 Try.underlying9 (.slice ob t.length kb) t HBO3.out.sl)
        have c9 : w3.cell? ⟨gm, 9, none⟩ = some (.string m2.waits) := HU3.out.mach.box.cell (by decide)
        have f9 := HU3.out.mach.box.free 9
        have g3 := HU3.out.mach.box.blk.2
        obtain ⟨hS9, hG9⟩ := HU3.out.mach.box.set 9 (.string ⟨t.toArray⟩) (m' := { m2 with wrong := Y.1, waits := ⟨t.toArray⟩ }) rfl
        have HS9 := Lib.hid hS9
        have HG9 := Lib.hid hG9
        have HL3 : Hid (LiveB w3 B gm gr gw vb2 X s pre z0 { m2 with wrong := Y.1 } (k + 1)) := Lib.hid ⟨HKB.out, by rw [HPE.out he], by rw [HPE.out he]; exact HMD2.out, ⟨_, _, _, HU3.out⟩, fun e => by rw [HPE.out he] at e; exact absurd e he⟩
        clear hS9 hG9
        go_wp2_with ((with_reducible show wpList _ _ _ (Oper.mk _ (.convert _ _ _) _ _ _ _ :: _) _ _); refine wpList_conv_by rfl 43 9 (.tmp 74) rfl _ HCV.out ?_)
        try rw [Exit.noGoto_normal]
        go_end0
        exact ⟨rfl, workEnd (Nat.le_succ_of_le HK.out) HL3.out (fun q e => e) HF3'.out HK1'.out HK2'.out HTL2.out HT1.out (by rw [HPE.out he]; exact HT2.out) HS9.out HG9.out (.inr (.inl (by rw [HPE.out he]; exact he)))⟩
    · have hst : n ≤ (t.length : Int) ∨ StopI (playS s pre z0 k) := by
        by_cases h1 : n ≤ (t.length : Int)
        · exact .inl h1
        · refine .inr ?_
          by_cases h2 : (playS s pre z0 k).1 = 0
          · refine .inr ?_
            apply Classical.byContradiction
            intro h3
            exact hgo ⟨by omega, by rw [(hlv.good h2).rel.1]; exact h3, by rw [hlv.wrong]; exact h2⟩
          · exact .inl h2
      have HST := Lib.hid hst
      have HCV := Lib.hid (run_bytes_string (P := Try.prog) wr 43 9 5 Try.underlying43 Try.underlying5 Try.underlying9 (.slice ob t.length kb) t HBO.out.sl)
      obtain ⟨hS9, hG9⟩ := hlv.box.set 9 (.string ⟨t.toArray⟩) (m' := { mr with waits := ⟨t.toArray⟩ }) rfl
      have HS9 := Lib.hid hS9
      have HG9 := Lib.hid hG9
      clear hlv hst hS9 hG9
      rcases (show ¬ ((t.length : Int) < n) ∨ ((t.length : Int) < n ∧ mr.at_ = 3) ∨ ((t.length : Int) < n ∧ mr.at_ ≠ 3 ∧ mr.wrong ≠ 0) by omega) with h1 | ⟨h1, h2⟩ | ⟨h1, h2, h3⟩
      · have h1' : decide ((t.length : Int) < n) = false := decide_eq_false h1
        go_wp2_with ((with_reducible show wpList _ _ _ (Oper.mk _ (.convert _ _ _) _ _ _ _ :: _) _ _); refine wpList_conv_by rfl 43 9 (.tmp 74) rfl _ HCV.out ?_)
        try rw [Exit.noGoto_normal]
        go_end0
        exact ⟨rfl, workEnd HK.out HLV.out (fun q e => .inl e) HF.out HK1.out HK2.out HTL.out HT1.out HT2.out HS9.out HG9.out HST.out⟩
      · have h1' : decide ((t.length : Int) < n) = true := decide_eq_true h1
        have h2' : ((mr.at_ : Int) != 3) = false := by rw [h2]; rfl
        go_wp2_with ((with_reducible show wpList _ _ _ (Oper.mk _ (.convert _ _ _) _ _ _ _ :: _) _ _); refine wpList_conv_by rfl 43 9 (.tmp 74) rfl _ HCV.out ?_)
        try rw [Exit.noGoto_normal]
        go_end0
        exact ⟨rfl, workEnd HK.out HLV.out (fun q e => .inl e) HF.out HK1.out HK2.out HTL.out HT1.out HT2.out HS9.out HG9.out HST.out⟩
      · have h1' : decide ((t.length : Int) < n) = true := decide_eq_true h1
        have h2' : ((mr.at_ : Int) != 3) = true := by simpa using (by omega : ¬ (mr.at_ : Int) = 3)
        have h3' : ((mr.wrong : Int) == 0) = false := by simpa using h3
        go_wp2_with ((with_reducible show wpList _ _ _ (Oper.mk _ (.convert _ _ _) _ _ _ _ :: _) _ _); refine wpList_conv_by rfl 43 9 (.tmp 74) rfl _ HCV.out ?_)
        try rw [Exit.noGoto_normal]
        go_end0
        exact ⟨rfl, workEnd HK.out HLV.out (fun q e => .inl e) HF.out HK1.out HK2.out HTL.out HT1.out HT2.out HS9.out HG9.out HST.out⟩
end Go.Cm

/- The walks of a machine's step, and of what it tells of itself. Conditions: the machine is there. -/
namespace Go.Cm
open Go.RowKit Go.Proofs

/-- the whole text -/
noncomputable def textS (s : ByteArray) (pre : Nat) (z0 : IS) : Byts := (finS s pre z0).2.h.drop pre
theorem step_plain {s : ByteArray} {pre : Nat} {z0 : IS} (hi : IOk (8 * s.size) pre z0) {k : Nat} {t wt : Byts} (h : (playS s pre z0 k).2.h.drop pre = t ++ wt) {n : Nat} (hn : 1 ≤ n) (hst : n ≤ wt.length ∨ StopI (playS s pre z0 k)) :
    ((textS s pre z0).drop t.length).take n = wt.take n ∧ (wt = [] → (textS s pre z0).length ≤ t.length ∧ (finS s pre z0).1 = (playS s pre z0 k).1) ∧ (wt ≠ [] → t.length < (textS s pre z0).length) ∧ (StopI (playS s pre z0 k) → textS s pre z0 = t ++ wt ∧ finS s pre z0 = playS s pre z0 k) := by
  obtain ⟨c, hc⟩ := fin_app (N := numS s) (bs := bys s) (t8 s) hi k
  have hp := (playS_keep (s := s) hi k).1.1
  have htx : textS s pre z0 = t ++ wt ++ c := by
    show (finI _ _ _ _ _).2.h.drop pre = _
    rw [hc, ← h]
    show _ = List.drop pre (playI (numS s) (8 * s.size) pre (bys s) z0 k).2.h ++ c
    have hp2 : pre ≤ (playI (numS s) (8 * s.size) pre (bys s) z0 k).2.h.length := hp
    rw [List.drop_append, Nat.sub_eq_zero_of_le hp2, List.drop_zero]
  have hfin : StopI (playS s pre z0 k) → textS s pre z0 = t ++ wt ∧ finS s pre z0 = playS s pre z0 k := fun hs => by
    have e : finS s pre z0 = playS s pre z0 k := fin_of (t8 s) hi hs
    exact ⟨by unfold textS; rw [e, h], e⟩
  refine ⟨?_, fun hw => ?_, fun hw => ?_, hfin⟩
  · rcases hst with h1 | h1
    · rw [htx, List.append_assoc, List.drop_left, List.take_append_of_le_length h1]
    · rw [(hfin h1).1, List.drop_left]
  · have hs : StopI (playS s pre z0 k) := hst.resolve_left (by rw [hw, List.length_nil]; omega)
    obtain ⟨h1, h2⟩ := hfin hs
    rw [h1, h2, hw, List.append_nil]
    exact ⟨Nat.le_refl _, rfl⟩
  · rw [htx, List.length_append, List.length_append]
    have : 0 < wt.length := List.length_pos_iff.2 hw
    omega
/-- what a step answers -/
def RetStep (B gm gr gw : Nat) (vb : Value) (X : Nat → Prop) (s : ByteArray) (pre : Nat) (z0 : IS) (m : MV) (k0 : Nat) (n : Int) (w : World) (e : Ending) (w' : World) : Prop :=
  ∃ (c : ByteArray) (er : Nat), e = .returned (.tuple #[.string c, .int .i64 (er : Nat)]) ∧ (n < 1 → bys c = [] ∧ er = 1) ∧ (1 ≤ n → bys c = ((textS s pre z0).drop m.told).take n.toNat ∧ er = if (textS s pre z0).length ≤ m.told then (finS s pre z0).1 else 0) ∧
    After w w' B gm gr gw vb X s pre z0 m k0 (fun _ m' _ => m'.told = m.told + (bys c).length)
set_option maxRecDepth 100000 in
set_option maxHeartbeats 4000000 in
theorem stepM {w : World} {B gm gr gw pre k0 : Nat} {vb : Value} {X : Nat → Prop} {s : ByteArray} {z0 : IS} {m : MV} (hL : Live w B gm gr gw vb X s pre z0 m k0) (hi : IOk (8 * s.size) pre z0) (hz : z0.st = []) (hs : s.size ≤ 4000000) (hX : ∀ q, X q → q < w.heap.size) (n : Int) :
    Calls Try.prog 30 #[.pointer (some ⟨gm, 0, none⟩), .int .i64 n] w (RetStep B gm gr gw vb X s pre z0 m k0 n w) := by
  have HTH := Lib.hid (thereM hL.live.box)
  by_cases hn : n < 1
  · have hn' : decide (n < 1) = true := decide_eq_true hn
    have HL := Lib.hid hL
    clear hL hi
    go_enter Try.func30, Try.ntmps30
    go_wp2_with ((with_reducible go_at_call 59); (with_reducible refine HTH.out.mono ?_); rintro e w' ⟨rfl, hw⟩; rw [hw]; clear hw)
    go_ret2
    exact ⟨⟨#[]⟩, 1, rfl, fun _ => ⟨rfl, rfl⟩, fun h => by omega, vb, m, k0, Nat.le_refl _, HL.out, Fx.refl _ _, fun q e => .inl e, fun q e => .inl e, rfl⟩
  · have hn' : decide (n < 1) = false := decide_eq_false hn
    obtain ⟨N, rfl⟩ : ∃ N : Nat, n = N := ⟨n.toNat, by omega⟩
    have hN : 1 ≤ N := by omega
    have HN := Lib.hid hN
    have HWK := Lib.hid (workM hL hi hz hs hX (N : Int))
    have HI := Lib.hid hi
    clear hL hi hN hn
    go_enter Try.func30, Try.ntmps30
    go_upto_region 6 with (first | ((with_reducible go_at_call 59); (with_reducible refine HTH.out.mono ?_); rintro e w' ⟨rfl, hw⟩; rw [hw]; clear hw) | ((with_reducible go_at_call 60); (with_reducible refine HWK.out.mono ?_); rintro e w1 ⟨rfl, haf⟩; have HAF := Lib.hid haf; clear haf))
    obtain ⟨vb1, m1, k1, hk, ⟨hlv, t, ht, htx⟩, hfx, ho1, ho2, htl, hst⟩ := HAF.out
    have hst' : N ≤ (bys m1.waits).length ∨ StopI (playS s pre z0 k1) := hst.imp (fun h => by rw [bys_len]; omega) id
    obtain ⟨p1, p2, p3, -⟩ := step_plain HI.out htx HN.out hst'
    have HLV := Lib.hid hlv
    have c9 : w1.cell? ⟨gm, 9, none⟩ = some (.string m1.waits) := hlv.box.cell (by decide)
    have c10 : w1.cell? ⟨gm, 10, none⟩ = some (.int .i64 (m1.wrong : Nat)) := hlv.box.cell (by decide)
    have c8 : w1.cell? ⟨gm, 8, none⟩ = some (.int .i64 (m1.told : Nat)) := hlv.box.cell (by decide)
    have f9 := hlv.box.free 9
    have hgm := hlv.box.blk.2
    by_cases hw : m1.waits = ⟨#[]⟩
    · rw [hw] at c9
      have hwb : bys m1.waits = [] := by rw [hw]; rfl
      obtain ⟨q1, q2⟩ := p2 hwb
      have HQ : Hid (((textS s pre z0).drop m.told).take N = [] ∧ (if (textS s pre z0).length ≤ m.told then (finS s pre z0).1 else 0) = m1.wrong) := Lib.hid (by
        rw [← htl, ← ht, p1, hwb, if_pos q1, q2, hlv.wrong]
        exact ⟨by simp, rfl⟩)
      have HEND : Hid (After w w1 B gm gr gw vb X s pre z0 m k0 (fun _ m' _ => m'.told = m.told + 0)) := Lib.hid ⟨vb1, m1, k1, hk, ⟨hlv, t, ht, htx⟩, hfx, ho1, ho2, htl⟩
      clear hlv ht htx hfx ho1 ho2 htl hst hst' p1 p2 p3 hw hwb q1 q2 hk c8 f9
      go_wp2
      refine wp_region_ext (by kernel_rfl) (by kernel_rfl) ?_
      repeat (go_big_quiet_step (fail))
      refine wpQuiet_nil ?_
      rintro w2 ⟨y, rfl⟩
      go_wp2
      go_ret2
      obtain ⟨vb1, m1', k1, hk, ⟨hlv, htx⟩, hfx, ho1, ho2, htl⟩ := HEND.out
      have hb := ext_below w1 y
      refine ⟨⟨#[]⟩, m1.wrong, rfl, fun h => absurd h (by have := HN.out; omega), fun _ => ⟨HQ.out.1.symm, HQ.out.2.symm⟩, vb1, m1', k1, hk, ⟨hlv.up hb, htx⟩, hfx.trans (fx_below (S := FSet gm gr gw vb m.vs) hb), ho1, ho2, htl⟩
    · have hwb : bys m1.waits ≠ [] := fun e => hw (bys_inj e)
      have hwi : m1.waits.toList.isEmpty = false := by rw [← decide_eq_emptyBytes]; exact decide_eq_false hw
      have q3 := p3 hwb
      obtain ⟨K, hK⟩ : ∃ K, K = min N m1.waits.size := ⟨_, rfl⟩
      have hKs : K ≤ m1.waits.size := by omega
      obtain ⟨cr, hcr, hsl⟩ := slice_to m1.waits K hKs
      obtain ⟨cd, hcd, hsl2⟩ := slice_from m1.waits K hKs
      have HK := Lib.hid hK
      have HS1 := Lib.hid hsl
      have HS2 := Lib.hid hsl2
      have hcrl : (bys cr).length = K := by rw [hcr, List.length_take, bys_len]; omega
      have htk : (bys m1.waits).take N = bys cr := by
        rw [hcr, hK, ← bys_len]
        by_cases h : N ≤ (bys m1.waits).length
        · rw [Nat.min_eq_left h]
        · rw [Nat.min_eq_right (by omega), List.take_of_length_le (by omega), List.take_length]
      have HQ : Hid (((textS s pre z0).drop m.told).take N = bys cr ∧ (if (textS s pre z0).length ≤ m.told then (finS s pre z0).1 else 0) = 0) := Lib.hid (by
        rw [← htl, ← ht, p1, htk, if_neg (by omega)]
        exact ⟨rfl, rfl⟩)
      have HTX : Hid ((playS s pre z0 k1).2.h.drop pre = (t ++ bys cr) ++ bys cd) := Lib.hid (by rw [htx, hcr, hcd, List.append_assoc, List.take_append_drop])
      have HTL2 : Hid ((t ++ bys cr).length = m1.told + K) := Lib.hid (by rw [List.length_append, ht, hcrl])
      have HCL := Lib.hid hcrl
      obtain ⟨hS9, hG9⟩ := hlv.box.set 9 (.string cd) (m' := { m1 with waits := cd }) rfl
      obtain ⟨hL9, hF9⟩ := hlv.mset hS9 hG9 rfl
      have c89 : (w1.setCell ⟨gm, 9, none⟩ (.string cd)).cell? ⟨gm, 8, none⟩ = some (.int .i64 (m1.told : Nat)) := hL9.box.cell (by decide)
      have f89 := hL9.box.free 8
      have hgm9 := hL9.box.blk.2
      obtain ⟨hS8, hG8⟩ := hL9.box.set 8 (.int .i64 ((m1.told + K : Nat) : Int)) (m' := { m1 with waits := cd, told := m1.told + K }) rfl
      obtain ⟨hL8, hF8⟩ := hL9.mset hS8 hG8 rfl
      have HL8 := Lib.hid hL8
      have HF8 := Lib.hid (ffx_next hfx ho1 ho2 (hF9.trans hF8))
      have HO1 := Lib.hid ho1
      have HO2 := Lib.hid ho2
      have HKK := Lib.hid hk
      have HTT := Lib.hid htl
      have hbg := (playS_keep (s := s) HI.out k1).1.2
      have htb : m1.told + K ≤ 16777216 := by
        have h1 := congrArg List.length htx
        rw [List.length_drop, List.length_append, bys_len] at h1
        omega
      have hadd : wrap64 (((m1.told : Nat) : Int) + (K : Nat)) = ((m1.told + K : Nat) : Int) := by rw [IntWalk.wrap64_in _ ⟨by omega, by omega⟩]; omega
      clear hlv ht htx hfx ho1 ho2 htl hst hst' p1 p2 p3 hwb q3 hk hS9 hG9 hL9 hF9 hS8 hG8 hL8 hF8 htk hcrl hcr hcd hsl hsl2 hK hbg htb hKs
      go_upto_region 12 with (first | ((with_reducible show wpList _ _ _ (Oper.mk _ (.call _) _ _ _ _ :: _) _ _); refine wpList_min_by rfl (.tmp 27) (.tmp 32) 3 3 rfl N m1.waits.size K rfl rfl HK.out ?_) | ((with_reducible show wpList _ _ _ (Oper.mk _ (.slice _ _ _ _ _) _ _ _ _ :: _) _ _); refine wpList_slice_by rfl 9 (.tmp 37) none (some (.tmp 38)) none rfl _ (HS1.out _) ?_) | ((with_reducible show wpList _ _ _ (Oper.mk _ (.slice _ _ _ _ _) _ _ _ _ :: _) _ _); refine wpList_slice_by rfl 9 (.tmp 44) (some (.tmp 45)) none none rfl _ (HS2.out _) ?_))
      try rw [hadd]
      generalize hw4 : World.setCell (World.setCell w1 ⟨gm, 9, none⟩ _) ⟨gm, 8, none⟩ _ = w4
      have hw5 : (w1.setCell ⟨gm, 9, none⟩ (.string cd)).setCell ⟨gm, 8, none⟩ (.int .i64 ((m1.told + K : Nat) : Int)) = w4 := hw4
      rw [hw5] at HL8 HF8
      go_wp2
      go_ret2
      exact ⟨cr, 0, rfl, fun h => absurd h (by have := HN.out; omega), fun _ => ⟨HQ.out.1.symm, HQ.out.2.symm⟩, vb1, _, k1, HKK.out, ⟨HL8.out, _, HTL2.out, HTX.out⟩, HF8.out, HO1.out, HO2.out, by show m1.told + K = _; rw [HTT.out, HCL.out]⟩
end Go.Cm

/- The walks of Done, Out and End. Conditions: the machine is there. -/
namespace Go.Cm
open Go.RowKit Go.Proofs

/-- what Done answers -/
def RetDone (B gm gr gw : Nat) (vb : Value) (X : Nat → Prop) (s : ByteArray) (pre : Nat) (z0 : IS) (m : MV) (k0 : Nat) (w : World) (e : Ending) (w' : World) : Prop :=
  ∃ b : Bool, e = .returned (.bool b) ∧ (b = true ↔ (textS s pre z0).length ≤ m.told ∧ (finS s pre z0).1 = 0) ∧
    After w w' B gm gr gw vb X s pre z0 m k0 (fun _ m' k' => m'.told = m.told ∧ (b = true → playS s pre z0 k' = finS s pre z0))
set_option maxRecDepth 100000 in
set_option maxHeartbeats 4000000 in
theorem doneM {w : World} {B gm gr gw pre k0 : Nat} {vb : Value} {X : Nat → Prop} {s : ByteArray} {z0 : IS} {m : MV} (hL : Live w B gm gr gw vb X s pre z0 m k0) (hi : IOk (8 * s.size) pre z0) (hz : z0.st = []) (hs : s.size ≤ 4000000) (hX : ∀ q, X q → q < w.heap.size) :
    Calls Try.prog 31 #[.pointer (some ⟨gm, 0, none⟩)] w (RetDone B gm gr gw vb X s pre z0 m k0 w) := by
  have HTH := Lib.hid (thereM hL.live.box)
  have c9 : w.cell? ⟨gm, 9, none⟩ = some (.string m.waits) := hL.live.box.cell (by decide)
  have hgm := hL.live.box.blk.2
  by_cases hw : m.waits = ⟨#[]⟩
  · have HWK := Lib.hid (workM hL hi hz hs hX 1)
    have HI := Lib.hid hi
    rw [hw] at c9
    clear hL hi
    go_enter Try.func31, Try.ntmps31
    go_upto_region 4 with (first | ((with_reducible go_at_call 59); (with_reducible refine HTH.out.mono ?_); rintro e w' ⟨rfl, hw⟩; rw [hw]; clear hw) | ((with_reducible go_at_call 60); (with_reducible refine HWK.out.mono ?_); rintro e w1 ⟨rfl, haf⟩; have HAF := Lib.hid haf; clear haf))
    obtain ⟨vb1, m1, k1, hk, ⟨hlv, t, ht, htx⟩, hfx, ho1, ho2, htl, hst⟩ := HAF.out
    have hst' : 1 ≤ (bys m1.waits).length ∨ StopI (playS s pre z0 k1) := hst.imp (fun h => by rw [bys_len]; omega) id
    obtain ⟨p1, p2, p3, p4⟩ := step_plain HI.out htx (Nat.le_refl 1) hst'
    have hEND : ∀ b : Bool, (b = true → playS s pre z0 k1 = finS s pre z0) → After w w1 B gm gr gw vb X s pre z0 m k0 (fun _ m' k' => (m'.told = m.told ∧ (b = true → playS s pre z0 k' = finS s pre z0))) := fun b hb => ⟨vb1, m1, k1, hk, ⟨hlv, t, ht, htx⟩, hfx, ho1, ho2, htl, hb⟩
    have HEND := Lib.hid hEND
    have c9 : w1.cell? ⟨gm, 9, none⟩ = some (.string m1.waits) := hlv.box.cell (by decide)
    have c10 : w1.cell? ⟨gm, 10, none⟩ = some (.int .i64 (m1.wrong : Nat)) := hlv.box.cell (by decide)
    have hgm := hlv.box.blk.2
    by_cases hw1 : m1.waits = ⟨#[]⟩
    · have hwb : bys m1.waits = [] := by rw [hw1]; rfl
      obtain ⟨q1, q2⟩ := p2 hwb
      have hs1 : StopI (playS s pre z0 k1) := hst'.resolve_left (by rw [hwb]; exact Nat.not_succ_le_zero 0)
      have hq4 := (p4 hs1).2
      have hD : ((textS s pre z0).length ≤ m.told ∧ (finS s pre z0).1 = 0) ↔ m1.wrong = 0 := by
        rw [← htl, ← ht, hlv.wrong, q2]
        exact ⟨fun h => h.2, fun h => ⟨q1, h⟩⟩
      have HD := Lib.hid hD
      have HQ4 := Lib.hid hq4
      rw [hw1] at c9
      clear hlv ht htx hfx ho1 ho2 htl hst hst' p1 p2 p3 p4 hwb q1 q2 hk hs1 hD hq4 hEND
      by_cases h0 : m1.wrong = 0
      · rw [h0] at c10
        go_wp2
        go_ret
        exact ⟨true, rfl, ⟨fun _ => HD.out.2 h0, fun _ => rfl⟩, HEND.out true (fun _ => HQ4.out.symm)⟩
      · have h0' : ((m1.wrong : Int) == 0) = false := by simpa using h0
        go_wp2
        go_ret
        exact ⟨false, rfl, ⟨fun e => Bool.noConfusion e, fun e => absurd (HD.out.1 e) h0⟩, HEND.out false (fun e => Bool.noConfusion e)⟩
    · have hwb : bys m1.waits ≠ [] := fun e => hw1 (bys_inj e)
      have hwi : m1.waits.toList.isEmpty = false := by rw [← decide_eq_emptyBytes]; exact decide_eq_false hw1
      have q3 := p3 hwb
      have hD : ¬ ((textS s pre z0).length ≤ m.told ∧ (finS s pre z0).1 = 0) := fun h => by rw [← htl, ← ht] at h; omega
      have HD := Lib.hid hD
      clear hlv ht htx hfx ho1 ho2 htl hst hst' p1 p2 p3 p4 hwb q3 hk hD hEND
      go_wp2
      go_ret
      exact ⟨false, rfl, ⟨fun e => Bool.noConfusion e, fun e => absurd e HD.out⟩, HEND.out false (fun e => Bool.noConfusion e)⟩
  · have hwb : bys m.waits ≠ [] := fun e => hw (bys_inj e)
    have hwi : m.waits.toList.isEmpty = false := by rw [← decide_eq_emptyBytes]; exact decide_eq_false hw
    obtain ⟨t, ht, htx⟩ := hL.text
    obtain ⟨p1, p2, p3, p4⟩ := step_plain hi htx (Nat.le_refl 1) (.inl (List.length_pos_iff.2 hwb))
    have q3 := p3 hwb
    have hD : ¬ ((textS s pre z0).length ≤ m.told ∧ (finS s pre z0).1 = 0) := fun h => by rw [← ht] at h; omega
    have HD := Lib.hid hD
    have HL := Lib.hid hL
    clear hL hi ht htx p1 p2 p3 p4 q3 hwb hD
    go_enter Try.func31, Try.ntmps31
    go_wp2_with ((with_reducible go_at_call 59); (with_reducible refine HTH.out.mono ?_); rintro e w' ⟨rfl, hw⟩; rw [hw]; clear hw)
    go_ret
    exact ⟨false, rfl, ⟨fun e => Bool.noConfusion e, fun e => absurd e HD.out⟩, vb, m, k0, Nat.le_refl _, HL.out, Fx.refl _ _, fun q e => .inl e, fun q e => .inl e, rfl, fun e => Bool.noConfusion e⟩
/-- what End answers -/
def RetEnd (B gm gr gw : Nat) (vb : Value) (X : Nat → Prop) (s : ByteArray) (pre : Nat) (z0 : IS) (m : MV) (k0 : Nat) (w : World) (e : Ending) (w' : World) : Prop :=
  ∃ q : Nat, e = .returned (.int .i64 q) ∧ ((textS s pre z0).length ≤ m.told ∧ (finS s pre z0).1 = 0 → q = (finS s pre z0).2.p) ∧ (¬ ((textS s pre z0).length ≤ m.told ∧ (finS s pre z0).1 = 0) → q = 0) ∧ After w w' B gm gr gw vb X s pre z0 m k0 (fun _ m' _ => m'.told = m.told)
set_option maxRecDepth 100000 in
set_option maxHeartbeats 4000000 in
theorem endM {w : World} {B gm gr gw pre k0 : Nat} {vb : Value} {X : Nat → Prop} {s : ByteArray} {z0 : IS} {m : MV} (hL : Live w B gm gr gw vb X s pre z0 m k0) (hi : IOk (8 * s.size) pre z0) (hz : z0.st = []) (hs : s.size ≤ 4000000) (hX : ∀ q, X q → q < w.heap.size) :
    Calls Try.prog 32 #[.pointer (some ⟨gm, 0, none⟩)] w (RetEnd B gm gr gw vb X s pre z0 m k0 w) := by
  have HDN := Lib.hid (doneM hL hi hz hs hX)
  clear hL hi
  go_enter Try.func32, Try.ntmps32
  go_upto_region 1 with (fail)
  go_wp2_with (fail)
  (with_reducible refine HDN.out.mono ?_)
  rintro e w1 ⟨b, rfl, hb, vb1, m1, k1, hk, hlv, hfx, ho1, ho2, htl, hfin⟩
  have HB := Lib.hid hb
  cases b with
  | true =>
    have hD := hb.1 rfl
    have hp := hfin rfl
    have hfl := hlv.live.good (by rw [hp]; exact hD.2)
    have HAT := Lib.hid (atS hfl.f0.mach.rd)
    rw [hp] at HAT
    have c0 : w1.cell? ⟨gm, 0, none⟩ = some (.pointer (some ⟨gr, 0, none⟩)) := hfl.f0.mach.box.cell (by decide)
    have hgm := hfl.f0.mach.box.blk.2
    have HEND : Hid (After w w1 B gm gr gw vb X s pre z0 m k0 (fun _ m' _ => m'.told = m.told)) := Lib.hid ⟨vb1, m1, k1, hk, hlv, hfx, ho1, ho2, htl⟩
    have HD := Lib.hid hD
    clear hlv hfx ho1 ho2 htl hfin hk hb hD hp hfl
    go_wp2_with ((with_reducible go_at_call 61); (with_reducible refine HAT.out.mono ?_); rintro e w' ⟨rfl, hw⟩; rw [hw]; clear hw)
    go_ret
    exact ⟨_, rfl, fun _ => rfl, fun h => absurd HD.out h, HEND.out⟩
  | false =>
    have HEND : Hid (After w w1 B gm gr gw vb X s pre z0 m k0 (fun _ m' _ => m'.told = m.told)) := Lib.hid ⟨vb1, m1, k1, hk, hlv, hfx, ho1, ho2, htl⟩
    clear hlv hfx ho1 ho2 htl hfin hk hb
    go_wp2
    go_ret
    exact ⟨0, rfl, fun h => (by have := HB.out.2 h; cases this), fun _ => rfl, HEND.out⟩
end Go.Cm

/- The walks of a new machine, and of its starts. Conditions: as each says. -/
namespace Go.Cm
open Go.RowKit Go.Proofs

theorem stC_len (l : List (Nat × Nat)) : ∀ x ∈ l.map stC, x.length = 2 := by
  intro x hx; rw [List.mem_map] at hx; obtain ⟨y, -, rfl⟩ := hx; rfl
theorem stC_one (l : List (Nat × Nat)) : ∀ u ∈ (l.map stC).flatten, u.oneCell' = true := by
  intro u hu
  rw [List.mem_flatten] at hu
  obtain ⟨x, hx, hu⟩ := hu
  rw [List.mem_map] at hx
  obtain ⟨y, -, rfl⟩ := hx
  simp [stC] at hu
  rcases hu with rfl | rfl <;> rfl
/-- what Starts answers -/
def RetStarts (B gm gr gw : Nat) (vb : Value) (X : Nat → Prop) (s : ByteArray) (pre : Nat) (z0 : IS) (m : MV) (k0 : Nat) (w : World) (e : Ending) (w' : World) : Prop :=
  ∃ v : Value, e = .returned v ∧ ((textS s pre z0).length ≤ m.told ∧ (finS s pre z0).1 = 0 → OwnK 2 w' w.heap.size 59 v ((finS s pre z0).2.st.map stC)) ∧ (¬ ((textS s pre z0).length ≤ m.told ∧ (finS s pre z0).1 = 0) → v = .slice none 0 0) ∧ After w w' B gm gr gw vb X s pre z0 m k0 (fun vb' m' _ => m'.told = m.told ∧ ∀ q, v.ownBlock = some q → w.heap.size ≤ q ∧ ¬ FSet gm gr gw vb' m'.vs q)
set_option maxRecDepth 100000 in
set_option maxHeartbeats 4000000 in
theorem startsM {w : World} {B gm gr gw pre k0 : Nat} {vb : Value} {X : Nat → Prop} {s : ByteArray} {z0 : IS} {m : MV} (hL : Live w B gm gr gw vb X s pre z0 m k0) (hi : IOk (8 * s.size) pre z0) (hz : z0.st = []) (hs : s.size ≤ 4000000) (hX : ∀ q, X q → q < w.heap.size) :
    Calls Try.prog 35 #[.pointer (some ⟨gm, 0, none⟩)] w (RetStarts B gm gr gw vb X s pre z0 m k0 w) := by
  have HDN := Lib.hid (doneM hL hi hz hs hX)
  have HI := Lib.hid hi
  have HZ := Lib.hid hz
  have HS := Lib.hid hs
  clear hL hi hz hs
  go_enter Try.func35, Try.ntmps35
  go_upto_region 1 with (fail)
  go_wp2_with (fail)
  (with_reducible refine HDN.out.mono ?_)
  rintro e w1 ⟨b, rfl, hb, vb1, m1, k1, hk, hlv, hfx, ho1, ho2, htl, hfin⟩
  have HB := Lib.hid hb
  cases b with
  | true =>
    have hD := hb.1 rfl
    have hp := hfin rfl
    have hfl := hlv.live.good (by rw [hp]; exact hD.2)
    have hst := hfl.f0.sts
    have hstl : (playS s pre z0 k1).2.st.length ≤ 100000000 := by
      have h1 := playS_st (s := s) (pre := pre) HZ.out k1
      have h2 := hlv.live.kb
      have h3 := muI_le (T := 8 * s.size) z0
      have h4 := HS.out
      omega
    rw [hp] at hst hstl
    have HST := Lib.hid hst.sl
    have c11 : w1.cell? ⟨gm, 11, none⟩ = some m1.vs := hfl.f0.mach.box.cell (by decide)
    have hgm := hfl.f0.mach.box.blk.2
    have HLN : Hid (([] : List (List Value)).length + ((finS s pre z0).2.st.map stC).length ≤ 1000000000) := Lib.hid (by rw [List.length_map, List.length_nil]; omega)
    have HSZ : Hid (w.heap.size ≤ w1.heap.size) := Lib.hid hfx.size
    have HEND : Hid (∀ w5 (v : Value), w1.grownBy w5 none → (∀ q, v.ownBlock = some q → w1.heap.size ≤ q) → After w w5 B gm gr gw vb X s pre z0 m k0 (fun vb' m' _ => m'.told = m.told ∧ ∀ q, v.ownBlock = some q → w.heap.size ≤ q ∧ ¬ FSet gm gr gw vb' m'.vs q)) := Lib.hid (fun w5 v hg hv => by
      have hf : Fx (fun _ => False) w1 w5 := fx_grown hg (fun k e => by cases e)
      exact ⟨vb1, m1, k1, hk, ⟨hlv.live.fx hf (fun _ _ e => e) (fun _ e => e.elim), hlv.text⟩, hfx.trans (hf.mono (fun _ e => e.elim)), ho1, ho2, htl, fun q e => ⟨Nat.le_trans hfx.size (hv q e), fun z => by have h1 := hlv.live.lt q z; have h2 := hv q e; omega⟩⟩)
    have HD := Lib.hid hD
    clear hlv hfx ho1 ho2 htl hfin hk hb hD hp hfl hst hstl
    go_wp2_with (at_builtin; go_loud (refine wpList_appK 2 rfl (.const (.slice none 0 0)) (.tmp 9) 45 rfl w.heap.size 59 (.agg #[.int .i64 0, .int .i64 0]) 16 Try.underlying45 (by kernel_rfl) rfl (by decide) (by decide) (.slice none 0 0) [] rfl (OwnK.nil 2 w1 w.heap.size 59) m1.vs _ rfl HST.out (stC_len _) (stC_one _) HLN.out HSZ.out ?_); intro v5 w5 hown5 hg5 hk5; have HO5 := Lib.hid hown5; have HG5 := Lib.hid hg5; have HK5 := Lib.hid hk5; clear hown5 hg5 hk5)
    go_ret
    exact ⟨v5, rfl, fun _ => by simpa using HO5.out, fun h => absurd HD.out h, HEND.out _ v5 HG5.out (fun q e => (HK5.out q e).elim (fun h => by cases h) id)⟩
  | false =>
    have HEND : Hid (After w w1 B gm gr gw vb X s pre z0 m k0 (fun vb' m' _ => m'.told = m.told ∧ ∀ q, (Value.slice none 0 0).ownBlock = some q → w.heap.size ≤ q ∧ ¬ FSet gm gr gw vb' m'.vs q)) := Lib.hid ⟨vb1, m1, k1, hk, hlv, hfx, ho1, ho2, htl, fun q e => by cases e⟩
    clear hlv hfx ho1 ho2 htl hfin hk hb
    go_wp2
    go_ret
    exact ⟨_, rfl, fun h => (by have := HB.out.2 h; cases this), fun _ => rfl, HEND.out⟩
end Go.Cm

/- The walk of a new machine. Conditions: the text is not too long. -/
namespace Go.Cm
open Go.RowKit Go.Proofs

attribute [local irreducible] lastN
theorem newBad (s : ByteArray) (b : Int) (hs : s.size ≤ 4294967296) (hb : b < 0 ∨ 8 * (s.size : Int) < b) (w : World) : Calls Try.prog 56 #[.string s, .int .i64 b] w fun e w' => e = .returned (.tuple #[.pointer none, .int .i64 1]) ∧ w' = w := by
  by_cases h1 : b < 0
  · clear hb
    go_enter Try.func56, Try.ntmps56
    go_wp2
    go_ret2
    exact ⟨rfl, rfl⟩
  · have h2 : b > 8 * (s.size : Int) := hb.resolve_left h1
    clear hb
    go_enter Try.func56, Try.ntmps56
    go_wp2
    go_ret2
    exact ⟨rfl, rfl⟩
/-- where a machine begins -/
def zNew (t : Byts) (p : Nat) : IS := ⟨0, false, 0, [], [], p, lastN t, []⟩
theorem zNew_ok {s : ByteArray} {t : Byts} {p : Nat} (hp : p ≤ 8 * s.size) : IOk (8 * s.size) (lastN t).length (zNew t p) :=
  ⟨hp, Nat.zero_le _, fun h => absurd h (show ¬ (0 : Nat) = 1 by decide), Nat.zero_le _, .inr (show ¬ (0 : Nat) = 2 by decide), .inr (show ¬ (0 : Nat) = 2 by decide), Nat.le_refl _, by
    have h : (zNew t p).h.length - (lastN t).length = 0 := Nat.sub_self _
    rw [h]; exact Nat.zero_le _⟩
theorem playS_zero (s : ByteArray) (pre : Nat) (z0 : IS) : playS s pre z0 0 = (0, z0) := by unfold playS; rw [playI]
def mNew : MV := ⟨0, false, 0, .pointer none, .pointer none, 0, 0, ⟨#[]⟩, 0, .slice none 0 0, fnV 0⟩
/-- what New answers where the bit is one of the text's -/
def RetNewM (s : ByteArray) (t : Byts) (p : Nat) (w : World) (e : Ending) (w' : World) : Prop :=
  ∃ gm gr gw vb, e = .returned (.tuple #[.pointer (some ⟨gm, 0, none⟩), .int .i64 0]) ∧ (∀ X, Live w' w.heap.size gm gr gw vb X s (lastN t).length (zNew t p) mNew 0) ∧ Below w.heap.size w w'
set_option maxRecDepth 100000 in
set_option maxHeartbeats 4000000 in
theorem newM (s : ByteArray) (t : ByteArray) (p : Nat) (hs : s.size ≤ 4294967296) (hp : p ≤ 8 * s.size) (ht : t.size ≤ 50000000) (w : World) : Calls Try.prog 29 #[.string s, .int .i64 p, .string t] w (RetNewM s (bys t) p w) := by
  have HNS := Lib.hid (newS s p hs hp)
  have HNW := Lib.hid (newWn t ht)
  go_enter Try.func29, Try.ntmps29
  go_wp2_with (first | ((with_reducible go_at_call 56); (with_reducible refine (HNS.out _).mono ?_); rintro e w1 ⟨g, rfl, hx, hge, hb⟩; have HX1 := Lib.hid hx; have HB1 := Lib.hid hb; have HG1 := Lib.hid hge; clear hx hb hge) | ((with_reducible go_at_call 57); (with_reducible refine (HNW.out _).mono ?_); rintro e w2 ⟨gw, vb, rfl, hw, hgw, hgl, hb⟩; have HW2 := Lib.hid hw; have HGW := Lib.hid hgw; have HGL := Lib.hid hgl; have HB2 := Lib.hid hb; clear hw hgw hgl hb))
  go_ret2
  have hw2 := HW2.out
  obtain ⟨b, hV, hb1, hb2⟩ := hw2
  have hs1 := HB1.out.size
  have hs2 := HB2.out.size
  have hg := HG1.out
  have hgw := HGW.out
  have hg1 := HX1.out.lt
  have hbx := own_lit w2 w.heap.size #[.pointer (some ⟨g, 0, none⟩), .pointer (some ⟨gw, 0, none⟩), .int .i64 0, .bool false, .int .i64 0, .pointer none, .pointer none, .int .i64 0, .int .i64 0, .string ⟨#[]⟩, .int .i64 0, .slice none 0 0, .func (.func 58) #[] #[]] 70 (by simp) (Nat.le_trans hs1 hs2)
  have hal := below_alloc w2 (.cells #[.pointer (some ⟨g, 0, none⟩), .pointer (some ⟨gw, 0, none⟩), .int .i64 0, .bool false, .int .i64 0, .pointer none, .pointer none, .int .i64 0, .int .i64 0, .string ⟨#[]⟩, .int .i64 0, .slice none 0 0, .func (.func 58) #[] #[]] 70)
  have hvl : ∀ k, vb.ownBlock = some k → w1.heap.size ≤ k ∧ k < w2.heap.size := fun k e => hV.own.lt k e
  have hwin : WinAt w2 w.heap.size gw vb (lastN (bys t)) := ⟨b, ⟨hV.box.mono hs1, hV.own.mono hs1, hV.ne⟩, by rw [lastN_idem]; exact hb1, hb2⟩
  have hmach : Mach (w2.alloc (.cells #[.pointer (some ⟨g, 0, none⟩), .pointer (some ⟨gw, 0, none⟩), .int .i64 0, .bool false, .int .i64 0, .pointer none, .pointer none, .int .i64 0, .int .i64 0, .string ⟨#[]⟩, .int .i64 0, .slice none 0 0, .func (.func 58) #[] #[]] 70)) w.heap.size w2.heap.size g gw vb s p (lastN (bys t)) mNew := by
    refine ⟨?_, (HX1.out.up HB2.out).up hal, hwin.up hal, by omega, ?_, by omega, fun e => ?_, fun e => ?_, hg⟩
    · exact hbx
    · have := HGL.out; omega
    · have := (hvl _ e).2; omega
    · have := (hvl _ e).1; omega
  have hf0 : Full0 _ w.heap.size w2.heap.size g gw vb s p (lastN (bys t)) [] mNew := ⟨hmach, OwnK.nil 2 _ _ _, fun k e => by cases e⟩
  refine ⟨w2.heap.size, g, gw, vb, rfl, fun X => ⟨⟨Nat.zero_le _, by rw [playS_zero]; rfl, ?_, ⟨_, _, _, hf0⟩, fun _ => by rw [playS_zero]; exact ⟨hf0, ⟨rfl, rfl, fun _ => rfl, fun _ => rfl⟩, fun e => absurd e (show ¬ (0 : Nat) = 2 by decide)⟩⟩, [], rfl, ?_⟩, HB1.out.trans ((HB2.out.mono hs1).trans (hal.mono (Nat.le_trans hs1 hs2)))⟩
  · rw [playS_zero]
    show 0 = (lastN (bys t)).length - (lastN (bys t)).length
    rw [Nat.sub_self]
  · rw [playS_zero]
    show (lastN (bys t)).drop (lastN (bys t)).length = _
    rw [List.drop_length]; rfl
/-- .. and where it is none -/
theorem newMBad (s : ByteArray) (t : ByteArray) (b : Int) (hs : s.size ≤ 4294967296) (hb : b < 0 ∨ 8 * (s.size : Int) < b) (w : World) : Calls Try.prog 29 #[.string s, .int .i64 b, .string t] w fun e w' => e = .returned (.tuple #[.pointer none, .int .i64 1]) ∧ w' = w := by
  have HNS := Lib.hid (newBad s b hs hb)
  clear hb
  go_enter Try.func29, Try.ntmps29
  go_wp2_with ((with_reducible go_at_call 56); (with_reducible refine (HNS.out _).mono ?_); rintro e w1 ⟨rfl, hw⟩; rw [hw]; clear hw)
  go_ret2
  exact ⟨rfl, rfl⟩
end Go.Cm

/- A machine by its text, and what it tells: contracts for a caller. Conditions: as each says. -/
namespace Go.Cm
open Go.RowKit Go.Proofs

attribute [local irreducible] lastN
/-- the text of the blocks from bit p on, with t ahead of it; what is wrong; the end; the beginnings -/
noncomputable def txI (s : ByteArray) (t : Byts) (p : Nat) : Byts := textS s (lastN t).length (zNew t p)
noncomputable def erI (s : ByteArray) (t : Byts) (p : Nat) : Nat := (finS s (lastN t).length (zNew t p)).1
noncomputable def enI (s : ByteArray) (t : Byts) (p : Nat) : Nat := (finS s (lastN t).length (zNew t p)).2.p
noncomputable def bgI (s : ByteArray) (t : Byts) (p : Nat) : List (Nat × Nat) := (finS s (lastN t).length (zNew t p)).2.st
/-- a machine that told so many bytes, apart from the blocks V -/
def Mac (w : World) (B gm : Nat) (V : Nat → Prop) (s : ByteArray) (t : Byts) (p told : Nat) : Prop :=
  ∃ gr gw vb m k, Live w B gm gr gw vb (fun _ => False) s (lastN t).length (zNew t p) m k ∧ m.told = told ∧ ∀ q, V q → ¬ FSet gm gr gw vb m.vs q
/-- what its calls may change -/
abbrev MFx (B : Nat) (V : Nat → Prop) (w w' : World) : Prop := Fx (fun q => B ≤ q ∧ ¬ V q) w w'
theorem LiveB.ge {w : World} {B gm gr gw pre k : Nat} {vb : Value} {X : Nat → Prop} {s : ByteArray} {z0 : IS} {m : MV} (h : LiveB w B gm gr gw vb X s pre z0 m k) : (∀ q, FSet gm gr gw vb m.vs q → B ≤ q) ∧ B ≤ w.heap.size := by
  obtain ⟨p, H, st, h⟩ := h.bad
  refine ⟨fun q e => ?_, h.mach.B⟩
  obtain ⟨b, hb, -⟩ := h.mach.win
  rcases e with (e | e | e | e) | e
  · rw [e]; exact h.mach.box.blk.1
  · rw [e]; exact h.mach.Br
  · rw [e]; exact hb.box.blk.1
  · exact (hb.own.lt q e).1
  · exact (h.sts.lt q e).1
theorem After.mac {w w' : World} {B gm gr gw k0 : Nat} {vb : Value} {V V' : Nat → Prop} {s : ByteArray} {t : Byts} {p : Nat} {m : MV} {n : Nat} {M : Value → MV → Nat → Prop} (hL : LiveB w B gm gr gw vb (fun _ => False) s (lastN t).length (zNew t p) m k0)
    (h : After w w' B gm gr gw vb (fun _ => False) s (lastN t).length (zNew t p) m k0 M) (hV : ∀ q, V q → ¬ FSet gm gr gw vb m.vs q) (hlt : ∀ q, V q → q < w.heap.size) (hM : ∀ a b c, M a b c → b.told = n ∧ ∀ q, V' q → V q ∨ ¬ FSet gm gr gw a b.vs q) : Mac w' B gm V' s t p n ∧ MFx B V w w' := by
  obtain ⟨vb', m', k', -, hl, hf, h1, h2, hm⟩ := h
  obtain ⟨h3, h4⟩ := hL.ge
  obtain ⟨h5, h6⟩ := hM _ _ _ hm
  refine ⟨⟨gr, gw, vb', m', k', hl, h5, fun q e z => ?_⟩, hf.mono (fun q e => ⟨h3 q e, fun z => hV q z e⟩)⟩
  rcases h6 q e with h7 | h7
  · rcases z with (z | z | z | z) | z
    · exact hV q h7 (.inl (.inl z))
    · exact hV q h7 (.inl (.inr (.inl z)))
    · exact hV q h7 (.inl (.inr (.inr (.inl z))))
    · rcases h1 q z with h8 | h8
      · exact hV q h7 (.inl (.inr (.inr (.inr h8))))
      · have := hlt q h7; omega
    · rcases h2 q z with h8 | h8
      · exact hV q h7 (.inr h8)
      · have := hlt q h7; omega
  · exact h7 z
theorem Mac.up {w w' : World} {B gm : Nat} {V : Nat → Prop} {s : ByteArray} {t : Byts} {p told : Nat} (h : Mac w B gm V s t p told) (hb : Below w.heap.size w w') : Mac w' B gm V s t p told := by
  obtain ⟨gr, gw, vb, m, k, hl, ht, hv⟩ := h
  exact ⟨gr, gw, vb, m, k, ⟨hl.live.up hb, hl.text⟩, ht, hv⟩
theorem Mac.B {w : World} {B gm : Nat} {V : Nat → Prop} {s : ByteArray} {t : Byts} {p told : Nat} (h : Mac w B gm V s t p told) : B ≤ w.heap.size := by
  obtain ⟨gr, gw, vb, m, k, hl, ht, hv⟩ := h
  exact hl.live.ge.2
section
variable {w : World} {B gm : Nat} {V : Nat → Prop} {s : ByteArray} {t : Byts} {p told : Nat} (h : Mac w B gm V s t p told) (hp : p ≤ 8 * s.size) (hs : s.size ≤ 4000000) (hV : ∀ q, V q → q < w.heap.size)
include h hp hs hV
theorem stepC (n : Int) : Calls Try.prog 30 #[.pointer (some ⟨gm, 0, none⟩), .int .i64 n] w fun e w' => ∃ (c : ByteArray) (er : Nat), e = .returned (.tuple #[.string c, .int .i64 (er : Nat)]) ∧ (n < 1 → bys c = [] ∧ er = 1) ∧ (1 ≤ n → bys c = ((txI s t p).drop told).take n.toNat ∧ er = if (txI s t p).length ≤ told then erI s t p else 0) ∧ Mac w' B gm V s t p (told + (bys c).length) ∧ MFx B V w w' := by
  obtain ⟨gr, gw, vb, m, k, hl, rfl, hv⟩ := h
  refine (stepM hl (zNew_ok hp) rfl hs (fun _ e => e.elim) n).mono ?_
  rintro e w' ⟨c, er, he, h1, h2, h3⟩
  exact ⟨c, er, he, h1, h2, h3.mac hl.live hv hV (fun _ _ _ e => ⟨e, fun _ => .inl⟩)⟩
theorem doneC : Calls Try.prog 31 #[.pointer (some ⟨gm, 0, none⟩)] w fun e w' => ∃ b : Bool, e = .returned (.bool b) ∧ (b = true ↔ (txI s t p).length ≤ told ∧ erI s t p = 0) ∧ Mac w' B gm V s t p told ∧ MFx B V w w' := by
  obtain ⟨gr, gw, vb, m, k, hl, rfl, hv⟩ := h
  refine (doneM hl (zNew_ok hp) rfl hs (fun _ e => e.elim)).mono ?_
  rintro e w' ⟨b, he, h1, h3⟩
  exact ⟨b, he, h1, h3.mac hl.live hv hV (fun _ _ _ e => ⟨e.1, fun _ => .inl⟩)⟩
theorem endC : Calls Try.prog 32 #[.pointer (some ⟨gm, 0, none⟩)] w fun e w' => ∃ q : Nat, e = .returned (.int .i64 q) ∧ ((txI s t p).length ≤ told ∧ erI s t p = 0 → q = enI s t p) ∧ (¬ ((txI s t p).length ≤ told ∧ erI s t p = 0) → q = 0) ∧ Mac w' B gm V s t p told ∧ MFx B V w w' := by
  obtain ⟨gr, gw, vb, m, k, hl, rfl, hv⟩ := h
  refine (endM hl (zNew_ok hp) rfl hs (fun _ e => e.elim)).mono ?_
  rintro e w' ⟨q, he, h1, h2, h3⟩
  exact ⟨q, he, h1, h2, h3.mac hl.live hv hV (fun _ _ _ e => ⟨e, fun _ => .inl⟩)⟩
theorem startsC : Calls Try.prog 35 #[.pointer (some ⟨gm, 0, none⟩)] w fun e w' => ∃ v : Value, e = .returned v ∧ ((txI s t p).length ≤ told ∧ erI s t p = 0 → OwnK 2 w' w.heap.size 59 v ((bgI s t p).map stC)) ∧ (¬ ((txI s t p).length ≤ told ∧ erI s t p = 0) → v = .slice none 0 0) ∧ Mac w' B gm (fun q => V q ∨ v.ownBlock = some q) s t p told ∧ MFx B V w w' := by
  obtain ⟨gr, gw, vb, m, k, hl, rfl, hv⟩ := h
  refine (startsM hl (zNew_ok hp) rfl hs (fun _ e => e.elim)).mono ?_
  rintro e w' ⟨v, he, h1, h2, h3⟩
  exact ⟨v, he, h1, h2, h3.mac hl.live hv hV (fun _ _ _ e => ⟨e.1, fun q z => z.elim .inl (fun z => .inr (e.2 q z).2)⟩)⟩
end
theorem txI_big {s : ByteArray} {t : Byts} {p : Nat} (hp : p ≤ 8 * s.size) : (txI s t p).length ≤ 16777216 := by
  have h1 := (play_keep (N := numS s) (bs := bys s) (t8 s) (zNew_ok (t := t) hp) (2 * (8 * s.size) + 2)).1.2
  unfold txI textS
  rw [List.length_drop]
  exact h1
theorem newC (s : ByteArray) (t : ByteArray) (p : Nat) (hs : s.size ≤ 4294967296) (hp : p ≤ 8 * s.size) (ht : t.size ≤ 50000000) (w : World) : Calls Try.prog 29 #[.string s, .int .i64 p, .string t] w fun e w' => ∃ gm, e = .returned (.tuple #[.pointer (some ⟨gm, 0, none⟩), .int .i64 0]) ∧ Mac w' w.heap.size gm (fun _ => False) s (bys t) p 0 ∧ Below w.heap.size w w' := by
  refine (newM s t p hs hp ht w).mono ?_
  rintro e w' ⟨gm, gr, gw, vb, he, hl, hb⟩
  exact ⟨gm, he, ⟨gr, gw, vb, mNew, 0, hl _, rfl, fun _ e => e.elim⟩, hb⟩
end Go.Cm

/- The fixed calls, in plain Lean. Conditions: none. -/
namespace Go.Cm

theorem kn_head1 : headF 1099 24 0 = (⟨true, 1, 0, fixL, fixD⟩, 0, 3) := by
  rfl
theorem kn_r1 : readF fixL (1099 / 2 ^ 3) (24 - 3) = (97, 0, 8) := readF_of (.inl ⟨by decide +kernel, ⟨by decide +kernel, by decide +kernel⟩, by decide +kernel, rfl, by decide +kernel⟩)
theorem kn_r2 : readF fixL (1099 / 2 ^ 11) (24 - 11) = (256, 0, 7) := readF_of (.inl ⟨by decide +kernel, ⟨by decide +kernel, by decide +kernel⟩, by decide +kernel, rfl, by decide +kernel⟩)
theorem kn_head2 : headF 27692299806835201 56 0 = (⟨true, 0, 2, [], []⟩, 0, 40) := by
  rfl
theorem kn_head3 : (headF 7 8 0).2.1 = 11 := by
  rfl
def knA : ByteArray := ⟨#[75, 4, 0]⟩
def knB : ByteArray := ⟨#[1, 2, 0, 253, 255, 97, 98]⟩
def knC : ByteArray := ⟨#[7]⟩
section
variable {N T pre : Nat} {bs : Byts} {z0 : IS}
theorem big_small {pre M : Nat} {y : Nat × IS} (hM : 1000 ≤ M) (h : y.2.h.length ≤ 1000) : (if y.1 ≠ 0 then y else if M < y.2.h.length - pre then (3, { y.2 with h := y.2.h.take (pre + M) }) else y) = y := by
  by_cases h1 : y.1 ≠ 0
  · rw [if_pos h1]
  · rw [if_neg h1, if_neg (by omega)]
theorem bigI_small {pre : Nat} {y : Nat × IS} (h : y.2.h.length ≤ 1000) : bigI pre y = y := by
  have h1 := big_small (pre := pre) (M := 16777216) (by decide) h
  unfold bigI
  exact h1
theorem play_on {k : Nat} {z : IS} {y : Nat × IS} (h : playI N T pre bs z0 k = (0, z)) (hm : z.md ≠ 3) (hs : stI N T pre bs z = y) (hb : y.2.h.length ≤ 1000) : playI N T pre bs z0 (k + 1) = y := by
  rw [play_next (by rw [h]; exact fun e => e.elim (fun e => e rfl) hm), h]
  show bigI pre (stI N T pre bs z) = y
  rw [hs, bigI_small hb]
end
theorem knA_st (pre : Nat) (z0 : IS) (h0 : z0.md = 0) (hp : z0.p = 0) (hh : z0.h = []) (hst : z0.st = []) (hpre : pre = 0) (bs : Byts) (hi : IOk 24 pre z0) : finI 1099 24 pre bs z0 = (0, ⟨3, true, 0, fixL, fixD, 18, [97], [(0, 0)]⟩) := by
  obtain ⟨md, fin, left, li, di, p, h, st⟩ := z0
  simp only at h0 hp hh hst
  subst h0 hp hh hst hpre
  have e1 : playI 1099 24 0 bs ⟨0, fin, left, li, di, 0, [], []⟩ 1 = (0, ⟨2, true, 0, fixL, fixD, 3, [], [(0, 0)]⟩) := by
    refine play_on (k := 0) (z := ⟨0, fin, left, li, di, 0, [], []⟩) (by rw [playI]) (show ¬ (0 : Nat) = 3 by decide) ?_ (by decide)
    unfold stI
    rw [if_pos rfl]
    unfold headI
    simp only [kn_head1]
    rfl
  have e2 : playI 1099 24 0 bs ⟨0, fin, left, li, di, 0, [], []⟩ 2 = (0, ⟨2, true, 0, fixL, fixD, 11, [97], [(0, 0)]⟩) := by
    refine play_on e1 (by decide) ?_ (by decide)
    unfold stI
    rw [if_neg (by decide), if_neg (by decide), if_pos rfl]
    unfold codI
    rw [kn_r1]
    rfl
  have e3 : playI 1099 24 0 bs ⟨0, fin, left, li, di, 0, [], []⟩ 3 = (0, ⟨3, true, 0, fixL, fixD, 18, [97], [(0, 0)]⟩) := by
    refine play_on e2 (by decide) ?_ (by decide)
    unfold stI
    rw [if_neg (by decide), if_neg (by decide), if_pos rfl]
    unfold codI
    rw [kn_r2]
    rfl
  rw [fin_of ⟨3, rfl⟩ hi (k := 3) (by rw [e3]; exact .inr rfl), e3]
theorem knB_st (pre : Nat) (z0 : IS) (h0 : z0.md = 0) (hp : z0.p = 0) (hh : z0.h = []) (hst : z0.st = []) (hpre : pre = 0) (hi : IOk 56 pre z0) : finI 27692299806835201 56 pre [1, 2, 0, 253, 255, 97, 98] z0 = (0, ⟨3, true, 0, [], [], 56, [97, 98], [(0, 0)]⟩) := by
  obtain ⟨md, fin, left, li, di, p, h, st⟩ := z0
  simp only at h0 hp hh hst
  subst h0 hp hh hst hpre
  have e1 : playI 27692299806835201 56 0 [1, 2, 0, 253, 255, 97, 98] ⟨0, fin, left, li, di, 0, [], []⟩ 1 = (0, ⟨1, true, 2, [], [], 40, [], [(0, 0)]⟩) := by
    refine play_on (k := 0) (z := ⟨0, fin, left, li, di, 0, [], []⟩) (by rw [playI]) (show ¬ (0 : Nat) = 3 by decide) ?_ (by decide)
    unfold stI
    rw [if_pos rfl]
    unfold headI
    simp only [kn_head2]
    rfl
  have e2 : playI 27692299806835201 56 0 [1, 2, 0, 253, 255, 97, 98] ⟨0, fin, left, li, di, 0, [], []⟩ 2 = (0, ⟨1, true, 0, [], [], 56, [97, 98], [(0, 0)]⟩) := by
    refine play_on e1 (by decide) ?_ (by decide)
    rfl
  have e3 : playI 27692299806835201 56 0 [1, 2, 0, 253, 255, 97, 98] ⟨0, fin, left, li, di, 0, [], []⟩ 3 = (0, ⟨3, true, 0, [], [], 56, [97, 98], [(0, 0)]⟩) := by
    refine play_on e2 (by decide) ?_ (by decide)
    rfl
  rw [fin_of ⟨7, rfl⟩ hi (k := 3) (by rw [e3]; exact .inr rfl), e3]
theorem knC_st (pre : Nat) (z0 : IS) (h0 : z0.md = 0) (hp : z0.p = 0) (hh : z0.h = []) (bs : Byts) (hi : IOk 8 pre z0) : (finI 7 8 pre bs z0).1 = 11 := by
  obtain ⟨md, fin, left, li, di, p, h, st⟩ := z0
  simp only at h0 hp hh
  subst h0 hp hh
  have e1 : playI 7 8 pre bs ⟨0, fin, left, li, di, 0, [], st⟩ 1 = (11, ⟨0, fin, left, li, di, 0, [], st⟩) := by
    refine play_on (k := 0) (z := ⟨0, fin, left, li, di, 0, [], st⟩) (by rw [playI]) (show ¬ (0 : Nat) = 3 by decide) ?_ (Nat.zero_le _)
    unfold stI
    rw [if_pos rfl]
    unfold headI
    rw [if_pos (by rw [kn_head3]; decide), kn_head3]
  rw [fin_of ⟨1, rfl⟩ hi (k := 1) (by rw [e1]; exact .inl (show ¬ (11 : Nat) = 0 by decide)), e1]
theorem lastN_nil : lastN [] = [] := lastN_all (by decide)
theorem kn_A : txI knA [] 0 = [97] ∧ erI knA [] 0 = 0 ∧ enI knA [] 0 = 18 ∧ bgI knA [] 0 = [(0, 0)] := by
  have hi := zNew_ok (s := knA) (t := []) (p := 0) (Nat.zero_le _)
  have h : finS knA (lastN []).length (zNew [] 0) = _ := knA_st (lastN []).length (zNew [] 0) rfl rfl lastN_nil rfl (by rw [lastN_nil]; rfl) (bys knA) hi
  unfold txI textS erI enI bgI
  rw [h, lastN_nil]
  exact ⟨rfl, rfl, rfl, rfl⟩
theorem kn_B : txI knB [] 0 = [97, 98] ∧ erI knB [] 0 = 0 ∧ enI knB [] 0 = 56 := by
  have hi := zNew_ok (s := knB) (t := []) (p := 0) (Nat.zero_le _)
  have h : finS knB (lastN []).length (zNew [] 0) = _ := knB_st (lastN []).length (zNew [] 0) rfl rfl lastN_nil rfl (by rw [lastN_nil]; rfl) hi
  unfold txI textS erI enI
  rw [h, lastN_nil]
  exact ⟨rfl, rfl, rfl⟩
theorem kn_C : erI knC [] 0 = 11 := by
  have hi := zNew_ok (s := knC) (t := []) (p := 0) (Nat.zero_le _)
  exact knC_st (lastN []).length (zNew [] 0) rfl rfl lastN_nil (bys knC) hi
end Go.Cm

/- The walk of All. Conditions: the texts are not too long. -/
namespace Go.Cm
open Go.RowKit Go.Proofs

/-- what All answers -/
def RetAll (s : ByteArray) (t : Byts) (p : Nat) (w : World) (e : Ending) (w' : World) : Prop :=
  ∃ (c : ByteArray) (v : Value) (q : Nat), e = .returned (.tuple #[.string c, v, .int .i64 q, .int .i64 (erI s t p : Nat)]) ∧ Below w.heap.size w w' ∧
    (erI s t p = 0 → bys c = txI s t p ∧ SlK 2 w' v ((bgI s t p).map stC) ∧ q = enI s t p) ∧ (erI s t p ≠ 0 → bys c = [] ∧ v = .slice none 0 0 ∧ q = 0)
theorem MFx.below {w0 w w' : World} {B : Nat} {V : Nat → Prop} (h : MFx B V w w') (hb : Below B w0 w) (hB : B ≤ w.heap.size) : Below B w0 w' := Fx.below h hb hB (fun _ e => e.1)
theorem take_big {l : Byts} {n : Int} {M : Nat} (hM : M = 16777216) (hn : n = (M : Int) + 1) (h : l.length ≤ M) : (l.drop 0).take n.toNat = l := by
  rw [List.drop_zero, List.take_of_length_le (by omega)]
set_option maxRecDepth 100000 in
set_option maxHeartbeats 4000000 in
theorem allI (s : ByteArray) (t : ByteArray) (p : Nat) (hs : s.size ≤ 4000000) (hp : p ≤ 8 * s.size) (ht : t.size ≤ 50000000) (w : World) : Calls Try.prog 28 #[.string s, .int .i64 p, .string t] w (RetAll s (bys t) p w) := by
  have HNW := Lib.hid (fun W => newC s t p (by omega) hp ht W)
  have HP := Lib.hid hp
  have HS := Lib.hid hs
  have HBG := Lib.hid (txI_big (t := bys t) hp)
  unfold RetAll
  obtain ⟨F, hF⟩ : ∃ F, F = txI s (bys t) p := ⟨_, rfl⟩
  obtain ⟨E, hE⟩ : ∃ E, E = erI s (bys t) p := ⟨_, rfl⟩
  obtain ⟨Q, hQ⟩ : ∃ Q, Q = enI s (bys t) p := ⟨_, rfl⟩
  obtain ⟨L, hL⟩ : ∃ L, L = bgI s (bys t) p := ⟨_, rfl⟩
  have HST := Lib.hid (fun (W : World) (B gm told : Nat) (h : Mac W B gm (fun _ => False) s (bys t) p told) n => stepC h hp hs (fun _ e => e.elim) n)
  have HDN := Lib.hid (fun (W : World) (B gm told : Nat) (h : Mac W B gm (fun _ => False) s (bys t) p told) => doneC h hp hs (fun _ e => e.elim))
  have HSR := Lib.hid (fun (W : World) (B gm told : Nat) (h : Mac W B gm (fun _ => False) s (bys t) p told) => startsC h hp hs (fun _ e => e.elim))
  have HEN := Lib.hid (fun (W : World) (B gm told : Nat) (V : Nat → Prop) (hV : ∀ q, V q → q < W.heap.size) (h : Mac W B gm V s (bys t) p told) => endC h hp hs hV)
  rw [← hF] at HST HDN HSR HEN HBG
  rw [← hE] at HST HDN HSR HEN
  rw [← hQ] at HEN
  rw [← hL] at HSR
  rw [← hF, ← hE, ← hQ, ← hL]
  clear hF hE hQ hL
  go_enter Try.func28, Try.ntmps28
  go_upto_region 5 with (first | ((with_reducible go_at_call 29); (with_reducible refine (HNW.out _).mono ?_); rintro e w1 ⟨gm, rfl, hm, hb⟩; have HM1 := Lib.hid hm; have HB1 := Lib.hid hb; clear hm hb) | ((with_reducible go_at_call 30); (refine (HST.out _ _ _ _ HM1.out _).mono ?_); rintro e w2 ⟨c, er, rfl, -, h2, hm, hb⟩; have HC := Lib.hid h2; have HM2 := Lib.hid hm; have HB2 := Lib.hid hb; clear h2 hm hb))
  obtain ⟨M, hM⟩ : ∃ M : Nat, M = 16777216 := ⟨_, rfl⟩
  have hF := HBG.out
  rw [← hM] at hF
  obtain ⟨hc, her⟩ := HC.out (by decide)
  rw [take_big hM (by rw [hM]; rfl) hF] at hc
  have HM3 : Hid (Mac w2 w.heap.size gm (fun _ => False) s (bys t) p F.length) := Lib.hid (by have h := HM2.out; rw [hc, Nat.zero_add] at h; exact h)
  have HCC := Lib.hid hc
  have HER := Lib.hid her
  have HBB := Lib.hid (HB2.out.below HB1.out HM1.out.B)
  clear hM hF hc her HC HM2
  go_upto_region 6 with (fail)
  (refine (HDN.out _ _ _ _ HM3.out).mono ?_)
  rintro e w3 ⟨b, rfl, hb, hm, hbl⟩
  have HM4 := Lib.hid hm
  have HB4 := Lib.hid (hbl.below HBB.out HM3.out.B)
  have HSZ4 := Lib.hid hm.B
  by_cases hE : E = 0
  · obtain rfl : b = true := hb.2 ⟨Nat.le_refl _, hE⟩
    have HE := Lib.hid hE
    clear hb hm hbl hE
    go_upto_region 9 with (fail)
    go_wp2_with (first | ((with_reducible go_at_call 35); (refine (HSR.out _ _ _ _ HM4.out).mono ?_); rintro e w4 ⟨v, rfl, h1, -, hm, hb⟩; have HV := Lib.hid (h1 ⟨Nat.le_refl _, HE.out⟩); have HM6 := Lib.hid hm; have HB6 := Lib.hid (hb.below HB4.out HSZ4.out); clear h1 hm hb) | ((with_reducible go_at_call 32); (refine (HEN.out _ _ _ _ _ (fun q e => e.elim (fun e => e.elim) (fun e => (HV.out.lt q e).2)) HM6.out).mono ?_); rintro e w5 ⟨q, rfl, h1, -, hm, hb⟩; have HQ := Lib.hid (h1 ⟨Nat.le_refl _, HE.out⟩); have HB7 := Lib.hid (hb.below HB6.out HM6.out.B); have HB8 := Lib.hid hb; clear h1 hm hb))
    refine bodyPost_ret (results_tmp4 rfl _ _ _) rfl ?_
    refine ⟨c, v, q, by rw [HE.out]; rfl, HB7.out, fun _ => ⟨HCC.out, ?_, HQ.out⟩, fun h => absurd HE.out h⟩
    exact (HV.out.fx HB8.out (fun q e z => z.2 (.inr e))).sl
  · obtain rfl : b = false := by
      cases b with
      | false => rfl
      | true => exact absurd (hb.1 rfl).2 hE
    clear hb hm hbl
    by_cases h0 : F.length = 0
    · have her : er = E := by rw [HER.out, if_pos (by omega)]
      subst her
      have h0' : ((er : Int) == 0) = false := by simpa using hE
      go_wp2
      refine bodyPost_ret (results_tmp4 rfl _ _ _) rfl ?_
      exact ⟨⟨#[]⟩, _, 0, rfl, HB4.out, fun h => absurd h hE, fun _ => ⟨rfl, rfl, rfl⟩⟩
    · have her : er = 0 := by rw [HER.out, if_neg (by omega)]
      subst her
      go_wp2_with ((with_reducible go_at_call 30); (refine (HST.out _ _ _ _ HM4.out _).mono ?_); rintro e w5 ⟨c5, er5, rfl, -, h5, hm5, hb5⟩; have HC5 := Lib.hid h5; have HB5 := Lib.hid hb5; clear h5 hm5 hb5)
      refine bodyPost_ret (results_tmp4 rfl _ _ _) rfl ?_
      have h5 := (HC5.out (by decide)).2
      rw [if_pos (Nat.le_refl _)] at h5
      subst h5
      exact ⟨⟨#[]⟩, _, 0, rfl, HB5.out.below HB4.out HM4.out.B, fun h => absurd h hE, fun _ => ⟨rfl, rfl, rfl⟩⟩
end Go.Cm

/- The walks of a machine that is not there; All where the bit is none of the text's. Conditions: as each says. -/
namespace Go.Cm
open Go.RowKit Go.Proofs

theorem allBad (s : ByteArray) (t : ByteArray) (b : Int) (hs : s.size ≤ 4294967296) (hb : b < 0 ∨ 8 * (s.size : Int) < b) (w : World) : Calls Try.prog 28 #[.string s, .int .i64 b, .string t] w fun e w' => e = .returned (.tuple #[.string ⟨#[]⟩, .slice none 0 0, .int .i64 0, .int .i64 1]) ∧ w' = w := by
  have HNW := Lib.hid (newMBad s t b hs hb)
  clear hb
  go_enter Try.func28, Try.ntmps28
  go_wp2_with ((with_reducible go_at_call 29); (with_reducible refine (HNW.out _).mono ?_); rintro e w1 ⟨rfl, hw⟩; rw [hw]; clear hw)
  refine bodyPost_ret (results_tmp4 rfl _ _ _) rfl ?_
  exact ⟨rfl, rfl⟩
/-- it is not there -/
def Gone (w : World) (v : Value) : Prop := Calls Try.prog 59 #[v] w fun e w' => e = .returned (.bool false) ∧ w' = w
theorem gone_nil (w : World) : Gone w (.pointer none) := by
  unfold Gone
  go_enter Try.func59, Try.ntmps59
  go_wp2
  go_ret
  exact ⟨rfl, rfl⟩
theorem gone_zero {w : World} {g : Nat} (c0 : w.cell? ⟨g, 0, none⟩ = some (.pointer none)) (_hg : g < w.heap.size) : Gone w (.pointer (some ⟨g, 0, none⟩)) := by
  unfold Gone
  go_enter Try.func59, Try.ntmps59
  go_wp2
  go_ret
  exact ⟨rfl, rfl⟩
section
variable {w : World} {v : Value}
theorem stepGone (h : Gone w v) (n : Int) : Calls Try.prog 30 #[v, .int .i64 n] w fun e w' => e = .returned (.tuple #[.string ⟨#[]⟩, .int .i64 25]) ∧ w' = w := by
  have HTH := Lib.hid h
  clear h
  go_enter Try.func30, Try.ntmps30
  go_wp2_with ((with_reducible go_at_call 59); (refine HTH.out.mono ?_); rintro e w' ⟨rfl, hw⟩; rw [hw]; clear hw)
  go_ret2
  exact ⟨rfl, rfl⟩
theorem outGone (h : Gone w v) : Calls Try.prog 37 #[v] w fun e w' => e = .returned (.int .i64 0) ∧ w' = w := by
  have HTH := Lib.hid h
  clear h
  go_enter Try.func37, Try.ntmps37
  go_wp2_with ((with_reducible go_at_call 59); (refine HTH.out.mono ?_); rintro e w' ⟨rfl, hw⟩; rw [hw]; clear hw)
  go_ret
  exact ⟨rfl, rfl⟩
theorem doneGone (h : Gone w v) : Calls Try.prog 31 #[v] w fun e w' => e = .returned (.bool false) ∧ w' = w := by
  have HTH := Lib.hid h
  clear h
  go_enter Try.func31, Try.ntmps31
  go_wp2_with ((with_reducible go_at_call 59); (refine HTH.out.mono ?_); rintro e w' ⟨rfl, hw⟩; rw [hw]; clear hw)
  go_ret
  exact ⟨rfl, rfl⟩
theorem startsGone (h : Gone w v) : Calls Try.prog 35 #[v] w fun e w' => e = .returned (.slice none 0 0) ∧ w' = w := by
  have HTH := Lib.hid (doneGone h)
  clear h
  go_enter Try.func35, Try.ntmps35
  go_wp2_with ((with_reducible go_at_call 31); (refine HTH.out.mono ?_); rintro e w' ⟨rfl, hw⟩; rw [hw]; clear hw)
  go_ret
  exact ⟨rfl, rfl⟩
theorem endGone (h : Gone w v) : Calls Try.prog 32 #[v] w fun e w' => e = .returned (.int .i64 0) ∧ w' = w := by
  have HTH := Lib.hid (doneGone h)
  clear h
  go_enter Try.func32, Try.ntmps32
  go_wp2_with ((with_reducible go_at_call 31); (refine HTH.out.mono ?_); rintro e w' ⟨rfl, hw⟩; rw [hw]; clear hw)
  go_ret
  exact ⟨rfl, rfl⟩
theorem copyGone (h : Gone w v) : Calls Try.prog 38 #[v] w fun e w' => e = .returned (.pointer none) ∧ w' = w := by
  have HTH := Lib.hid h
  clear h
  go_enter Try.func38, Try.ntmps38
  go_wp2_with ((with_reducible go_at_call 59); (refine HTH.out.mono ?_); rintro e w' ⟨rfl, hw⟩; rw [hw]; clear hw)
  go_ret
  exact ⟨rfl, rfl⟩
end
end Go.Cm

/- The walk of the law's fixed calls. Conditions: none. -/
namespace Go.Cm
open Go.RowKit Go.Proofs

theorem callA (w : World) : Calls Try.prog 28 #[.string ⟨#[75, 4, 0]⟩, .int .i64 0, .string ⟨#[]⟩] w fun e w' => ∃ b off cap, e = .returned (.tuple #[.string ⟨#[97]⟩, .slice (some ⟨b, off, none⟩) 1 cap, .int .i64 18, .int .i64 0]) ∧ w'.cell? ⟨b, off, none⟩ = some (.int .i64 0) ∧ b < w'.heap.size ∧ 1 ≤ cap ∧ Below w.heap.size w w' := by
  refine (allI knA ⟨#[]⟩ 0 (by decide) (by decide) (by decide) w).mono ?_
  rintro e w' ⟨c, v, q, rfl, hb, h0, -⟩
  obtain ⟨k1, k2, k3, k4⟩ := kn_A
  change txI knA (bys ⟨#[]⟩) 0 = _ at k1
  change erI knA (bys ⟨#[]⟩) 0 = _ at k2
  change enI knA (bys ⟨#[]⟩) 0 = _ at k3
  change bgI knA (bys ⟨#[]⟩) 0 = _ at k4
  obtain ⟨h1, h2, h3⟩ := h0 k2
  rw [k1] at h1
  rw [k4] at h2
  rw [k3] at h3
  rw [k2]
  subst h3
  obtain ⟨oa, cap, b, off, rfl, hd, hc⟩ := h2
  have hoa := hd.hat (Nat.zero_lt_one)
  subst hoa
  have hcs : c = ⟨#[97]⟩ := bys_inj h1
  subst hcs
  have h5 := hc 0 Nat.zero_lt_one 0 (by decide)
  exact ⟨b, off, cap, rfl, h5, hd.hblk Nat.zero_lt_one, hd.hcap, hb⟩
theorem callB (w : World) : Calls Try.prog 28 #[.string ⟨#[1, 2, 0, 253, 255, 97, 98]⟩, .int .i64 0, .string ⟨#[]⟩] w fun e w' => ∃ v, e = .returned (.tuple #[.string ⟨#[97, 98]⟩, v, .int .i64 56, .int .i64 0]) ∧ Below w.heap.size w w' := by
  refine (allI knB ⟨#[]⟩ 0 (by decide) (by decide) (by decide) w).mono ?_
  rintro e w' ⟨c, v, q, rfl, hb, h0, -⟩
  obtain ⟨k1, k2, k3⟩ := kn_B
  change txI knB (bys ⟨#[]⟩) 0 = _ at k1
  change erI knB (bys ⟨#[]⟩) 0 = _ at k2
  change enI knB (bys ⟨#[]⟩) 0 = _ at k3
  obtain ⟨h1, h2, h3⟩ := h0 k2
  rw [k1] at h1
  rw [k3] at h3
  rw [k2]
  subst h3
  have hcs : c = ⟨#[97, 98]⟩ := bys_inj h1
  subst hcs
  exact ⟨v, rfl, hb⟩
theorem callC (w : World) : Calls Try.prog 28 #[.string ⟨#[7]⟩, .int .i64 0, .string ⟨#[]⟩] w fun e w' => ∃ c v q, e = .returned (.tuple #[.string c, v, .int .i64 (q : Nat), .int .i64 11]) ∧ Below w.heap.size w w' := by
  refine (allI knC ⟨#[]⟩ 0 (by decide) (by decide) (by decide) w).mono ?_
  rintro e w' ⟨c, v, q, rfl, hb, -, -⟩
  have k2 := kn_C
  change erI knC (bys ⟨#[]⟩) 0 = _ at k2
  rw [k2]
  exact ⟨c, v, q, rfl, hb⟩
theorem callD (w : World) : Calls Try.prog 28 #[.string ⟨#[]⟩, .int .i64 1, .string ⟨#[]⟩] w fun e w' => e = .returned (.tuple #[.string ⟨#[]⟩, .slice none 0 0, .int .i64 0, .int .i64 1]) ∧ w' = w := allBad ⟨#[]⟩ ⟨#[]⟩ 1 (by decide) (.inr (by decide)) w
set_option maxRecDepth 100000 in
theorem knownI (w : World) : Calls Try.prog 27 #[] w fun e w' => e = .returned (.bool true) ∧ Below w.heap.size w w' := by
  have HA := Lib.hid callA
  have HB := Lib.hid callB
  have HC := Lib.hid callC
  have HD := Lib.hid callD
  go_enter Try.func27, Try.ntmps27
  go_upto_region 2 with ((with_reducible go_at_call 28); (with_reducible refine (HA.out _).mono ?_); rintro e w1 ⟨b, off, cap, rfl, hc, hlt, hcap, hb⟩; have HCL := Lib.hid hc; have HB1 := Lib.hid hb; have HLT := Lib.hid hlt; have HCP := Lib.hid hcap; clear hc hb hlt hcap)
  go_upto_region 3 with ((with_reducible go_at_call 28); (with_reducible refine (HB.out _).mono ?_); rintro e w2 ⟨v2, rfl, hb⟩; have HB2 := Lib.hid hb; clear hb)
  go_upto_region 4 with ((with_reducible go_at_call 28); (with_reducible refine (HC.out _).mono ?_); rintro e w3 ⟨c3, v3, q3, rfl, hb⟩; have HB3 := Lib.hid hb; clear hb)
  go_upto_region 5 with ((with_reducible go_at_call 28); (with_reducible refine (HD.out _).mono ?_); rintro e w4 ⟨rfl, hw⟩; rw [hw]; clear hw)
  have c0 : w3.cell? ⟨b, off, none⟩ = some (.int .i64 0) := by
    rw [(HB2.out.trans (HB3.out.mono HB2.out.size)).cell (p := ⟨b, off, none⟩) HLT.out]; exact HCL.out
  have hlt : b < w3.heap.size := Nat.lt_of_lt_of_le HLT.out (Nat.le_trans HB2.out.size HB3.out.size)
  have HBB := Lib.hid (HB1.out.trans ((HB2.out.trans (HB3.out.mono HB2.out.size)).mono HB1.out.size))
  go_wp2
  go_ret
  exact ⟨rfl, HBB.out⟩
end Go.Cm

/- The walk of the law of machines that are not there. Conditions: none. -/
namespace Go.Cm
open Go.RowKit Go.Proofs

set_option maxRecDepth 100000 in
set_option maxHeartbeats 2000000 in
theorem nilI (n : Int) (w : World) : Calls Try.prog 9 #[.int .i64 n] w fun e w' => e = .returned (.bool true) ∧ Below w.heap.size w w' := by
  have HK := Lib.hid knownI
  go_enter Try.func9, Try.ntmps9
  go_upto_region 3 with (fail)
  have hbx := own_lit w w.heap.size #[.pointer none, .pointer none, .int .i64 0, .bool false, .int .i64 0, .pointer none, .pointer none, .int .i64 0, .int .i64 0, .string ⟨#[]⟩, .int .i64 0, .slice none 0 0, .nilFunc] 70 (by simp) (Nat.le_refl _)
  have HB1 := Lib.hid (below_alloc w (.cells #[.pointer none, .pointer none, .int .i64 0, .bool false, .int .i64 0, .pointer none, .pointer none, .int .i64 0, .int .i64 0, .string ⟨#[]⟩, .int .i64 0, .slice none 0 0, .nilFunc] 70))
  have c0 : (w.alloc (.cells #[.pointer none, .pointer none, .int .i64 0, .bool false, .int .i64 0, .pointer none, .pointer none, .int .i64 0, .int .i64 0, .string ⟨#[]⟩, .int .i64 0, .slice none 0 0, .nilFunc] 70)).cell? ⟨w.heap.size, 0, none⟩ = some (.pointer none) := hbx.cell (by simp)
  have hlt := hbx.blk.2
  obtain ⟨g, hg⟩ : ∃ g, g = w.heap.size := ⟨_, rfl⟩
  rw [← hg] at c0 hlt ⊢
  generalize w.alloc (.cells #[.pointer none, .pointer none, .int .i64 0, .bool false, .int .i64 0, .pointer none, .pointer none, .int .i64 0, .int .i64 0, .string ⟨#[]⟩, .int .i64 0, .slice none 0 0, .nilFunc] 70) = w1 at *
  have HZ := Lib.hid (gone_zero c0 hlt)
  have HN := Lib.hid (gone_nil w1)
  have HG := Lib.hid hg
  clear hbx c0 hlt hg
  go_wp2_with (first
    | ((with_reducible go_at_call 30); first | ((with_reducible refine (stepGone HN.out n).mono ?_); rintro e w' ⟨rfl, hw⟩; rw [hw]; clear hw) | ((with_reducible refine (stepGone HZ.out n).mono ?_); rintro e w' ⟨rfl, hw⟩; rw [hw]; clear hw))
    | ((with_reducible go_at_call 37); first | ((with_reducible refine (outGone HN.out).mono ?_); rintro e w' ⟨rfl, hw⟩; rw [hw]; clear hw) | ((with_reducible refine (outGone HZ.out).mono ?_); rintro e w' ⟨rfl, hw⟩; rw [hw]; clear hw))
    | ((with_reducible go_at_call 31); first | ((with_reducible refine (doneGone HN.out).mono ?_); rintro e w' ⟨rfl, hw⟩; rw [hw]; clear hw) | ((with_reducible refine (doneGone HZ.out).mono ?_); rintro e w' ⟨rfl, hw⟩; rw [hw]; clear hw))
    | ((with_reducible go_at_call 35); (with_reducible refine (startsGone HN.out).mono ?_); rintro e w' ⟨rfl, hw⟩; rw [hw]; clear hw)
    | ((with_reducible go_at_call 32); first | ((with_reducible refine (endGone HN.out).mono ?_); rintro e w' ⟨rfl, hw⟩; rw [hw]; clear hw) | ((with_reducible refine (endGone HZ.out).mono ?_); rintro e w' ⟨rfl, hw⟩; rw [hw]; clear hw))
    | ((with_reducible go_at_call 38); first | ((with_reducible refine (copyGone HN.out).mono ?_); rintro e w' ⟨rfl, hw⟩; rw [hw]; clear hw) | ((with_reducible refine (copyGone HZ.out).mono ?_); rintro e w' ⟨rfl, hw⟩; rw [hw]; clear hw))
    | ((with_reducible go_at_call 27); (with_reducible refine (HK.out _).mono ?_); rintro e w' ⟨rfl, hb⟩; have HB2 := Lib.hid hb; clear hb))
  go_ret
  exact ⟨rfl, HB1.out.trans (HB2.out.mono HB1.out.size)⟩
end Go.Cm

/- Arguments that a law is handed, as data: lists of ints, texts. Conditions: none. -/
namespace Go.Cm
open Go.RowKit Go.Proofs Go.WideShapes Go.ChangeShapes Go.Deep

section
variable {H : Type} {enc : TypeId × Value → H} {P : Program}
theorem post_of_below {f : Func} {s : ChangeSpec} {apart fresh handsOn again : Bool} {W W' : World} {args : Array Value} {v : Value} {ds gs : List (DataW H)} {before pa pv : List MemPlace}
    (hW : DataW.Whole enc P f.params.toList s.vars apart W args.toList ds gs before)
    (hres : ∀ (b : Nat) (sp : Nat → Bool) (hd : Bool), DataW.TrodAll enc P W' b sp hd f.resultTypes.toList (v.resultList f.resultTypes.size) (s.fn H (ds ++ gs)).results [])
    (hargs : ∀ sp : Nat → Bool, (∀ p ∈ before, sp p.block = true) → DataW.TrodAll enc P W' 0 sp true f.params.toList args.toList (s.fn H (ds ++ gs)).args pa)
    (hvars : ∀ sp : Nat → Bool, (∀ p ∈ before, sp p.block = true) → DataW.TrodVars enc P W' sp s.vars (s.fn H (ds ++ gs)).vars pv)
    (hps : before = pa ++ pv) (hb : Below W.heap.size W W')
    (hok : ∀ (j : Nat) (t : TypeId) (r : Value), f.resultTypes[j]? = some t → (v.resultList f.resultTypes.size)[j]? = some r → Value.okWide P W' .any 0 t r) :
    s.post enc P f apart fresh handsOn again W args v W' := by
  have hlt : ∀ p ∈ before, p.block < W.heap.size := fun p hp => hW.lt p hp
  have hold : ∀ p ∈ before, (fun b => decide (b < W.heap.size)) p.block = true := fun p hp => by simpa using hlt p hp
  refine ⟨ds, gs, before, [], pa, pv, hW, hres _ _ _, hargs _ hold, hvars _ hold, World.keptBut_mono (fun p hp => ⟨hp, ?_⟩) (hb.frame (· ∈ before)), fun _ => ?_⟩
  · rw [hps, List.mem_append] at hp
    exact Or.inr hp
  · obtain ⟨_, _, _, _, _, hz, hn⟩ := hW
    refine ⟨hok, _, _, ([] ++ pa) ++ pv, ⟨[] ++ pa, pv, trodAll_append (hargs _ (fun _ _ => rfl)) (hres _ _ _), hvars _ (fun _ _ => rfl), rfl, ?_, ?_⟩, ?_⟩
    · intro b off hp
      have hin : MemPlace.cell b off ∈ before := by rw [hps]; simpa using hp
      rw [hb.frozen (hlt _ hin)]
      exact hz b off hin
    · intro ha
      have := hn ha
      rw [hps] at this
      simpa using this
    · intro p hp _
      rw [hps]
      simpa using hp
end

section
variable {H : Type} {enc : TypeId × Value → H} {P : Program} {w : World} {base : Nat} {held : Bool}
theorem weights_slice {t e : TypeId} {elems spare : List (DataW H)} (hu : P.underlying t = some (.slice e)) : (DataW.slice elems spare).weights P t = (elems.length + spare.length) * P.bytesOf e :: (DataW.weightsAll P e elems ++ DataW.weightsAll P e spare) := by
  simp [DataW.weights, hu]
theorem weightsAll_mem {e : TypeId} {d : DataW H} : ∀ {l : List (DataW H)}, d ∈ l → ∀ n ∈ d.weights P e, n ∈ DataW.weightsAll P e l
  | a :: l, h, n, hn => by
    simp only [DataW.weightsAll, List.mem_append]
    rcases List.mem_cons.1 h with rfl | h
    · exact .inl hn
    · exact .inr (weightsAll_mem h n hn)
theorem addr_add (b off j : Nat) : (⟨b, off, none⟩ : Addr).add j = ⟨b, off + j, none⟩ := by unfold Addr.add; split <;> simp_all
theorem reach_is : reachBytes = 140737488351232 := rfl
/-- a slice of whatever elements of one cell, opened -/
theorem open_hd {t e : TypeId} {fuel : Nat} {cs : List Value} {x : DataW H × List MemPlace} (ht : P.underlying t = some (.slice e)) (hc : P.cellsOf e = 1) (hb : 1 ≤ P.bytesOf e) (h : DataW.trod enc P w base (fun _ => true) held fuel t cs = some x) (hw : ∀ n ∈ x.1.weights P t, n ≤ reachBytes) :
    ∃ (oa : Option Addr) (len cap b off : Nat) (V : Nat → Value) (D : Nat → DataW H), cs = [.slice oa len cap] ∧ Hd w oa len cap b off ∧ ∀ i, i < len → w.cell? ⟨b, off + i, none⟩ = some (V i) ∧ (∃ n p, DataW.trod enc P w base (fun _ => true) held n e [V i] = some (D i, p)) ∧ ∀ n ∈ (D i).weights P e, n ≤ reachBytes := by
  rcases open_slice1 ht hc h with ⟨rfl, -⟩ | ⟨a, len, cap, m, n, V, D, Pl, rfl, -, hl, hm, hmm, rfl, hx⟩
  · exact ⟨none, 0, 0, 0, 0, fun _ => undef, fun _ => .nil, rfl, ⟨fun h => absurd h (Nat.lt_irrefl 0), Nat.le_refl _, by simp [maxLen], by simp, fun h => absurd h (Nat.lt_irrefl 0)⟩, fun i hi => absurd hi (Nat.not_lt_zero i)⟩
  · simp only [if_true] at hmm
    subst hmm
    have hwt := weights_slice (P := P) (elems := (List.range len).map D) (spare := (List.range (m - len)).map fun j => D (len + j)) ht
    simp only at hw
    rw [hwt] at hw
    have h1 := hw _ (List.mem_cons_self ..)
    simp only [List.length_map, List.length_range] at h1
    have h2 : m * 1 ≤ (len + (m - len)) * P.bytesOf e := Nat.mul_le_mul (by omega) hb
    rw [reach_is] at h1
    obtain ⟨ab, ao, asp⟩ := a
    have hsp : 0 < len → asp = none := fun h0 => by
      have h3 := (hx 0 (by omega)).1
      simpa [Addr.add] using World.cell?_spot h3
    refine ⟨some ⟨ab, ao, asp⟩, len, m, ab, ao, V, D, rfl, ⟨fun h0 => by rw [hsp h0], hl, hm, by omega, fun h0 => ?_⟩, fun i hi => ⟨?_, ⟨n, Pl i, (hx i (by omega)).2⟩, fun k hk => hw k (List.mem_cons_of_mem _ (List.mem_append_left _ (weightsAll_mem (List.mem_map.2 ⟨i, List.mem_range.2 hi, rfl⟩) k hk)))⟩⟩
    · have h3 := (hx 0 (by omega)).1
      have := World.block_lt_of_cell? _ _ h3
      simpa [Addr.add] using this
    · have h3 := (hx i (by omega)).1
      have h4 := hsp (by omega)
      subst h4
      rwa [addr_add] at h3
end

section
variable {H : Type} {enc : TypeId × Value → H} {w : World} {base : Nat} {held : Bool}
end
end Go.Cm

/- The document's writer while numbers are put, and the walk of its Align. Conditions: the writer is there. -/
namespace Go.Cm
open Go.RowKit Go.Proofs

/-- the document's writer in block g, whose row was vb0 in world w0 -/
def RSt (w0 : World) (B g : Nat) (vb0 : Value) (st : Nat × Nat) (W : World) : Prop := ∃ vb, WrtRV W B g st.1 st.2 vb ∧ Below B w0 W ∧ Fr g vb0 vb w0 W
theorem RSt.start {w : World} {B g N L : Nat} {vb : Value} (h : WrtRV w B g N L vb) : RSt w B g vb (N, L) w := ⟨vb, h, Below.refl _ _, Fr.refl _ _ _⟩
theorem RSt.up {w0 W W' : World} {B g : Nat} {vb0 : Value} {st : Nat × Nat} (h : RSt w0 B g vb0 st W) (hb : Below W.heap.size W W') (hB : B ≤ W.heap.size) : RSt w0 B g vb0 st W' := by
  obtain ⟨vb, h1, h2, h3⟩ := h
  exact ⟨vb, h1.up hb, h2.trans (hb.mono hB), h3.below hb⟩
theorem RSt.bel {w0 W : World} {B g : Nat} {vb0 : Value} {st : Nat × Nat} (h : RSt w0 B g vb0 st W) : Below B w0 W := by
  obtain ⟨vb, h1, h2, h3⟩ := h; exact h2
theorem RSt.size {w0 W : World} {B g : Nat} {vb0 : Value} {st : Nat × Nat} (h : RSt w0 B g vb0 st W) : w0.heap.size ≤ W.heap.size := h.bel.size
theorem RSt.own {w0 W : World} {B g B' E : Nat} {vb0 v : Value} {st : Nat × Nat} {xs : List Value} (h : RSt w0 B g vb0 st W) (ho : Own w0 B' E v xs) (h1 : v.ownBlock ≠ some g) (h2 : ∀ k, v.ownBlock = some k → vb0.ownBlock ≠ some k) : Own W B' E v xs := by
  obtain ⟨vb, -, -, h3⟩ := h
  exact ho.of_blk fun k hk => h3.1 k (ho.lt k hk).2 (fun e => h1 (by rw [hk, e])) (h2 k hk)
end Go.Cm

/- The walks of the program's coder: a symbol with its further bits; an op. Conditions: the coder is there, the lengths lie beside it. -/
namespace Go.Cm
open Go.RowKit Go.Proofs

/-- what a coder in block gc over a writer in block g leaves alone -/
def FrC (g gc : Nat) (vb vb' : Value) (w w' : World) : Prop := (∀ k, k < w.heap.size → k ≠ g → k ≠ gc → vb.ownBlock ≠ some k → w'.heap[k]? = w.heap[k]?) ∧ (∀ k, vb'.ownBlock = some k → vb.ownBlock = some k ∨ w.heap.size ≤ k) ∧ w.heap.size ≤ w'.heap.size
theorem FrC.of {g gc : Nat} {vb vb' : Value} {w w' : World} (h : Fr g vb vb' w w') : FrC g gc vb vb' w w' := ⟨fun k hk h1 _ h3 => h.1 k hk h1 h3, h.2⟩
theorem FrC.refl (g gc : Nat) (vb : Value) (w : World) : FrC g gc vb vb w w := ⟨fun _ _ _ _ _ => rfl, fun _ h => .inl h, Nat.le_refl _⟩
theorem FrC.trans {g gc : Nat} {vb vb' vc : Value} {w w1 w2 : World} (h : FrC g gc vb vb' w w1) (k : FrC g gc vb' vc w1 w2) : FrC g gc vb vc w w2 := by
  refine ⟨fun q hq h1 h2 h3 => ?_, fun q hq => ?_, Nat.le_trans h.2.2 k.2.2⟩
  · rw [k.1 q (Nat.lt_of_lt_of_le hq h.2.2) h1 h2 ?_, h.1 q hq h1 h2 h3]
    intro e
    rcases h.2.1 q e with z | z
    · exact h3 z
    · omega
  · rcases k.2.1 q hq with z | z
    · exact h.2.1 q z
    · exact .inr (Nat.le_trans h.2.2 z)
theorem FrC.below {g gc : Nat} {vb vb' : Value} {w w1 w2 : World} (h : FrC g gc vb vb' w w1) (hb : Below w1.heap.size w1 w2) : FrC g gc vb vb' w w2 :=
  ⟨fun k hk h1 h2 h3 => by rw [hb.block k (Nat.lt_of_lt_of_le hk h.2.2), h.1 k hk h1 h2 h3], h.2.1, Nat.le_trans h.2.2 hb.size⟩
theorem FrC.cell {g gc : Nat} {vb : Value} {w : World} (c : Nat) (v : Value) : FrC g gc vb vb w (w.setCell ⟨gc, c, none⟩ v) :=
  ⟨fun k _ _ h2 _ => by rw [heap_setCell_other _ _ _ _ (by exact h2)], fun _ h => .inl h, by simp⟩
/-- a list of lengths that stays while the coder works -/
def Stay (g gc : Nat) (vb : Value) (w : World) (v : Value) (l : List Int) : Prop := ∀ W vb', FrC g gc vb vb' w W → IntsAt W v l
theorem Stay.next {g gc : Nat} {vb vb' : Value} {w w' : World} {v : Value} {l : List Int} (h : Stay g gc vb w v l) (hf : FrC g gc vb vb' w w') : Stay g gc vb' w' v l := fun W vc hc => h W vc (hf.trans hc)
/-- the coder, what is wrong and the bits -/
structure CdV (w : World) (B g gc : Nat) (vb vl vd : Value) (x : Nat × Nat × Nat) : Prop where
  wr : WrtV w B g x.2.1 x.2.2 vb
  cd : Own w B 118 (.slice (some ⟨gc, 0, none⟩) 4 4) [.pointer (some ⟨g, 0, none⟩), vl, vd, .int .i64 (x.1 : Nat)]
  ne : vb.ownBlock ≠ some gc
  gg : gc ≠ g
theorem CdV.up {w w' : World} {B g gc : Nat} {vb vl vd : Value} {x : Nat × Nat × Nat} (h : CdV w B g gc vb vl vd x) (hb : Below w.heap.size w w') : CdV w' B g gc vb vl vd x := ⟨h.wr.up hb, h.cd.up hb, h.ne, h.gg⟩
/-- the writer has written, the coder is told what is wrong -/
theorem CdV.told {w w1 : World} {B g gc N L : Nat} {vb vb1 vl vd : Value} {x : Nat × Nat × Nat} (h : CdV w B g gc vb vl vd x) (hw : WrtV w1 B g N L vb1) (hf : Fr g vb vb1 w w1) (hb : Below B w w1) (er : Nat) :
    CdV (w1.setCell ⟨gc, 3, none⟩ (.int .i64 (er : Nat))) B g gc vb1 vl vd (er, N, L) ∧ FrC g gc vb vb1 w (w1.setCell ⟨gc, 3, none⟩ (.int .i64 (er : Nat))) ∧ Below B w (w1.setCell ⟨gc, 3, none⟩ (.int .i64 (er : Nat))) := by
  have hcd : Own w1 B 118 (.slice (some ⟨gc, 0, none⟩) 4 4) [.pointer (some ⟨g, 0, none⟩), vl, vd, .int .i64 (x.1 : Nat)] := h.cd.of_blk fun k hk => by
    have e : some gc = some k := hk
    injection e with e
    subst e
    exact hf.1 gc h.cd.blk.2 h.gg h.ne
  have hne : vb1.ownBlock ≠ some gc := fun e => by
    rcases hf.2.1 gc e with q | q
    · exact h.ne q
    · have := h.cd.blk.2; omega
  have hst := hcd.store 3 (.int .i64 (er : Nat))
  refine ⟨⟨⟨hw.box.keep hst.2 (fun e => h.gg (Option.some.inj e)), hw.own.keep hst.2 (.inr hne), hw.ne, hw.ge, hw.lt⟩, hst.1, hne, h.gg⟩, (FrC.of hf).trans (FrC.cell 3 _), hb.grown hst.2 (Nat.le_trans (by have := h.wr.ge; have := h.wr.box.lt; omega) hb.size) (fun k e => by cases e; exact h.cd.blk.1)⟩
/-- the writer has written, the coder is as it was -/
theorem CdV.wrote {w w1 : World} {B g gc N L : Nat} {vb vb1 vl vd : Value} {x : Nat × Nat × Nat} (h : CdV w B g gc vb vl vd x) (hw : WrtV w1 B g N L vb1) (hf : Fr g vb vb1 w w1) : CdV w1 B g gc vb1 vl vd (x.1, N, L) := by
  refine ⟨hw, h.cd.of_blk fun k hk => ?_, fun e => ?_, h.gg⟩
  · have e : some gc = some k := hk
    injection e with e
    subst e
    exact hf.1 gc h.cd.blk.2 h.gg h.ne
  · rcases hf.2.1 gc e with q | q
    · exact h.ne q
    · have := h.cd.blk.2; omega
end Go.Cm

/- The walk of a coded block's writing. Conditions: the writer is there, the part lies below it. -/
namespace Go.Cm
open Go.RowKit Go.Proofs

theorem sl_heap {w W : World} {v : Value} {l : List Value} (h : Sl w v l) (hb : ∀ k, k < w.heap.size → W.heap[k]? = w.heap[k]?) (hs : w.heap.size ≤ W.heap.size) : Sl W v l := by
  obtain ⟨oa, cap, b, off, rfl, hd, hc⟩ := h
  refine ⟨oa, cap, b, off, rfl, ⟨hd.hat, hd.hcap, hd.hmax, hd.hsml, fun h => Nat.lt_of_lt_of_le (hd.hblk h) hs⟩, fun i hi => ?_⟩
  rw [World.cell?_of_block (w := w) (w' := W) (hb b (hd.hblk (by omega)))]
  exact hc i hi
/-- what lies below the writer stays -/
theorem FrC.low {w0 w W : World} {B g gc N L : Nat} {vb vb' : Value} (hf : FrC g gc vb vb' w W) (hw : WrtV w B g N L vb) (hgc : B ≤ gc) (hB0 : w0.heap.size ≤ B) (hb0 : Below w0.heap.size w0 w) : (∀ k, k < w0.heap.size → W.heap[k]? = w0.heap[k]?) ∧ w0.heap.size ≤ W.heap.size := by
  refine ⟨fun k hk => ?_, Nat.le_trans hb0.size hf.2.2⟩
  rw [hf.1 k (Nat.lt_of_lt_of_le hk hb0.size) (by have := hw.ge; omega) (by omega) (fun e => by have := (hw.own.lt k e).1; omega), hb0.block k hk]
theorem Stay.low {w0 w : World} {B g gc N L : Nat} {vb v : Value} {l : List Int} (h : IntsAt w0 v l) (hw : WrtV w B g N L vb) (hgc : B ≤ gc) (hB0 : w0.heap.size ≤ B) (hb0 : Below w0.heap.size w0 w) : Stay g gc vb w v l := fun W vb' hf => by
  obtain ⟨h1, h2⟩ := hf.low hw hgc hB0 hb0
  exact sl_heap h h1 h2
theorem Stay.own {w : World} {B' g gc : Nat} {vb v : Value} {l : List Int} (h : Own w B' 3 v (ints l)) (hk : ∀ k, v.ownBlock = some k → k ≠ g ∧ k ≠ gc ∧ vb.ownBlock ≠ some k) : Stay g gc vb w v l := fun W _vb' hf =>
  (h.of_blk (w' := W) fun k e => hf.1 k (h.lt k e).2 (hk k e).1 (hk k e).2.1 (hk k e).2.2).sl
end Go.Cm

/- The walk of the law's 'small'. Conditions: none. -/
namespace Go.Cm
open Go.RowKit Go.Proofs

theorem smallI (s t : ByteArray) (w : World) : Calls Try.prog 26 #[.string s, .string t] w fun e w' => e = .returned (.bool (decide (s.size ≤ 600 ∧ t.size ≤ 40000))) ∧ w' = w := by
  by_cases h1 : s.size ≤ 600
  · have h1' : decide ((s.size : Int) ≤ 600) = true := decide_eq_true (by omega)
    by_cases h2 : t.size ≤ 40000
    · have h2' : decide ((t.size : Int) ≤ 40000) = true := decide_eq_true (by omega)
      rw [decide_eq_true (show s.size ≤ 600 ∧ t.size ≤ 40000 from ⟨h1, h2⟩)]
      go_enter Try.func26, Try.ntmps26
      go_wp2
      go_ret
      exact ⟨rfl, rfl⟩
    · have h2' : decide ((t.size : Int) ≤ 40000) = false := decide_eq_false (by omega)
      rw [decide_eq_false (show ¬ (s.size ≤ 600 ∧ t.size ≤ 40000) from fun h => h2 h.2)]
      go_enter Try.func26, Try.ntmps26
      go_wp2
      go_ret
      exact ⟨rfl, rfl⟩
  · have h1' : decide ((s.size : Int) ≤ 600) = false := decide_eq_false (by omega)
    rw [decide_eq_false (show ¬ (s.size ≤ 600 ∧ t.size ≤ 40000) from fun h => h1 h.1)]
    go_enter Try.func26, Try.ntmps26
    go_wp2
    go_ret
    exact ⟨rfl, rfl⟩
end Go.Cm

/- The walk of the document's Again. Conditions: the text that it makes is not too long. -/
namespace Go.Cm
open Go.RowKit Go.Proofs

/-- a text, so many times -/
def agN (l : Byts) : Nat → Byts
  | 0 => []
  | k + 1 => agN l k ++ l
theorem agN_len (l : Byts) : ∀ k, (agN l k).length = k * l.length
  | 0 => by simp [agN]
  | k + 1 => by rw [agN, List.length_append, agN_len l k, Nat.succ_mul]
set_option maxRecDepth 100000 in
set_option maxHeartbeats 2000000 in
theorem againI (s : ByteArray) (n : Nat) (hn : n ≤ 1000) (hs : s.size ≤ 1000) (w : World) : Calls Try.prog 36 #[.string s, .int .i64 n] w fun e w' => e = .returned (.string ⟨(agN (bys s) n).toArray⟩) ∧ Below w.heap.size w w' := by
  have HN := Lib.hid hn
  have HS := Lib.hid hs
  go_enter Try.func36, Try.ntmps36
  go_wp2
  go_loopg [5, 6] (n + 1) (fun gk bv iv wr => ∃ k : Nat, iv = .int .i64 k ∧ k ≤ n ∧ Own wr w.heap.size 5 bv (bytesV (agN (bys s) k)) ∧ Below w.heap.size w wr ∧ gk = n + 1 - k)
  case atStart => exact ⟨0, rfl, Nat.zero_le _, Own.nil _ _ _, Below.refl _ _, rfl⟩
  case round =>
    obtain ⟨k, rfl, hk, ho, hb, rfl⟩ := hrel
    obtain ⟨ob, kb, qb, fb, hvb, hdb, -⟩ := ho.sl
    have hmb := hdb.len
    obtain ⟨L, hL⟩ : ∃ L, L = (bytesV (agN (bys s) k)).length := ⟨_, rfl⟩
    rw [← hL] at hvb hmb
    subst hvb
    have HO := Lib.hid ho
    have HB := Lib.hid hb
    have HSZ := Lib.hid hb.size
    have hlen : (bytesV (agN (bys s) k)).length ≤ 1000000 := by
      rw [bytesV_length, agN_len, bys_len]
      exact Nat.le_trans (Nat.mul_le_mul (Nat.le_trans hk hn) hs) (by decide)
    have HLN : Hid ((bytesV (agN (bys s) k)).length + s.size ≤ 4294967296) := Lib.hid (by omega)
    have HCV := Lib.hid (run_bytes_string (P := Try.prog) wr 43 9 5 Try.underlying43 Try.underlying5 Try.underlying9 (.slice ob L kb) (agN (bys s) k) ho.sl)
    clear ho hb hlen hdb hL
    by_cases hlt : k < n
    · go_wp2_with (at_builtin; go_loud (refine wpList_app_str rfl (.tmp 12) (.tmp 13) 43 9 rfl w.heap.size 5 (.int .u8 0) 1 Try.underlying43 Try.underlying9 (by kernel_rfl) rfl (by decide) (.slice ob L kb) (bytesV (agN (bys s) k)) rfl HO.out s rfl HLN.out HSZ.out ?_); intro v5 w5 hown5 hg5 hk5; have HO5 := Lib.hid hown5; have HG5 := Lib.hid hg5; clear hown5 hg5 hk5)
      go_roundg (n + 1 - (k + 1))
      case measure => omega
      case rel =>
        refine ⟨k + 1, by go_num, hlt, ?_, ((fx_below (S := fun _ => False) HB.out).grown HG5.out (fun q e => .inr (HO.out.lt q e).1)).below (Below.refl _ _) (Nat.le_refl _) (fun _ e => e.elim), rfl⟩
        rw [agN, bytesV_append]; exact HO5.out
    · obtain rfl : k = n := by omega
      go_wp2_with ((with_reducible show wpList _ _ _ (Oper.mk _ (.convert _ _ _) _ _ _ _ :: _) _ _); refine wpList_conv_by rfl 43 9 (.tmp 15) rfl _ HCV.out ?_)
      go_ret
      exact ⟨rfl, HB.out⟩
end Go.Cm

/- The walk of the law of far bytes of a preset. Conditions: none. -/
namespace Go.Cm
open Go.RowKit Go.Proofs

attribute [local irreducible] lastN
theorem same_pre {s : ByteArray} {t t' : Byts} {p : Nat} (h : lastN t = lastN t') : txI s t p = txI s t' p ∧ erI s t p = erI s t' p ∧ enI s t p = enI s t' p := by
  have hz : zNew t p = zNew t' p := by unfold zNew; rw [h]
  unfold txI erI enI
  rw [h, hz]
  exact ⟨rfl, rfl, rfl⟩
theorem bys_app (a b : ByteArray) : bys (a ++ b) = bys a ++ bys b := by
  cases a; cases b; simp [bys]
set_option maxRecDepth 100000 in
set_option maxHeartbeats 2000000 in
theorem presetI (s far : ByteArray) (near : Nat) (hn : near < 65536) (w : World) : Calls Try.prog 8 #[.string s, .string far, .int .u16 near] w fun e w' => e = .returned (.bool true) ∧ Below w.heap.size w w' := by
  have HK := Lib.hid knownI
  have HSM := Lib.hid (smallI s far w)
  by_cases hsm : (s.size ≤ 600 ∧ far.size ≤ 40000)
  · rw [decide_eq_true hsm] at HSM
    by_cases hf : far.size ≤ 100
    · have hf' : decide ((far.size : Int) > 100) = false := decide_eq_false (by omega)
      obtain ⟨r, hr⟩ : ∃ r, r = near % 700 := ⟨_, rfl⟩
      have hr7 : r < 700 := by omega
      have hri : (near : Int) % 700 = (r : Nat) := by omega
      have hmi : (1 + (r : Int)) = ((r + 1 : Nat) : Int) := by omega
      have HMI := Lib.hid hmi
      obtain ⟨m, hm⟩ : ∃ m, m = r + 1 := ⟨_, rfl⟩
      have hm7 : m ≤ 700 := by omega
      rw [← hm] at HMI
      clear hr hmi hm
      have hfx : (far ++ ⟨#[120]⟩ : ByteArray).size ≤ 1000 := by rw [← bys_len, bys_app, List.length_append, bys_len]; show far.size + 1 ≤ 1000; omega
      have HAG := Lib.hid (fun W => againI (far ++ ⟨#[120]⟩) m (by omega) hfx W)
      obtain ⟨P, hP⟩ : ∃ P : ByteArray, P = ⟨(agN (bys (far ++ ⟨#[120]⟩)) m).toArray⟩ := ⟨_, rfl⟩
      rw [← hP] at HAG
      have hPs : P.size ≤ 1000000 := by
        rw [← bys_len, hP, bys_mk, agN_len, bys_len]
        exact Nat.le_trans (Nat.mul_le_mul hm7 hfx) (by decide)
      clear hP
      go_enter Try.func8, Try.ntmps8
      go_upto_region 4 with (first | ((with_reducible go_at_call 26); (with_reducible refine HSM.out.mono ?_); rintro e w' ⟨rfl, hw⟩; rw [hw]; clear hw) | ((with_reducible go_at_call 36); (rw [HMI.out]); (with_reducible refine (HAG.out _).mono ?_); rintro e w1 ⟨rfl, hb⟩; have HB1 := Lib.hid hb; clear hb))
      by_cases hP : P.size < 32768
      · have hP' : decide ((P.size : Int) < 32768) = true := decide_eq_true (by omega)
        go_wp2_with ((with_reducible go_at_call 27); (with_reducible refine (HK.out _).mono ?_); rintro e w' ⟨rfl, hb⟩; have HB2 := Lib.hid hb; clear hb)
        go_ret
        exact ⟨rfl, HB1.out.trans (HB2.out.mono HB1.out.size)⟩
      · have hP' : decide ((P.size : Int) < 32768) = false := decide_eq_false (by omega)
        have hla : lastN (bys (far ++ P)) = lastN (bys P) := by
          rw [bys_app]
          have h1 : (bys far ++ bys P).drop (bys far).length = bys P := List.drop_left
          have h2 := lastN_drop (l := bys far ++ bys P) (k := (bys far).length) (by rw [List.length_append, bys_len P]; omega)
          rw [h1] at h2
          exact h2.symm
        obtain ⟨q1, q2, q3⟩ := same_pre (s := s) (p := 0) hla
        have HA1 : Hid (∀ W, Calls Try.prog 28 #[.string s, .int .i64 0, .string P] W (RetAll s (bys P) 0 W)) := Lib.hid (fun W => allI s P 0 (by omega) (Nat.zero_le _) (by omega) W)
        have HA2 : Hid (∀ W, Calls Try.prog 28 #[.string s, .int .i64 0, .string (far ++ P)] W (RetAll s (bys (far ++ P)) 0 W)) := Lib.hid (fun W => allI s (far ++ P) 0 (by omega) (Nat.zero_le _) (by rw [← bys_len, bys_app, List.length_append, bys_len, bys_len]; omega) W)
        have HQ1 := Lib.hid q1
        have HQ2 := Lib.hid q2
        have HQ3 := Lib.hid q3
        clear hla q1 q2 q3
        go_upto_region 7 with ((with_reducible go_at_call 28); (with_reducible refine (HA1.out _).mono ?_); rintro e w2 ⟨c1, v1, q1, rfl, hb, h1, h2⟩; have HB2 := Lib.hid hb; have H1 := Lib.hid h1; have H2 := Lib.hid h2; clear hb h1 h2)
        go_upto_region 8 with ((with_reducible go_at_call 28); (with_reducible refine (HA2.out _).mono ?_); rintro e w3 ⟨c2, v2, q2, rfl, hb, h1, h2⟩; have HB3 := Lib.hid hb; have H3 := Lib.hid h1; have H4 := Lib.hid h2; clear hb h1 h2)
        have hcq : c2 = c1 ∧ q2 = q1 := by
          by_cases hE : erI s (bys P) 0 = 0
          · obtain ⟨a1, -, a2⟩ := H1.out hE
            obtain ⟨b1, -, b2⟩ := H3.out (by rw [HQ2.out]; exact hE)
            exact ⟨bys_inj (by rw [a1, b1, HQ1.out]), by rw [a2, b2, HQ3.out]⟩
          · obtain ⟨a1, -, a2⟩ := H2.out hE
            obtain ⟨b1, -, b2⟩ := H4.out (by rw [HQ2.out]; exact hE)
            exact ⟨bys_inj (by rw [a1, b1]), by rw [a2, b2]⟩
        obtain ⟨rfl, rfl⟩ := hcq
        rw [HQ2.out]
        generalize erI s (bys P) 0 = E at *
        go_wp2_with ((with_reducible go_at_call 27); (with_reducible refine (HK.out _).mono ?_); rintro e w' ⟨rfl, hb⟩; have HB4 := Lib.hid hb; clear hb)
        go_ret
        exact ⟨rfl, ((HB1.out.trans (HB2.out.mono HB1.out.size)).trans (HB3.out.mono (Nat.le_trans HB1.out.size HB2.out.size))).trans (HB4.out.mono (Nat.le_trans (Nat.le_trans HB1.out.size HB2.out.size) HB3.out.size))⟩
    · have hf' : decide ((far.size : Int) > 100) = true := decide_eq_true (by omega)
      go_enter Try.func8, Try.ntmps8
      go_wp2_with (first | ((with_reducible go_at_call 26); (with_reducible refine HSM.out.mono ?_); rintro e w' ⟨rfl, hw⟩; rw [hw]; clear hw) | ((with_reducible go_at_call 27); (with_reducible refine (HK.out _).mono ?_); rintro e w' ⟨rfl, hb⟩; have HB2 := Lib.hid hb; clear hb))
      go_ret
      exact ⟨rfl, HB2.out⟩
  · rw [decide_eq_false hsm] at HSM
    go_enter Try.func8, Try.ntmps8
    go_wp2_with (first | ((with_reducible go_at_call 26); (with_reducible refine HSM.out.mono ?_); rintro e w' ⟨rfl, hw⟩; rw [hw]; clear hw) | ((with_reducible go_at_call 27); (with_reducible refine (HK.out _).mono ?_); rintro e w' ⟨rfl, hb⟩; have HB2 := Lib.hid hb; clear hb))
    go_ret
    exact ⟨rfl, HB2.out⟩
end Go.Cm
