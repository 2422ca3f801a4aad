/- Texts of this claim, joined: walks of small functions and plain facts about them. Conditions: as each says. -/
import Derived.Test.YtmophmeiemfikaaGreatBS
import Derived.Test.YtmophmeiemfikaaGreatRows
import Derived.WalkKit
import Derived.WalkSpells
import Derived.WalkLawsBesides
import Derived.Deep.QuietTactic
import Derived.BigQuiet
import Derived.Lib.Hide
import Derived.Laws.Small
import Derived.Deep.LoopGhost
import Derived.Laws.BitsLemmas
import Derived.Deep.DeepCutAuto
import Derived.Deep.CutBlock
import Derived.Deep.CutRange
import Derived.Laws.IdiomStrings
import Derived.Laws.CopyOwn
import Derived.Laws.EntriesVeiled
import Derived.Shelf.Abstract
import Derived.WalkMore
/- The walk of the document's All. Conditions: the texts are not too long. -/
namespace Go.Cm
open Go.RowKit Go.Proofs

attribute [local irreducible] lastN
theorem results_cell1 {P : Program} {fn : Func} {tmps : Array Value} {w : World} {a t : Nat} {ad : Addr} {v : Value} (hf : fn.results = #[.cell a t]) (ha : tmps.getD a undef = .pointer (some ad)) (hl : (loadVar t ad).run P w = .ok v w) :
    (results fn tmps).run P w = .ok v w := by
  have ha' : tmps[a]?.getD undef = .pointer (some ad) := by simpa using ha
  simp [results, hf, asAddr, ha', hl]
theorem ret_cell1 {P : Program} {fn : Func} {tmps : Array Value} {w : World} {ds : List Deferred} {s t : Nat} {ad : Addr} {x : Value} {R : Ending → World → Prop} (hf : fn.results = #[.cell s t]) (ha : tmps.getD s undef = .pointer (some ad)) (hd : ds = [])
    (hl : (loadVar t ad).run P w = .ok x w) (h : R (.returned x) w) : bodyPost P fn R .ret ⟨tmps, ds⟩ w :=
  bodyPost_ret (v := x) (results_cell1 hf ha hl) hd h
/-- what the document's All answers -/
def RetMade (s : ByteArray) (t : Byts) (p : Nat) (w : World) (e : Ending) (w' : World) : Prop :=
  ∃ (c : ByteArray) (v : Value) (q : Nat), e = .returned (.agg #[.string c, v, .int .i64 q, .int .i64 (erI s t p : Nat)]) ∧ Below w.heap.size w w' ∧ bys c = txI s t p ∧ (∃ L, OwnK 2 w' w.heap.size 63 v L ∧ (erI s t p = 0 → L = (bgI s t p).map stC)) ∧ (erI s t p = 0 → q = enI s t p)
theorem OwnF.mono {w : World} {B B' E : Nat} {v : Value} {xs : List Value} (h : OwnF w B E v xs) (hB : B' ≤ B) : OwnF w B' E v xs := by
  obtain ⟨h1, h2⟩ := h
  refine ⟨h1, h2.imp id ?_⟩
  rintro ⟨g, cap, cur, fz, a, b, c⟩
  exact ⟨g, cap, cur, fz, a, Nat.le_trans hB b, c⟩
theorem KFx.below {w0 w w' : World} {g6 gk gr : Nat} {vb : Value} (h : Fx (KSet gk gr vb) w w') (hb : Below g6 w0 w) (hB : g6 ≤ w.heap.size) (h1 : g6 ≤ gk) (h2 : g6 ≤ gr) (h3 : ∀ q, vb.ownBlock = some q → g6 ≤ q) : Below g6 w0 w' :=
  Fx.below h hb hB (fun q e => by rcases e with e | e | e; omega; omega; exact h3 q e)
/-- where the run has ended -/
theorem made_fin {s : ByteArray} {t : Byts} {p k e : Nat} {z : IS} (hp : p ≤ 8 * s.size) (hk : playS s (lastN t).length (zNew t p) k = (e, z)) (hs : e ≠ 0 ∨ z.md = 3) : erI s t p = e ∧ txI s t p = z.h.drop (lastN t).length ∧ enI s t p = z.p ∧ bgI s t p = z.st := by
  have hf : finS s (lastN t).length (zNew t p) = (e, z) := by
    rw [← hk]
    exact fin_of (t8 s) (zNew_ok hp) (by
      show StopI (playS s (lastN t).length (zNew t p) k)
      rw [hk]; exact hs)
  refine ⟨?_, ?_, ?_, ?_⟩
  · unfold erI; rw [hf]
  · unfold txI textS; rw [hf]
  · unfold enI; rw [hf]
  · unfold bgI; rw [hf]
set_option maxRecDepth 100000 in
set_option maxHeartbeats 8000000 in
theorem allR (s t : ByteArray) (p : Nat) (hs : s.size ≤ 4000000) (hp : p ≤ 8 * s.size) (ht : t.size ≤ 50000000) (w : World) : Calls Tryz.prog 8 #[.string s, .int .i64 p, .string t] w (RetMade s (bys t) p w) := by
  have HNW := Lib.hid (fun W => newT s p (by omega) hp W)
  have HS : Hid (s.size ≤ 4294967296) := Lib.hid (by omega)
  have HP := Lib.hid hp
  obtain ⟨u, hu, hus⟩ : ∃ u : ByteArray, bys u = lastN (bys t) ∧ (32768 < t.size → ∀ W : World, (Instr.sliceAt 9 (.string t) (some (.int .i64 ((t.size : Int) - 32768))) none none).run Tryz.prog W = .ok (.string u) W) := by
    by_cases h : 32768 < t.size
    · obtain ⟨u, h1, h2⟩ := slice_from t (t.size - 32768) (by omega)
      refine ⟨u, ?_, fun _ W => ?_⟩
      · rw [h1]; unfold lastN lastK; rw [bys_len]
      · have := h2 W
        rwa [show ((t.size - 32768 : Nat) : Int) = (t.size : Int) - 32768 by omega] at this
    · exact ⟨t, (lastN_all (by rw [bys_len]; omega)).symm, fun e => absurd e h⟩
  have HU := Lib.hid hu
  have HUS := Lib.hid hus
  have husz : u.size ≤ 32768 := by rw [← bys_len, hu, lastN_len]; omega
  have huq : ¬ 32768 < t.size → u = t := fun h => bys_inj (by rw [hu]; exact lastN_all (by rw [bys_len]; omega))
  clear hus
  have hcs : (decide ((t.size : Int) > 32768) = true ∧ 32768 < t.size) ∨ (¬ 32768 < t.size ∧ u = t) := by
    by_cases h : 32768 < t.size
    · exact .inl ⟨decide_eq_true (by omega), h⟩
    · exact .inr ⟨h, huq h⟩
  clear huq
  obtain ⟨tb, htb⟩ : ∃ tb, tb = bys t := ⟨_, rfl⟩
  rw [← htb] at HU hu ⊢
  clear htb
  have hul := hu
  go_enter Tryz.func8, Tryz.ntmps8
  go_upto_if 22 with ((with_reducible go_at_call 18); (with_reducible refine (HNW.out _).mono ?_); rintro e w1 ⟨gr, rfl, hr, hgr, hb⟩; have HR1 := Lib.hid hr; have HGR := Lib.hid hgr; have HB1 := Lib.hid hb; clear hr hgr hb)
  have HO6 : Hid (Own w1 w.heap.size 30 (.slice (some ⟨w.heap.size, 0, none⟩) 4 4) [.string ⟨#[]⟩, .slice none 0 0, .int .i64 0, .int .i64 0]) := Lib.hid (by
    have h := own_lit w w.heap.size #[.string ⟨#[]⟩, .slice none 0 0, .int .i64 0, .int .i64 0] 30 (by simp) (Nat.le_refl _)
    exact h.up HB1.out)
  have HB2 : Hid (Below w.heap.size w w1) := Lib.hid ((below_alloc w _).trans (HB1.out.mono (below_alloc w _).size))
  have HGR2 : Hid (w.heap.size < gr) := Lib.hid (by have := HGR.out; simp at this; omega)
  have hw1 : w.heap.size < w1.heap.size := by have := HR1.out.lt; have := HGR2.out; omega
  obtain ⟨g6, hg6⟩ : ∃ g6, g6 = w.heap.size := ⟨_, rfl⟩
  rw [← hg6] at HO6 HB2 HGR2 hw1 ⊢
  have HG6 := Lib.hid hg6
  clear HB1 HGR HNW hg6
  go_cut [2] (fun x2 wx => x2 = .string u ∧ wx = w1)
  case first =>
    rcases hcs with ⟨hc1, hc2⟩ | ⟨hc1, hc2⟩
    · have HSL := Lib.hid (HUS.out hc2)
      go_wp2_with ((with_reducible show wpList _ _ _ (Oper.mk _ (.slice _ _ _ _ _) _ _ _ _ :: _) _ _); refine wpList_slice_by rfl 9 (.tmp 23) (some (.tmp 26)) none none rfl _ (HSL.out _) ?_)
      go_meet
      case rel => exact ⟨rfl, rfl⟩
    · have HC2 := Lib.hid hc2
      clear hc2
      go_wp2
      go_meet
      case rel => exact ⟨by rw [HC2.out], rfl⟩
  case rest =>
    obtain ⟨rfl, hwc⟩ := hcut
    subst hwc
    clear hcs HUS
    go_upto_region 5 with (refine wpList_bytes_own rfl 9 54 5 (.tmp 29) rfl Tryz.underlying9 Tryz.underlying54 Tryz.underlying5 u rfl (by omega) ?_; intro vb w2 hob hb2; obtain ⟨ob, cb, bb, fb, hvb, -, -⟩ := hob.head; obtain ⟨lb, hlb⟩ : ∃ lb, lb = (bytesV (bys u)).length := ⟨_, rfl⟩; rw [← hlb] at hvb; subst hvb; clear hlb; have HOB := Lib.hid hob; have HB3 := Lib.hid hb2; clear hob hb2)
    have HBA := Lib.hid (below_alloc w2 (.cells #[.pointer (some ⟨gr, 0, none⟩), .slice ob lb cb, .int .i64 (u.size : Nat)] 56))
    have hbx := own_lit w2 g6 #[.pointer (some ⟨gr, 0, none⟩), .slice ob lb cb, .int .i64 (u.size : Nat)] 56 (by simp) (Nat.le_trans (Nat.le_of_lt hw1) HB3.out.size)
    have HBX := Lib.hid hbx
    obtain ⟨gk, hgk⟩ : ∃ gk, gk = w2.heap.size := ⟨_, rfl⟩
    have HGK := Lib.hid hgk
    rw [← hgk] at HBX ⊢
    generalize w2.alloc (.cells #[.pointer (some ⟨gr, 0, none⟩), .slice ob lb cb, .int .i64 (u.size : Nat)] 56) = w3 at *
    obtain ⟨vb, hvb⟩ : ∃ vb, vb = Value.slice ob lb cb := ⟨_, rfl⟩
    rw [← hvb] at HOB HBX
    have hpu : u.size = (lastN tb).length := by rw [← bys_len, hul]
    have hgrl := HR1.out.lt
    have hobl := HOB.out.lt
    have hb3s := HB3.out.size
    have HWK : Hid (WorkV w3 g6 gk gr vb s p (zNew tb p).h (lastN tb).length) := Lib.hid ⟨by rw [← hpu]; exact HBX.out, (HR1.out.up HB3.out).up HBA.out, by
      show OwnF w3 g6 _ vb (bytesV (lastN tb))
      rw [← hul]
      exact (HOB.out.fx (fx_below (S := fun _ => False) HBA.out) (fun _ _ e => e)).mono (Nat.le_of_lt hw1), by omega, fun e => by have := hobl gk e; omega, fun e => by have := hobl gr e; omega, Nat.le_of_lt HGR2.out⟩
    have HR6 := Lib.hid ((HO6.out.up HB3.out).up HBA.out)
    have hg6w : g6 ≤ w2.heap.size := by omega
    have HB5 : Hid (Below g6 w w3) := Lib.hid ((HB2.out.trans (HB3.out.mono (Nat.le_of_lt hw1))).trans (HBA.out.mono hg6w))
    have HGG : Hid (g6 < gr ∧ g6 < gk ∧ g6 < w3.heap.size) := Lib.hid ⟨HGR2.out, by omega, by have := HBA.out.size; omega⟩
    have HVB6 : Hid (vb.ownBlock ≠ some g6) := Lib.hid (fun e => by have := hobl g6 e; omega)
    have HPU := Lib.hid hpu
    have HI0 : Hid (IOk (8 * s.size) (lastN tb).length (zNew tb p)) := Lib.hid (zNew_ok hp)
    have HFN := Lib.hid (fun k e z h1 h2 => @made_fin s tb p k e z hp h1 h2)
    have hpre2 : (lastN tb).length ≤ 32768 := by rw [← hpu]; exact husz
    have HZ0 : Hid (playS s (lastN tb).length (zNew tb p) 0 = (0, zNew tb p)) := Lib.hid (playS_zero _ _ _)
    have HZP : Hid ((zNew tb p).p = p ∧ (zNew tb p).md = 0 ∧ (zNew tb p).st = []) := Lib.hid ⟨rfl, rfl, rfl⟩
    obtain ⟨pre, hpre⟩ : ∃ pre, pre = (lastN tb).length := ⟨_, rfl⟩
    rw [← hpre] at HWK HI0 HFN hpre2 HZ0 HPU
    generalize zNew tb p = z0 at *
    obtain ⟨N, hN⟩ : ∃ N, N = muI (8 * s.size) z0 := ⟨_, rfl⟩
    have HN := Lib.hid hN
    clear hbx hvb hpu hgrl hobl hb3s hg6w HB3 HB2 HO6 HOB HBX HR1 hgk hN hpre HGR2 HBA hu hul HU husz hw1
    go_wp2
    go_loopg [10, 11, 12, 13] (N + 1) (fun gq sv av hv ev wr => ∃ (kk : Nat) (y : IS) (vr : Value), playS s pre z0 kk = (0, y) ∧ y.md = 0 ∧ WorkV wr g6 gk gr vr s y.p y.h pre ∧ OwnK 2 wr g6 63 sv (y.st.map stC) ∧
      (∀ q, sv.ownBlock = some q → q ≠ gk ∧ q ≠ gr ∧ q ≠ g6 ∧ vr.ownBlock ≠ some q) ∧ vr.ownBlock ≠ some g6 ∧ Own wr g6 30 (.slice (some ⟨g6, 0, none⟩) 4 4) [.string ⟨#[]⟩, .slice none 0 0, .int .i64 0, .int .i64 0] ∧ Below g6 w wr ∧ gq = N + 1 - y.st.length)
    case atStart =>
      refine ⟨0, z0, vb, HZ0.out, HZP.out.2.1, by rw [HZP.out.1]; exact HWK.out, ?_, fun q e => (by cases e), HVB6.out, HR6.out, HB5.out, by rw [HZP.out.2.2]; rfl⟩
      rw [HZP.out.2.2]
      exact OwnK.nil _ _ _ _
    case round =>
      obtain ⟨kk, y, vr, hky, hym, hwk, hsts, hsep, hv6, hr6, hbw, rfl⟩ := hrel
      have hkp := (playS_keep HI0.out kk)
      rw [hky] at hkp
      obtain ⟨⟨hpre, hbig⟩, hkp⟩ := hkp
      obtain ⟨hio, hmu⟩ := hkp rfl
      simp only at hpre hbig hio hmu
      have hkN : kk ≤ N := by
        have := hmu.resolve_left (fun e => e.elim (fun e => e rfl) (fun e => by rw [hym] at e; cases e))
        have := HN.out
        omega
      have hstl : y.st.length ≤ N := by
        have h := playS_st (s := s) (pre := pre) (z0 := z0) HZP.out.2.2 kk
        rw [hky] at h
        exact Nat.le_trans h hkN
      have hyp := hio.p
      have HKY := Lib.hid hky
      have HYM := Lib.hid hym
      have HIO := Lib.hid hio
      have HPRE := Lib.hid hpre
      have HBIG := Lib.hid hbig
      have HW := Lib.hid hwk
      have HSTS := Lib.hid hsts
      have HSEP := Lib.hid hsep
      have HV6 := Lib.hid hv6
      have HR6' := Lib.hid hr6
      have HBW := Lib.hid hbw
      have HYP := Lib.hid hyp
      have HSTL := Lib.hid hstl
      have HRH := Lib.hid (readHR hwk.rd HS.out hyp)
      unfold RetHead at HRH
      obtain ⟨HF, hHF⟩ : ∃ HF, HF = headF (numS s) (8 * s.size) y.p := ⟨_, rfl⟩
      rw [← hHF] at HRH
      have HHF := Lib.hid hHF
      obtain ⟨hd, er, p4⟩ := HF
      obtain ⟨fb, kd, sz, ll, dd⟩ := hd
      simp only at HRH
      clear hHF
      have c1 : wr.cell? ⟨gr, 1, none⟩ = some (.int .i64 (y.p : Nat)) := hwk.rd.c1
      have hgl := hwk.lt.2.1
      clear hky hym hwk hsts hsep hv6 hr6 hbw hio hmu hkp hyp hkN
      go_upto_region 8 with ((with_reducible go_at_call 19); (with_reducible refine HRH.out.mono ?_); rintro e w4 ⟨v1, v2, rfl, ho1, ho2, hbx, hgr⟩; obtain ⟨o1, k1, q1, hv1, -⟩ := ho1.cases; obtain ⟨n1, hn1⟩ : ∃ n1, n1 = (ints (nls ll)).length := ⟨_, rfl⟩; rw [← hn1] at hv1; subst hv1; clear hn1; obtain ⟨o2, k2, q2, hv2, -⟩ := ho2.cases; obtain ⟨n2, hn2⟩ : ∃ n2, n2 = (ints (nls dd)).length := ⟨_, rfl⟩; rw [← hn2] at hv2; subst hv2; clear hn2; have HO1 := Lib.hid ho1; have HO2 := Lib.hid ho2; have HW4 := Lib.hid (HW.out.read hbx hgr).1; have HF4 := Lib.hid (HW.out.read hbx hgr).2; clear ho1 ho2 hbx hgr)
      have HBA5 := Lib.hid (below_alloc w4 (.cells #[.bool fb, .int .i64 (kd : Nat), .int .i64 (sz : Nat), .slice o1 n1 k1, .slice o2 n2 k2] 60))
      have HG5 : Hid ((w4.alloc (.cells #[.bool fb, .int .i64 (kd : Nat), .int .i64 (sz : Nat), .slice o1 n1 k1, .slice o2 n2 k2] 60)).heap[w4.heap.size]? = some (.cells #[.bool fb, .int .i64 (kd : Nat), .int .i64 (sz : Nat), .slice o1 n1 k1, .slice o2 n2 k2] 60 (0, 0))) := Lib.hid (heap_alloc_new w4 _)
      have hgh5 : w4.heap.size < (w4.alloc (.cells #[.bool fb, .int .i64 (kd : Nat), .int .i64 (sz : Nat), .slice o1 n1 k1, .slice o2 n2 k2] 60)).heap.size := by simp
      have h4s := HF4.out.size
      have hwl := HW.out.lt
      have HGH : Hid (∀ q, q ≤ gk ∨ q ≤ gr ∨ q ≤ g6 ∨ q < wr.heap.size → q ≠ w4.heap.size) := Lib.hid (fun q e => by have := HGG.out; omega)
      have HGHL := Lib.hid h4s
      have HWL := Lib.hid hwl
      generalize w4.alloc (.cells #[.bool fb, .int .i64 (kd : Nat), .int .i64 (sz : Nat), .slice o1 n1 k1, .slice o2 n2 k2] 60) = w5 at *
      have HW5 := Lib.hid (HW4.out.up HBA5.out)
      have HSTS5 := Lib.hid ((HSTS.out.fx HF4.out (fun q e z => by
        obtain ⟨x1, x2, x3, x4⟩ := HSEP.out q e
        rcases z with z | z | z
        · exact x1 z
        · exact x2 z
        · exact x4 z)).up HBA5.out)
      have HR65 := Lib.hid ((HF4.out.own HR6'.out (fun q e z => by
        have e : q = g6 := by injection e with e; exact e.symm
        have := HGG.out
        rcases z with z | z | z
        · omega
        · omega
        · exact HV6.out (by rw [← e]; exact z))).up HBA5.out)
      have HO15 := Lib.hid (HO1.out.up HBA5.out)
      have HO25 := Lib.hid (HO2.out.up HBA5.out)
      have HVG : Hid (∀ q, vr.ownBlock = some q → g6 ≤ q ∧ q < wr.heap.size) := Lib.hid (fun q e => HW.out.own.lt q e)
      have HSG : Hid (∀ q, u10.ownBlock = some q → g6 ≤ q ∧ q < wr.heap.size) := Lib.hid (fun q e => HSTS.out.lt q e)
      have HBW5 : Hid (Below g6 w w5) := Lib.hid ((KFx.below HF4.out HBW.out hwl.2.2.2 (Nat.le_of_lt HGG.out.2.1) (Nat.le_of_lt HGG.out.1) (fun q e => (HVG.out q e).1)).trans (HBA5.out.mono (Nat.le_trans hwl.2.2.2 h4s)))
      obtain ⟨gh, hgh⟩ : ∃ gh, gh = w4.heap.size := ⟨_, rfl⟩
      rw [← hgh] at HG5 hgh5 HGH HGHL ⊢
      have HGK5 := Lib.hid hgh5
      clear hgh h4s hwl hgh5 HO1 HO2 HW4 HSTS HR6' HBW HBA5 HF4 c1 hgl
      go_upto_if 45 with (fail)
      go_cut [10, 13] (fun sv ev wx => ∃ (Lz : List (List Value)) (ez : Nat) (vz : Value) (pz : Nat) (Hz : Byts), ev = .int .i64 (ez : Nat) ∧ WorkV wx g6 gk gr vz s pz Hz pre ∧ OwnK 2 wx g6 63 sv Lz ∧
        (∀ q, sv.ownBlock = some q → q ≠ gk ∧ q ≠ gr ∧ q ≠ g6 ∧ vz.ownBlock ≠ some q) ∧ vz.ownBlock ≠ some g6 ∧ Own wx g6 30 (.slice (some ⟨g6, 0, none⟩) 4 4) [.string ⟨#[]⟩, .slice none 0 0, .int .i64 0, .int .i64 0] ∧ Below g6 w wx ∧
        wx.heap[gh]? = some (.cells #[.bool fb, .int .i64 (kd : Nat), .int .i64 (sz : Nat), .slice o1 n1 k1, .slice o2 n2 k2] 60 (0, 0)) ∧ pre ≤ Hz.length ∧
        (∃ (kz : Nat) (zz : IS), playS s pre z0 kz = (ez, zz) ∧ Hz = zz.h ∧ pz ≤ 8 * s.size ∧ (ez = 0 → pz = zz.p ∧ Lz = zz.st.map stC ∧ zz.md = (if fb then 3 else 0) ∧ y.st.length < zz.st.length)))
      case first =>
        by_cases her : er = 0
        · subst her
          obtain ⟨z1, hz1⟩ : ∃ z1 : IS, z1 = ⟨if kd = 0 then 1 else 2, fb, sz, ll, dd, p4, y.h, y.st ++ [(y.p, y.h.length - pre)]⟩ := ⟨_, rfl⟩
          have hst : stepS s pre y = (0, z1) := by
            unfold stepS stI
            rw [if_pos HYM.out]
            unfold headI
            rw [← HHF.out]
            rw [if_neg (fun h => h rfl), hz1]
          have hps := ps_ok (M := 16777216) rfl HKY.out (by rw [HYM.out]; decide) hst (by rw [hz1]; show ¬ 16777216 < y.h.length - pre; have := HBIG.out; omega)
          have HPS := Lib.hid hps
          have hio1 : IOk (8 * s.size) pre z1 := by
            have h := (playS_keep HI0.out (kk + 1)).2
            rw [hps] at h
            exact (h rfl).1
          have HIO1 := Lib.hid hio1
          have HZ1 := Lib.hid hz1
          obtain ⟨xo, xc, xb, xf, hxv, hxd, -⟩ := HW5.out.own.head
          rw [bytesV_length] at hxv
          obtain ⟨LL, hLL⟩ : ∃ LL, LL = y.h.length := ⟨_, rfl⟩
          rw [← hLL] at hxv
          have c1 : w5.cell? ⟨gk, 1, none⟩ = some (.slice xo LL xc) := by rw [← hxv]; exact HW5.out.box.cell (by simp)
          have c2 : w5.cell? ⟨gk, 2, none⟩ = some (.int .i64 (pre : Nat)) := HW5.out.box.cell (by simp)
          have hgk5 := HW5.out.lt.1
          obtain ⟨D, hD⟩ : ∃ D, D = y.h.length - pre := ⟨_, rfl⟩
          have hsub : ((LL : Nat) : Int) - (pre : Nat) = (D : Nat) := by have := HPRE.out; omega
          have hLb : LL ≤ 40000000 := by have := HBIG.out; have := HPRE.out; omega
          have hpb : pre ≤ LL := by have := HPRE.out; omega
          have hD2 := Lib.hid hD
          have hXV := Lib.hid hxv
          have HTK : Hid ((y.st ++ [(y.p, D)]).map stC = y.st.map stC ++ [[.int .i64 (y.p : Nat), .int .i64 (D : Nat)]]) := Lib.hid (by rw [List.map_append]; rfl)
          obtain ⟨row, hrw⟩ : ∃ row, row = u10.ownBlock := ⟨_, rfl⟩
          have HROW := Lib.hid hrw
          have hne : some gk ≠ row := fun e => (HSEP.out gk (by rw [← hrw, ← e])).1 rfl
          have hw0 : g6 ≤ w5.drew.heap.size := Nat.le_trans HW5.out.lt.2.2.2 (Nat.le_refl _)
          have HT4 : Hid (g6 ≤ (w5.drew.alloc (.cells #[.int .i64 (y.p : Nat), .int .i64 (D : Nat)] 63)).heap.size) := Lib.hid (Nat.le_trans hw0 (below_alloc w5.drew _).size)
          have HTO := Lib.hid ((HSTS5.out.up (b_drew1 (Below.refl _ _))).up (below_alloc w5.drew (.cells #[.int .i64 (y.p : Nat), .int .i64 (D : Nat)] 63)))
          have hsl := slK_lit 2 w5.drew #[.int .i64 (y.p : Nat), .int .i64 (D : Nat)] 63 [[.int .i64 (y.p : Nat), .int .i64 (D : Nat)]] rfl (by intro x hx; simp at hx; subst hx; rfl) (by simp)
          have HSL : Hid (SlK 2 (w5.drew.alloc (.cells #[.int .i64 (y.p : Nat), .int .i64 (D : Nat)] 63)) (.slice (some ⟨w5.heap.size, 0, none⟩) 1 1) [[.int .i64 (y.p : Nat), .int .i64 (D : Nat)]]) := Lib.hid (by simpa using hsl)
          have HK5 : Hid (∀ x ∈ [[Value.int .i64 (y.p : Nat), .int .i64 (D : Nat)]], x.length = 2) := Lib.hid (by intro x hx; simp at hx; subst hx; rfl)
          have H1C : Hid (∀ x ∈ [[Value.int .i64 (y.p : Nat), .int .i64 (D : Nat)]].flatten, x.oneCell' = true) := Lib.hid (by intro x hx; simp at hx; rcases hx with rfl | rfl <;> rfl)
          have HLN : Hid ((y.st.map stC).length + [[Value.int .i64 (y.p : Nat), .int .i64 (D : Nat)]].length ≤ 1000000000) := Lib.hid (by
            rw [List.length_map, List.length_singleton]
            have := HSTL.out
            have h := muI_le (T := 8 * s.size) z0
            have := HN.out
            omega)
          clear hz1 hst hps hio1 hxv hxd hLL hD hrw hsl
          go_upto_region 9 with (fail)
          refine wp_region_tail (fun w' => ∃ x, w' = chg w5 row x) [0,1,2,3,4,5,6,7,8,9,10,11,12] [13,14] [15] (by kernel_rfl) (by kernel_rfl) (ex_chg (grown_drew _ _)) ?_
          simp only [pick, List.map_cons, List.map_nil, List.getD_cons_zero, List.getD_cons_succ]
          repeat (go_big_quiet_step (fail))
          refine wpQuiet_nil ?_
          (unfold wpAct; go_wp2; refine ⟨ex_chg (grown_below (by repeat (first | exact Below.refl _ _ | assumption | refine b_drewN ?_ _ | refine Below.drew ?_ | refine b_ext' ?_ _ | refine b_alloc' ?_ _)) _), ?_⟩)
          unfold wpAct
          go_wp2_with (at_builtin; refine wpList_appL 2 rfl (.tmp 46) (.tmp 59) 28 rfl g6 63 (.agg #[.int .i64 0, .int .i64 0]) 16 Tryz.underlying28 (by kernel_rfl) rfl (by decide) (by decide) u10 _ rfl HTO.out _ _ rfl HSL.out HK5.out H1C.out HLN.out HT4.out ?_; intro v6 w6 hown1 hg1 hk1; rw [← HROW.out] at hg1; have HO6 := Lib.hid hown1; have HG6' := Lib.hid hg1; have HK6 := Lib.hid hk1; clear hown1 hg1 hk1)
          refine ⟨ex_chg (grown_trans (grown_below (by repeat (first | exact Below.refl _ _ | assumption | refine b_drewN ?_ _ | refine Below.drew ?_ | refine b_ext' ?_ _ | refine b_alloc' ?_ _)) _) HG6'.out), ?_⟩
          unfold wpAct
          unfold wpAct
          go_wp2
          refine ⟨trivial, ?_⟩
          unfold wpAct
          have hBl : Below w5.heap.size w5 (w5.drew.alloc (.cells #[.int .i64 (y.p : Nat), .int .i64 (D : Nat)] 63)) := (by repeat (first | exact Below.refl _ _ | assumption | refine b_drewN ?_ _ | refine Below.drew ?_ | refine b_ext' ?_ _ | refine b_alloc' ?_ _))
          have hF6 : Fx (fun q => row = some q) w5 w6 := (fx_below hBl).trans (fx_grown HG6'.out (fun q e => e))
          have HF6 := Lib.hid hF6
          have hrk : row ≠ some gk := fun e => (HSEP.out gk (by rw [← HROW.out]; exact e)).1 rfl
          have hrr : row ≠ some gr := fun e => (HSEP.out gr (by rw [← HROW.out]; exact e)).2.1 rfl
          have hr66 : row ≠ some g6 := fun e => (HSEP.out g6 (by rw [← HROW.out]; exact e)).2.2.1 rfl
          have hrv : ∀ q, vr.ownBlock = some q → row ≠ some q := fun q e1 e => (HSEP.out q (by rw [← HROW.out]; exact e)).2.2.2 e1
          have hrl : ∀ q, row = some q → q < wr.heap.size := fun q e => (HSG.out q (by rw [← HROW.out]; exact e)).2
          have hwr5 : wr.heap.size ≤ gh ∧ gh < w5.heap.size := ⟨HGHL.out, HGK5.out⟩
          have hrh : row ≠ some gh := fun e => by have := hrl gh e; omega
          have HWR5 := Lib.hid hwr5
          have HW6 := Lib.hid (show WorkV w6 g6 gk gr vr s p4 y.h pre from ⟨hF6.own HW5.out.box (fun q e z => by
              have e : gk = q := by injection e
              exact hrk (by rw [e]; exact z)), ⟨hF6.own HW5.out.rd.own (fun q e z => by
              have e : gr = q := by injection e
              exact hrr (by rw [e]; exact z))⟩, HW5.out.own.fx hF6 (fun q e z => hrv q e z), HW5.out.n1, HW5.out.b1, HW5.out.b2, HW5.out.Br⟩)
          have hs5l : w5.heap.size ≤ (w5.drew.alloc (.cells #[.int .i64 (y.p : Nat), .int .i64 (D : Nat)] 63)).heap.size := hBl.size
          have HSEP6 : Hid (∀ q, v6.ownBlock = some q → q ≠ gk ∧ q ≠ gr ∧ q ≠ g6 ∧ vr.ownBlock ≠ some q) := Lib.hid (fun q e => by
            rcases HK6.out q e with z | z
            · exact HSEP.out q z
            · have l5 := HW5.out.lt
              have l6 := HGG.out
              have l7 : w5.heap.size ≤ q := Nat.le_trans hs5l z
              have l8 := hwr5.2
              exact ⟨by omega, by omega, by omega, fun x => by have := HVG.out q x; omega⟩)
          have HR66 := Lib.hid (hF6.own HR65.out (fun q e z => by
            have e : g6 = q := by injection e
            exact hr66 (by rw [e]; exact z)))
          have HG6h := Lib.hid ((hF6.block gh hwr5.2 hrh).trans HG5.out)
          have HBW6 : Hid (Below g6 w w6) := Lib.hid (Fx.below hF6 HBW5.out HW5.out.lt.2.2.2 (fun q e => (HSG.out q (by rw [← HROW.out]; exact e)).1))
          have HO16 := Lib.hid (hF6.own HO15.out (fun q e z => by have := (HO15.out.lt q e).1; have := hrl q z; omega))
          have HO26 := Lib.hid (hF6.own HO25.out (fun q e z => by have := (HO25.out.lt q e).1; have := hrl q z; omega))
          have HST6 : Hid (OwnK 2 w6 g6 63 v6 ((y.st ++ [(y.p, D)]).map stC)) := Lib.hid (by rw [HTK.out]; exact HO6.out)
          clear hBl hF6 hrk hrr hr66 hrv hrl hrh hs5l HW5 HSTS5 HR65 HG5 HBW5 HO15 HO25 HO6 HTO HSL HK5 H1C HLN HT4 hne hw0 c1 c2 hgk5 HG6' hwr5
          have kc1 : w6.cell? ⟨gh, 1, none⟩ = some (.int .i64 (kd : Nat)) := cell_of_row _ _ 1 _ _ _ HG6h.out
          have kc2 : w6.cell? ⟨gh, 2, none⟩ = some (.int .i64 (sz : Nat)) := cell_of_row _ _ 2 _ _ _ HG6h.out
          have hgh6 : gh < w6.heap.size := Nat.lt_of_lt_of_le HWR5.out.2 HF6.out.size
          have hz1p : z1.p = p4 := by rw [HZ1.out]
          have hz1h : z1.h = y.h := by rw [HZ1.out]
          have hz1l : z1.left = sz := by rw [HZ1.out]
          have HZF : Hid (z1.fin = fb ∧ z1.st = y.st ++ [(y.p, y.h.length - pre)] ∧ z1.li = ll ∧ z1.di = dd) := Lib.hid ⟨by rw [HZ1.out], by rw [HZ1.out], by rw [HZ1.out], by rw [HZ1.out]⟩
          have HWZ : Hid (WorkV w6 g6 gk gr vr s z1.p z1.h pre) := Lib.hid (by rw [hz1p, hz1h]; exact HW6.out)
          have HZL := Lib.hid hz1l
          clear hz1p hz1h hz1l
          have hnk : ∀ q, v6.ownBlock = some q → ¬ KSet gk gr vr q := fun q e z => by
            obtain ⟨x1, x2, x3, x4⟩ := HSEP6.out q e
            rcases z with z | z | z
            · exact x1 z
            · exact x2 z
            · exact x4 z
          have hn6 : ¬ KSet gk gr vr g6 := fun z => by
            have := HGG.out
            rcases z with z | z | z
            · omega
            · omega
            · exact HV6.out z
          have hnh : ¬ KSet gk gr vr gh := fun z => by
            rcases z with z | z | z
            · exact HGH.out gk (.inl (Nat.le_refl _)) z.symm
            · exact HGH.out gr (.inr (.inl (Nat.le_refl _))) z.symm
            · exact HGH.out gh (.inr (.inr (.inr (HVG.out gh z).2))) rfl
          have HFIN : Hid (∀ (w7 : World) (ez : Nat) (vz : Value) (pz kz : Nat) (zz : IS), WorkV w7 g6 gk gr vz s pz zz.h pre → playS s pre z0 kz = (ez, zz) → pz ≤ 8 * s.size → (ez = 0 → pz = zz.p ∧ zz.md = (if z1.fin then 3 else 0) ∧ zz.st = z1.st) → Fx (KSet gk gr vr) w6 w7 → (∀ q, vz.ownBlock = some q → vr.ownBlock = some q ∨ w6.heap.size ≤ q) →
              ∃ (Lz : List (List Value)) (ez' : Nat) (vz' : Value) (pz' : Nat) (Hz : Byts), Value.int .i64 (ez : Nat) = .int .i64 (ez' : Nat) ∧ WorkV w7 g6 gk gr vz' s pz' Hz pre ∧ OwnK 2 w7 g6 63 v6 Lz ∧
                (∀ q, v6.ownBlock = some q → q ≠ gk ∧ q ≠ gr ∧ q ≠ g6 ∧ vz'.ownBlock ≠ some q) ∧ vz'.ownBlock ≠ some g6 ∧ Own w7 g6 30 (.slice (some ⟨g6, 0, none⟩) 4 4) [.string ⟨#[]⟩, .slice none 0 0, .int .i64 0, .int .i64 0] ∧ Below g6 w w7 ∧
                w7.heap[gh]? = some (.cells #[.bool fb, .int .i64 (kd : Nat), .int .i64 (sz : Nat), .slice o1 n1 k1, .slice o2 n2 k2] 60 (0, 0)) ∧ pre ≤ Hz.length ∧
                (∃ (kz : Nat) (zz : IS), playS s pre z0 kz = (ez', zz) ∧ Hz = zz.h ∧ pz' ≤ 8 * s.size ∧ (ez' = 0 → pz' = zz.p ∧ Lz = zz.st.map stC ∧ zz.md = (if fb then 3 else 0) ∧ y.st.length < zz.st.length))) := Lib.hid (fun w7 ez vz pz kz zz hw hp hpl he hf ho => by
            have hl6 := HST6.out.lt
            refine ⟨_, ez, vz, pz, zz.h, rfl, hw, HST6.out.fx hf hnk, fun q e => ?_, fun e => ?_, hf.own HR66.out (fun q e => ?_), KFx.below hf HBW6.out HWZ.out.lt.2.2.2 (Nat.le_of_lt HGG.out.2.1) (Nat.le_of_lt HGG.out.1) (fun q e => (HVG.out q e).1), (hf.block gh hgh6 hnh).trans HG6h.out, ?_, kz, zz, hp, rfl, hpl, fun e => ?_⟩
            · obtain ⟨x1, x2, x3, x4⟩ := HSEP6.out q e
              refine ⟨x1, x2, x3, fun x => ?_⟩
              rcases ho q x with x | x
              · exact x4 x
              · have := (hl6 q e).2; omega
            · rcases ho g6 e with x | x
              · exact HV6.out x
              · have := HWZ.out.lt; have := HGG.out; omega
            · have e : g6 = q := by injection e
              rw [← e]; exact hn6
            · have h := (playS_keep HI0.out kz).1.1
              rw [hp] at h; exact h
            · obtain ⟨a1, a2, a3⟩ := he e
              rw [HZF.out.1] at a2
              rw [HZF.out.2.1] at a3
              refine ⟨a1, ?_, a2, ?_⟩
              · rw [a3, hD2.out]
              · rw [a3, List.length_append, List.length_singleton]; omega)
          have hO1 : ∀ W, Fx (KSet gk gr vr) w6 W → IntsAt W (.slice o1 n1 k1) (nls z1.li) := fun W hf => by
            rw [HZF.out.2.2.1]
            exact (hf.own HO16.out (fun q e z => by
              have h1 := (HO16.out.lt q e).1
              have h2 := HWL.out
              rcases z with z | z | z
              · omega
              · omega
              · have := HVG.out q z; omega)).sl
          have hO2 : ∀ W, Fx (KSet gk gr vr) w6 W → IntsAt W (.slice o2 n2 k2) (nls z1.di) := fun W hf => by
            rw [HZF.out.2.2.2]
            exact (hf.own HO26.out (fun q e z => by
              have h1 := (HO26.out.lt q e).1
              have h2 := HWL.out
              rcases z with z | z | z
              · omega
              · omega
              · have := HVG.out q z; omega)).sl
          clear hnk hn6 hnh
          by_cases hkd : kd = 0
          · have HSK := Lib.hid (storedK HWZ.out HPS.out HIO1.out (by rw [HZ1.out, hkd]; rfl) hpre2 HS.out)
            rw [HZL.out] at HSK
            unfold RetBlk at HSK
            clear hO1 hO2
            subst hkd
            go_wp2_with ((with_reducible go_at_call 20); (with_reducible refine HSK.out.mono ?_); rintro e w7 ⟨ez, vz, pz, kz, zz, rfl, hwz, hpz, hpl, hez, hfz, hoz⟩; have HREL := Lib.hid (HFIN.out w7 ez vz pz kz zz hwz hpz hpl hez hfz hoz); clear hwz hpz hpl hez hfz hoz)
            go_meet
            case rel => exact HREL.out
          · have HCK := Lib.hid (codedK (v1 := .slice o1 n1 k1) (v2 := .slice o2 n2 k2) (fb := fb) (kd := kd) (sz := sz) HWZ.out HPS.out HI0.out (by rw [HZ1.out]; show (if kd = 0 then 1 else 2) = 2; rw [if_neg hkd]) hpre2 HS.out hO1 hO2)
            unfold RetBlk at HCK
            have hkd' : ((kd : Int) == 0) = false := by simpa using hkd
            clear hO1 hO2
            go_wp2_with (first
              | (refine load_box rfl 60 5 _ rfl gh rfl _ rfl HG6h.out _ Tryz.underlying60 rfl (by kernel_rfl) ?_)
              | ((with_reducible go_at_call 21); (with_reducible refine HCK.out.mono ?_); rintro e w7 ⟨ez, vz, pz, kz, zz, rfl, hwz, hpz, hpl, hez, hfz, hoz⟩; have HREL := Lib.hid (HFIN.out w7 ez vz pz kz zz hwz hpz hpl hez hfz hoz); clear hwz hpz hpl hez hfz hoz))
            go_meet
            case rel => exact HREL.out
        · have hst : stepS s pre y = (er, y) := by
            unfold stepS stI
            rw [if_pos HYM.out]
            unfold headI
            rw [← HHF.out]
            rw [if_pos her]
          have hps := ps_err HKY.out (by rw [HYM.out]; decide) (by rw [hst]) her
          have hp4 : p4 ≤ 8 * s.size := by
            have h := headF_err (N := numS s) (T := 8 * s.size) (p := y.p) (by rw [← HHF.out]; exact her)
            rw [← HHF.out] at h
            have h' : p4 = y.p := h
            rw [h']; exact HYP.out
          have her' : ((er : Int) == 0) = false := by simpa using her
          have HPS := Lib.hid hps
          have HP4 := Lib.hid hp4
          clear hst hps hp4
          go_wp2
          go_meet
          case rel => exact ⟨_, er, vr, p4, y.h, rfl, HW5.out, HSTS5.out, HSEP.out, HV6.out, HR65.out, HBW5.out, HG5.out, HPRE.out, kk + 1, y, HPS.out, rfl, HP4.out, fun e => absurd e her⟩
      case rest =>
        obtain ⟨Lz, ez, vz, pz, Hz, hev, hwz, hsz, hsepz, hv6z, hr6z, hbz, hgz, hprez, kz, zz, hpz, hhz, hplz, hez⟩ := hcut
        subst hev
        have HWz := Lib.hid hwz
        have HSz := Lib.hid hsz
        have HSEPz := Lib.hid hsepz
        have HV6z := Lib.hid hv6z
        have HR6z := Lib.hid hr6z
        have HBz := Lib.hid hbz
        have HPREz := Lib.hid hprez
        have HPz := Lib.hid hpz
        have HHz := Lib.hid hhz
        have HPLz := Lib.hid hplz
        have HEz := Lib.hid hez
        have kc0 : wc.cell? ⟨gh, 0, none⟩ = some (.bool fb) := cell_of_row _ _ 0 _ _ _ hgz
        have hghz : gh < wc.heap.size := (Array.getElem?_eq_some_iff.1 hgz).1
        clear hwz hsz hsepz hv6z hr6z hbz hgz hprez hpz hhz hplz hez HW5 HSTS5 HR65 HG5 HBW5 HO15 HO25 HSEP HV6 HGK5 HGH
        by_cases hstop : ez ≠ 0 ∨ fb = true
        · go_upto_region 13 with (fail)
          go_cut [76] (fun x wx => x = .bool true ∧ wx = wc)
          case first =>
            by_cases hz0 : ez = 0
            · have hft : fb = true := hstop.resolve_left (fun e => e hz0)
              subst hz0
              subst hft
              go_wp2
              go_meet
              case rel => exact ⟨rfl, rfl⟩
            · have hz0' : ((ez : Int) == 0) = false := by simpa using hz0
              go_wp2
              go_meet
              case rel => exact ⟨rfl, rfl⟩
          case rest =>
          obtain ⟨hx76, hwx⟩ := hcut
          subst hx76
          subst hwx
          obtain ⟨zo, zc, zb, zf, hzv, hzd, -⟩ := HWz.out.own.head
          obtain ⟨LZ, hLZ⟩ : ∃ LZ, LZ = (bytesV Hz).length := ⟨_, rfl⟩
          obtain ⟨vs, hvs1, hvs2⟩ := HWz.out.own.sl.high (P := Tryz.prog) 54 5 Tryz.underlying54 (by kernel_rfl) pre (by rw [bytesV_length]; exact HPREz.out)
          rw [bytesV_drop] at hvs2
          rw [← hLZ] at hzv
          rw [hzv] at hvs1
          have HVS := Lib.hid hvs1
          have HCV := Lib.hid (fun (W : World) (hb : Below wc.heap.size wc W) => run_bytes_string (P := Tryz.prog) W 54 9 5 Tryz.underlying54 Tryz.underlying5 Tryz.underlying9 vs (Hz.drop pre) (hvs2.up hb))
          have d1 : wc.cell? ⟨gk, 1, none⟩ = some (.slice zo LZ zc) := by rw [← hzv]; exact HWz.out.box.cell (by simp)
          have d2 : wc.cell? ⟨gk, 2, none⟩ = some (.int .i64 (pre : Nat)) := HWz.out.box.cell (by simp)
          have d3 : wc.cell? ⟨gr, 1, none⟩ = some (.int .i64 (pz : Nat)) := HWz.out.rd.c1
          have dgk := HWz.out.lt.1
          have dgr := HWz.out.lt.2.1
          obtain ⟨so, sc, sb, sf, hsv, -, -⟩ := HSz.out.sl
          obtain ⟨sl, hsl⟩ : ∃ sl, sl = Lz.length := ⟨_, rfl⟩
          rw [← hsl] at hsv
          subst hsv
          obtain ⟨vso, vsc, vsb, vsf, hvv, -, -⟩ := hvs2
          obtain ⟨vl, hvl⟩ : ∃ vl, vl = (bytesV (Hz.drop pre)).length := ⟨_, rfl⟩
          rw [← hvl] at hvv
          subst hvv
          clear hLZ hzd hzv hvs1 hsl hvl
          go_upto_region 14 with (fail)
          refine wp_region_tailg [0,1,2,3,4,5,6,7,8,9,10,11,12,13,14,15,16] [] [17] (by kernel_rfl) (by kernel_rfl) ?_
          simp only [pick, List.map_cons, List.map_nil, List.getD_cons_zero, List.getD_cons_succ]
          (repeat (first
            | (go_big_quiet_want; (with_reducible show Oper.quiet _ (Oper.mk _ (.slice _ _ _ _ _) _ _ _ _) _ _ _); refine quiet_slice 54 (.tmp 80) (some (.tmp 84)) none none rfl (.slice vso vl vsc) (fun w' _ => HVS.out w') ?_; go_simp; go_big_quiet_on)
            | (go_big_quiet_want; (with_reducible show Oper.quiet _ (Oper.mk _ (.convert _ _ _) _ _ _ _) _ _ _); refine quiet_conv 54 9 (.tmp 85) rfl _ (fun w' hw' => HCV.out w' (below_ext hw')) ?_; go_simp; go_big_quiet_on)
            | go_big_quiet_step (fail)))
          refine wpQuiet_nil ?_
          have HBD := Lib.hid (below_drewN wc 1)
          rw [← World.drew_is_drewN] at HBD
          have HR7 := Lib.hid (HR6z.out.up HBD.out)
          have HS7 := Lib.hid (HSz.out.up HBD.out)
          have HB7 := Lib.hid (HBz.out.trans (HBD.out.mono HWz.out.lt.2.2.2))
          have HSZ7 := Lib.hid (Nat.le_trans HWz.out.lt.2.2.2 HBD.out.size)
          generalize wc.drew = w8 at *
          obtain ⟨TX, hTX⟩ : ∃ TX : ByteArray, TX = ⟨(Hz.drop pre).toArray⟩ := ⟨_, rfl⟩
          rw [← hTX]
          have HTX := Lib.hid hTX
          clear hTX HCV HVS d1 d2 d3 dgk dgr kc0 hghz
          unfold wpAct
          unfold wpAct
          go_wp2_with (refine wpList_store_agg rfl 30 _ _ rfl g6 30 g6 4 4 rfl #[.string TX, .slice so sl sc, .int .i64 (pz : Nat), .int .i64 (ez : Nat)] rfl (by kernel_rfl) _ HR7.out (by simp) (by intro x hx; simp at hx; rcases hx with rfl | rfl | rfl | rfl <;> rfl) ?_; intro w9 hr9 hg9; have HR9 := Lib.hid hr9; have HG9 := Lib.hid hg9; clear hr9 hg9)
          refine ⟨trivial, ?_⟩
          unfold wpAct
          have hr9 := HR9.out
          rw [List.drop_of_length_le (by simp), List.append_nil] at hr9
          have HRZ := Lib.hid hr9
          clear hr9
          go_wp2
          refine ret_cell1 (s := 6) (ad := ⟨g6, 0, none⟩) (x := .agg #[.string TX, .slice so sl sc, .int .i64 (pz : Nat), .int .i64 (ez : Nat)]) rfl rfl rfl (load_whole (n := 4) HRZ.out _ Tryz.underlying30 rfl (by kernel_rfl)) ?_
          have hend : ez ≠ 0 ∨ zz.md = 3 := by
            by_cases hz0 : ez = 0
            · right
              obtain ⟨-, -, q3, -⟩ := HEz.out hz0
              rw [q3, if_pos (hstop.resolve_left (fun e => e hz0))]
            · exact .inl hz0
          obtain ⟨f1, f2, f3, f4⟩ := HFN.out kz ez zz HPz.out hend
          unfold RetMade
          refine ⟨TX, .slice so sl sc, pz, by rw [f1], ?_, ?_, ⟨Lz, by rw [← HG6.out]; exact HS7.out.keep HG9.out (.inr (fun e => (HSEPz.out g6 e).2.2.1 rfl)), fun e => ?_⟩, fun e => ?_⟩
          · have := HB7.out.grown HG9.out HSZ7.out (fun q e => by injection e with e; omega)
            rw [← HG6.out]; exact this
          · rw [f2, HTX.out, bys_mk, HHz.out]
          · rw [f1] at e
            obtain ⟨-, q2, -⟩ := HEz.out e
            rw [q2, f4]
          · rw [f1] at e
            obtain ⟨q1, -⟩ := HEz.out e
            rw [q1, f3]
        · have he0 : ez = 0 := by
            apply Classical.byContradiction; intro h; exact hstop (.inl h)
          have hf0 : fb = false := by
            cases fb with
            | false => rfl
            | true => exact absurd (.inr rfl) hstop
          subst he0 hf0
          clear hstop
          obtain ⟨q1, q2, q3, q4⟩ := HEz.out rfl
          have HQ4 := Lib.hid q4
          have HQ1 := Lib.hid q1
          have HQ2 := Lib.hid q2
          have HQ3 := Lib.hid q3
          clear q1 q2 q3 q4 HEz
          go_wp2
          go_roundg (N + 1 - zz.st.length)
          case measure => have := HQ4.out; omega
          case rel =>
            refine ⟨kz, zz, vz, HPz.out, HQ3.out, by rw [← HQ1.out, ← HHz.out]; exact HWz.out, by rw [← HQ2.out]; exact HSz.out, HSEPz.out, HV6z.out, HR6z.out, HBz.out, rfl⟩
end Go.Cm

/- The walk of All. Conditions: the texts are not too long. -/
namespace Go.Cm
open Go.RowKit Go.Proofs

/-- what All answers -/
def RetAll (s : ByteArray) (t : Byts) (p : Nat) (w : World) (e : Ending) (w' : World) : Prop :=
  ∃ (c : ByteArray) (v : Value) (q : Nat), e = .returned (.tuple #[.string c, v, .int .i64 q, .int .i64 (erI s t p : Nat)]) ∧ Below w.heap.size w w' ∧
    (erI s t p = 0 → bys c = txI s t p ∧ SlK 2 w' v ((bgI s t p).map stC) ∧ q = enI s t p) ∧ (erI s t p ≠ 0 → bys c = [] ∧ v = .slice none 0 0 ∧ q = 0)
theorem MFx.below {w0 w w' : World} {B : Nat} {V : Nat → Prop} (h : MFx B V w w') (hb : Below B w0 w) (hB : B ≤ w.heap.size) : Below B w0 w' := Fx.below h hb hB (fun _ e => e.1)
theorem take_big {l : Byts} {n : Int} {M : Nat} (hM : M = 16777216) (hn : n = (M : Int) + 1) (h : l.length ≤ M) : (l.drop 0).take n.toNat = l := by
  rw [List.drop_zero, List.take_of_length_le (by omega)]
set_option maxRecDepth 100000 in
set_option maxHeartbeats 4000000 in
theorem allI (s : ByteArray) (t : ByteArray) (p : Nat) (hs : s.size ≤ 4000000) (hp : p ≤ 8 * s.size) (ht : t.size ≤ 50000000) (w : World) : Calls Tryz.prog 7 #[.string s, .int .i64 p, .string t] w (RetAll s (bys t) p w) := by
  have HNW := Lib.hid (fun W => newC s t p (by omega) hp ht W)
  have HP := Lib.hid hp
  have HS := Lib.hid hs
  have HBG := Lib.hid (txI_big (t := bys t) hp)
  unfold RetAll
  obtain ⟨F, hF⟩ : ∃ F, F = txI s (bys t) p := ⟨_, rfl⟩
  obtain ⟨E, hE⟩ : ∃ E, E = erI s (bys t) p := ⟨_, rfl⟩
  obtain ⟨Q, hQ⟩ : ∃ Q, Q = enI s (bys t) p := ⟨_, rfl⟩
  obtain ⟨L, hL⟩ : ∃ L, L = bgI s (bys t) p := ⟨_, rfl⟩
  have HST := Lib.hid (fun (W : World) (B gm told : Nat) (h : Mac W B gm (fun _ => False) s (bys t) p told) n => stepC h hp hs (fun _ e => e.elim) n)
  have HDN := Lib.hid (fun (W : World) (B gm told : Nat) (h : Mac W B gm (fun _ => False) s (bys t) p told) => doneC h hp hs (fun _ e => e.elim))
  have HSR := Lib.hid (fun (W : World) (B gm told : Nat) (h : Mac W B gm (fun _ => False) s (bys t) p told) => startsC h hp hs (fun _ e => e.elim))
  have HEN := Lib.hid (fun (W : World) (B gm told : Nat) (V : Nat → Prop) (hV : ∀ q, V q → q < W.heap.size) (h : Mac W B gm V s (bys t) p told) => endC h hp hs hV)
  rw [← hF] at HST HDN HSR HEN HBG
  rw [← hE] at HST HDN HSR HEN
  rw [← hQ] at HEN
  rw [← hL] at HSR
  rw [← hF, ← hE, ← hQ, ← hL]
  clear hF hE hQ hL
  go_enter Tryz.func7, Tryz.ntmps7
  go_upto_region 5 with (first | ((with_reducible go_at_call 11); (with_reducible refine (HNW.out _).mono ?_); rintro e w1 ⟨gm, rfl, hm, hb⟩; have HM1 := Lib.hid hm; have HB1 := Lib.hid hb; clear hm hb) | ((with_reducible go_at_call 13); (refine (HST.out _ _ _ _ HM1.out _).mono ?_); rintro e w2 ⟨c, er, rfl, -, h2, hm, hb⟩; have HC := Lib.hid h2; have HM2 := Lib.hid hm; have HB2 := Lib.hid hb; clear h2 hm hb))
  obtain ⟨M, hM⟩ : ∃ M : Nat, M = 16777216 := ⟨_, rfl⟩
  have hF := HBG.out
  rw [← hM] at hF
  obtain ⟨hc, her⟩ := HC.out (by decide)
  rw [take_big hM (by rw [hM]; rfl) hF] at hc
  have HM3 : Hid (Mac w2 w.heap.size gm (fun _ => False) s (bys t) p F.length) := Lib.hid (by have h := HM2.out; rw [hc, Nat.zero_add] at h; exact h)
  have HCC := Lib.hid hc
  have HER := Lib.hid her
  have HBB := Lib.hid (HB2.out.below HB1.out HM1.out.B)
  clear hM hF hc her HC HM2
  go_upto_region 6 with (fail)
  (refine (HDN.out _ _ _ _ HM3.out).mono ?_)
  rintro e w3 ⟨b, rfl, hb, hm, hbl⟩
  have HM4 := Lib.hid hm
  have HB4 := Lib.hid (hbl.below HBB.out HM3.out.B)
  have HSZ4 := Lib.hid hm.B
  by_cases hE : E = 0
  · obtain rfl : b = true := hb.2 ⟨Nat.le_refl _, hE⟩
    have HE := Lib.hid hE
    clear hb hm hbl hE
    go_upto_region 9 with (fail)
    go_wp2_with (first | ((with_reducible go_at_call 16); (refine (HSR.out _ _ _ _ HM4.out).mono ?_); rintro e w4 ⟨v, rfl, h1, -, hm, hb⟩; have HV := Lib.hid (h1 ⟨Nat.le_refl _, HE.out⟩); have HM6 := Lib.hid hm; have HB6 := Lib.hid (hb.below HB4.out HSZ4.out); clear h1 hm hb) | ((with_reducible go_at_call 17); (refine (HEN.out _ _ _ _ _ (fun q e => e.elim (fun e => e.elim) (fun e => (HV.out.lt q e).2)) HM6.out).mono ?_); rintro e w5 ⟨q, rfl, h1, -, hm, hb⟩; have HQ := Lib.hid (h1 ⟨Nat.le_refl _, HE.out⟩); have HB7 := Lib.hid (hb.below HB6.out HM6.out.B); have HB8 := Lib.hid hb; clear h1 hm hb))
    refine bodyPost_ret (results_tmp4 rfl _ _ _) rfl ?_
    refine ⟨c, v, q, by rw [HE.out]; rfl, HB7.out, fun _ => ⟨HCC.out, ?_, HQ.out⟩, fun h => absurd HE.out h⟩
    exact (HV.out.fx HB8.out (fun q e z => z.2 (.inr e))).sl
  · obtain rfl : b = false := by
      cases b with
      | false => rfl
      | true => exact absurd (hb.1 rfl).2 hE
    clear hb hm hbl
    by_cases h0 : F.length = 0
    · have her : er = E := by rw [HER.out, if_pos (by omega)]
      subst her
      have h0' : ((er : Int) == 0) = false := by simpa using hE
      go_wp2
      refine bodyPost_ret (results_tmp4 rfl _ _ _) rfl ?_
      exact ⟨⟨#[]⟩, _, 0, rfl, HB4.out, fun h => absurd h hE, fun _ => ⟨rfl, rfl, rfl⟩⟩
    · have her : er = 0 := by rw [HER.out, if_neg (by omega)]
      subst her
      go_wp2_with ((with_reducible go_at_call 13); (refine (HST.out _ _ _ _ HM4.out _).mono ?_); rintro e w5 ⟨c5, er5, rfl, -, h5, hm5, hb5⟩; have HC5 := Lib.hid h5; have HB5 := Lib.hid hb5; clear h5 hm5 hb5)
      refine bodyPost_ret (results_tmp4 rfl _ _ _) rfl ?_
      have h5 := (HC5.out (by decide)).2
      rw [if_pos (Nat.le_refl _)] at h5
      subst h5
      exact ⟨⟨#[]⟩, _, 0, rfl, HB5.out.below HB4.out HM4.out.B, fun h => absurd h hE, fun _ => ⟨rfl, rfl, rfl⟩⟩
end Go.Cm

/- The walks of a machine that is not there; All where the bit is none of the text's. Conditions: as each says. -/
namespace Go.Cm
open Go.RowKit Go.Proofs

theorem allBad (s : ByteArray) (t : ByteArray) (b : Int) (hs : s.size ≤ 4294967296) (hb : b < 0 ∨ 8 * (s.size : Int) < b) (w : World) : Calls Tryz.prog 7 #[.string s, .int .i64 b, .string t] w fun e w' => e = .returned (.tuple #[.string ⟨#[]⟩, .slice none 0 0, .int .i64 0, .int .i64 1]) ∧ w' = w := by
  have HNW := Lib.hid (newMBad s t b hs hb)
  clear hb
  go_enter Tryz.func7, Tryz.ntmps7
  go_wp2_with ((with_reducible go_at_call 11); (with_reducible refine (HNW.out _).mono ?_); rintro e w1 ⟨rfl, hw⟩; rw [hw]; clear hw)
  refine bodyPost_ret (results_tmp4 rfl _ _ _) rfl ?_
  exact ⟨rfl, rfl⟩
section
variable {w : World} {v : Value}
end
end Go.Cm

/- The fixed calls, in plain Lean. Conditions: none. -/
namespace Go.Cm

theorem kn_head1 : headF 1099 24 0 = (⟨true, 1, 0, fixL, fixD⟩, 0, 3) := by
  rfl
theorem kn_r1 : readF fixL (1099 / 2 ^ 3) (24 - 3) = (97, 0, 8) := readF_of (.inl ⟨by decide +kernel, ⟨by decide +kernel, by decide +kernel⟩, by decide +kernel, rfl, by decide +kernel⟩)
theorem kn_r2 : readF fixL (1099 / 2 ^ 11) (24 - 11) = (256, 0, 7) := readF_of (.inl ⟨by decide +kernel, ⟨by decide +kernel, by decide +kernel⟩, by decide +kernel, rfl, by decide +kernel⟩)
theorem kn_head2 : headF 27692299806835201 56 0 = (⟨true, 0, 2, [], []⟩, 0, 40) := by
  rfl
theorem kn_head3 : (headF 7 8 0).2.1 = 11 := by
  rfl
def knA : ByteArray := ⟨#[75, 4, 0]⟩
def knB : ByteArray := ⟨#[1, 2, 0, 253, 255, 97, 98]⟩
def knC : ByteArray := ⟨#[7]⟩
section
variable {N T pre : Nat} {bs : Byts} {z0 : IS}
theorem big_small {pre M : Nat} {y : Nat × IS} (hM : 1000 ≤ M) (h : y.2.h.length ≤ 1000) : (if y.1 ≠ 0 then y else if M < y.2.h.length - pre then (3, { y.2 with h := y.2.h.take (pre + M) }) else y) = y := by
  by_cases h1 : y.1 ≠ 0
  · rw [if_pos h1]
  · rw [if_neg h1, if_neg (by omega)]
theorem bigI_small {pre : Nat} {y : Nat × IS} (h : y.2.h.length ≤ 1000) : bigI pre y = y := by
  have h1 := big_small (pre := pre) (M := 16777216) (by decide) h
  unfold bigI
  exact h1
theorem play_on {k : Nat} {z : IS} {y : Nat × IS} (h : playI N T pre bs z0 k = (0, z)) (hm : z.md ≠ 3) (hs : stI N T pre bs z = y) (hb : y.2.h.length ≤ 1000) : playI N T pre bs z0 (k + 1) = y := by
  rw [play_next (by rw [h]; exact fun e => e.elim (fun e => e rfl) hm), h]
  show bigI pre (stI N T pre bs z) = y
  rw [hs, bigI_small hb]
end
theorem knA_st (pre : Nat) (z0 : IS) (h0 : z0.md = 0) (hp : z0.p = 0) (hh : z0.h = []) (hst : z0.st = []) (hpre : pre = 0) (bs : Byts) (hi : IOk 24 pre z0) : finI 1099 24 pre bs z0 = (0, ⟨3, true, 0, fixL, fixD, 18, [97], [(0, 0)]⟩) := by
  obtain ⟨md, fin, left, li, di, p, h, st⟩ := z0
  simp only at h0 hp hh hst
  subst h0 hp hh hst hpre
  have e1 : playI 1099 24 0 bs ⟨0, fin, left, li, di, 0, [], []⟩ 1 = (0, ⟨2, true, 0, fixL, fixD, 3, [], [(0, 0)]⟩) := by
    refine play_on (k := 0) (z := ⟨0, fin, left, li, di, 0, [], []⟩) (by rw [playI]) (show ¬ (0 : Nat) = 3 by decide) ?_ (by decide)
    unfold stI
    rw [if_pos rfl]
    unfold headI
    simp only [kn_head1]
    rfl
  have e2 : playI 1099 24 0 bs ⟨0, fin, left, li, di, 0, [], []⟩ 2 = (0, ⟨2, true, 0, fixL, fixD, 11, [97], [(0, 0)]⟩) := by
    refine play_on e1 (by decide) ?_ (by decide)
    unfold stI
    rw [if_neg (by decide), if_neg (by decide), if_pos rfl]
    unfold codI
    rw [kn_r1]
    rfl
  have e3 : playI 1099 24 0 bs ⟨0, fin, left, li, di, 0, [], []⟩ 3 = (0, ⟨3, true, 0, fixL, fixD, 18, [97], [(0, 0)]⟩) := by
    refine play_on e2 (by decide) ?_ (by decide)
    unfold stI
    rw [if_neg (by decide), if_neg (by decide), if_pos rfl]
    unfold codI
    rw [kn_r2]
    rfl
  rw [fin_of ⟨3, rfl⟩ hi (k := 3) (by rw [e3]; exact .inr rfl), e3]
theorem knB_st (pre : Nat) (z0 : IS) (h0 : z0.md = 0) (hp : z0.p = 0) (hh : z0.h = []) (hst : z0.st = []) (hpre : pre = 0) (hi : IOk 56 pre z0) : finI 27692299806835201 56 pre [1, 2, 0, 253, 255, 97, 98] z0 = (0, ⟨3, true, 0, [], [], 56, [97, 98], [(0, 0)]⟩) := by
  obtain ⟨md, fin, left, li, di, p, h, st⟩ := z0
  simp only at h0 hp hh hst
  subst h0 hp hh hst hpre
  have e1 : playI 27692299806835201 56 0 [1, 2, 0, 253, 255, 97, 98] ⟨0, fin, left, li, di, 0, [], []⟩ 1 = (0, ⟨1, true, 2, [], [], 40, [], [(0, 0)]⟩) := by
    refine play_on (k := 0) (z := ⟨0, fin, left, li, di, 0, [], []⟩) (by rw [playI]) (show ¬ (0 : Nat) = 3 by decide) ?_ (by decide)
    unfold stI
    rw [if_pos rfl]
    unfold headI
    simp only [kn_head2]
    rfl
  have e2 : playI 27692299806835201 56 0 [1, 2, 0, 253, 255, 97, 98] ⟨0, fin, left, li, di, 0, [], []⟩ 2 = (0, ⟨1, true, 0, [], [], 56, [97, 98], [(0, 0)]⟩) := by
    refine play_on e1 (by decide) ?_ (by decide)
    rfl
  have e3 : playI 27692299806835201 56 0 [1, 2, 0, 253, 255, 97, 98] ⟨0, fin, left, li, di, 0, [], []⟩ 3 = (0, ⟨3, true, 0, [], [], 56, [97, 98], [(0, 0)]⟩) := by
    refine play_on e2 (by decide) ?_ (by decide)
    rfl
  rw [fin_of ⟨7, rfl⟩ hi (k := 3) (by rw [e3]; exact .inr rfl), e3]
theorem knC_st (pre : Nat) (z0 : IS) (h0 : z0.md = 0) (hp : z0.p = 0) (hh : z0.h = []) (bs : Byts) (hi : IOk 8 pre z0) : (finI 7 8 pre bs z0).1 = 11 := by
  obtain ⟨md, fin, left, li, di, p, h, st⟩ := z0
  simp only at h0 hp hh
  subst h0 hp hh
  have e1 : playI 7 8 pre bs ⟨0, fin, left, li, di, 0, [], st⟩ 1 = (11, ⟨0, fin, left, li, di, 0, [], st⟩) := by
    refine play_on (k := 0) (z := ⟨0, fin, left, li, di, 0, [], st⟩) (by rw [playI]) (show ¬ (0 : Nat) = 3 by decide) ?_ (Nat.zero_le _)
    unfold stI
    rw [if_pos rfl]
    unfold headI
    rw [if_pos (by rw [kn_head3]; decide), kn_head3]
  rw [fin_of ⟨1, rfl⟩ hi (k := 1) (by rw [e1]; exact .inl (show ¬ (11 : Nat) = 0 by decide)), e1]
theorem lastN_nil : lastN [] = [] := lastN_all (by decide)
theorem kn_A : txI knA [] 0 = [97] ∧ erI knA [] 0 = 0 ∧ enI knA [] 0 = 18 ∧ bgI knA [] 0 = [(0, 0)] := by
  have hi := zNew_ok (s := knA) (t := []) (p := 0) (Nat.zero_le _)
  have h : finS knA (lastN []).length (zNew [] 0) = _ := knA_st (lastN []).length (zNew [] 0) rfl rfl lastN_nil rfl (by rw [lastN_nil]; rfl) (bys knA) hi
  unfold txI textS erI enI bgI
  rw [h, lastN_nil]
  exact ⟨rfl, rfl, rfl, rfl⟩
theorem kn_B : txI knB [] 0 = [97, 98] ∧ erI knB [] 0 = 0 ∧ enI knB [] 0 = 56 := by
  have hi := zNew_ok (s := knB) (t := []) (p := 0) (Nat.zero_le _)
  have h : finS knB (lastN []).length (zNew [] 0) = _ := knB_st (lastN []).length (zNew [] 0) rfl rfl lastN_nil rfl (by rw [lastN_nil]; rfl) hi
  unfold txI textS erI enI
  rw [h, lastN_nil]
  exact ⟨rfl, rfl, rfl⟩
theorem kn_C : erI knC [] 0 = 11 := by
  have hi := zNew_ok (s := knC) (t := []) (p := 0) (Nat.zero_le _)
  exact knC_st (lastN []).length (zNew [] 0) rfl rfl lastN_nil (bys knC) hi
end Go.Cm

/- The walk of the law's fixed calls. Conditions: none. -/
namespace Go.Cm
open Go.RowKit Go.Proofs

theorem callA (w : World) : Calls Tryz.prog 7 #[.string ⟨#[75, 4, 0]⟩, .int .i64 0, .string ⟨#[]⟩] w fun e w' => ∃ b off cap, e = .returned (.tuple #[.string ⟨#[97]⟩, .slice (some ⟨b, off, none⟩) 1 cap, .int .i64 18, .int .i64 0]) ∧ w'.cell? ⟨b, off, none⟩ = some (.int .i64 0) ∧ b < w'.heap.size ∧ 1 ≤ cap ∧ Below w.heap.size w w' := by
  refine (allI knA ⟨#[]⟩ 0 (by decide) (by decide) (by decide) w).mono ?_
  rintro e w' ⟨c, v, q, rfl, hb, h0, -⟩
  obtain ⟨k1, k2, k3, k4⟩ := kn_A
  change txI knA (bys ⟨#[]⟩) 0 = _ at k1
  change erI knA (bys ⟨#[]⟩) 0 = _ at k2
  change enI knA (bys ⟨#[]⟩) 0 = _ at k3
  change bgI knA (bys ⟨#[]⟩) 0 = _ at k4
  obtain ⟨h1, h2, h3⟩ := h0 k2
  rw [k1] at h1
  rw [k4] at h2
  rw [k3] at h3
  rw [k2]
  subst h3
  obtain ⟨oa, cap, b, off, rfl, hd, hc⟩ := h2
  have hoa := hd.hat (Nat.zero_lt_one)
  subst hoa
  have hcs : c = ⟨#[97]⟩ := bys_inj h1
  subst hcs
  have h5 := hc 0 Nat.zero_lt_one 0 (by decide)
  exact ⟨b, off, cap, rfl, h5, hd.hblk Nat.zero_lt_one, hd.hcap, hb⟩
theorem callB (w : World) : Calls Tryz.prog 7 #[.string ⟨#[1, 2, 0, 253, 255, 97, 98]⟩, .int .i64 0, .string ⟨#[]⟩] w fun e w' => ∃ v, e = .returned (.tuple #[.string ⟨#[97, 98]⟩, v, .int .i64 56, .int .i64 0]) ∧ Below w.heap.size w w' := by
  refine (allI knB ⟨#[]⟩ 0 (by decide) (by decide) (by decide) w).mono ?_
  rintro e w' ⟨c, v, q, rfl, hb, h0, -⟩
  obtain ⟨k1, k2, k3⟩ := kn_B
  change txI knB (bys ⟨#[]⟩) 0 = _ at k1
  change erI knB (bys ⟨#[]⟩) 0 = _ at k2
  change enI knB (bys ⟨#[]⟩) 0 = _ at k3
  obtain ⟨h1, h2, h3⟩ := h0 k2
  rw [k1] at h1
  rw [k3] at h3
  rw [k2]
  subst h3
  have hcs : c = ⟨#[97, 98]⟩ := bys_inj h1
  subst hcs
  exact ⟨v, rfl, hb⟩
theorem callC (w : World) : Calls Tryz.prog 7 #[.string ⟨#[7]⟩, .int .i64 0, .string ⟨#[]⟩] w fun e w' => ∃ c v q, e = .returned (.tuple #[.string c, v, .int .i64 (q : Nat), .int .i64 11]) ∧ Below w.heap.size w w' := by
  refine (allI knC ⟨#[]⟩ 0 (by decide) (by decide) (by decide) w).mono ?_
  rintro e w' ⟨c, v, q, rfl, hb, -, -⟩
  have k2 := kn_C
  change erI knC (bys ⟨#[]⟩) 0 = _ at k2
  rw [k2]
  exact ⟨c, v, q, rfl, hb⟩
theorem callD (w : World) : Calls Tryz.prog 7 #[.string ⟨#[]⟩, .int .i64 1, .string ⟨#[]⟩] w fun e w' => e = .returned (.tuple #[.string ⟨#[]⟩, .slice none 0 0, .int .i64 0, .int .i64 1]) ∧ w' = w := allBad ⟨#[]⟩ ⟨#[]⟩ 1 (by decide) (.inr (by decide)) w
set_option maxRecDepth 100000 in
theorem knownI (w : World) : Calls Tryz.prog 6 #[] w fun e w' => e = .returned (.bool true) ∧ Below w.heap.size w w' := by
  have HA := Lib.hid callA
  have HB := Lib.hid callB
  have HC := Lib.hid callC
  have HD := Lib.hid callD
  go_enter Tryz.func6, Tryz.ntmps6
  go_upto_region 2 with ((with_reducible go_at_call 7); (with_reducible refine (HA.out _).mono ?_); rintro e w1 ⟨b, off, cap, rfl, hc, hlt, hcap, hb⟩; have HCL := Lib.hid hc; have HB1 := Lib.hid hb; have HLT := Lib.hid hlt; have HCP := Lib.hid hcap; clear hc hb hlt hcap)
  go_upto_region 3 with ((with_reducible go_at_call 7); (with_reducible refine (HB.out _).mono ?_); rintro e w2 ⟨v2, rfl, hb⟩; have HB2 := Lib.hid hb; clear hb)
  go_upto_region 4 with ((with_reducible go_at_call 7); (with_reducible refine (HC.out _).mono ?_); rintro e w3 ⟨c3, v3, q3, rfl, hb⟩; have HB3 := Lib.hid hb; clear hb)
  go_upto_region 5 with ((with_reducible go_at_call 7); (with_reducible refine (HD.out _).mono ?_); rintro e w4 ⟨rfl, hw⟩; rw [hw]; clear hw)
  have c0 : w3.cell? ⟨b, off, none⟩ = some (.int .i64 0) := by
    rw [(HB2.out.trans (HB3.out.mono HB2.out.size)).cell (p := ⟨b, off, none⟩) HLT.out]; exact HCL.out
  have hlt : b < w3.heap.size := Nat.lt_of_lt_of_le HLT.out (Nat.le_trans HB2.out.size HB3.out.size)
  have HBB := Lib.hid (HB1.out.trans ((HB2.out.trans (HB3.out.mono HB2.out.size)).mono HB1.out.size))
  go_wp2
  go_ret
  exact ⟨rfl, HBB.out⟩
end Go.Cm

/- The walk of the law's 'small'. Conditions: none. -/
namespace Go.Cm
open Go.RowKit Go.Proofs

theorem smallI (s t : ByteArray) (w : World) : Calls Tryz.prog 5 #[.string s, .string t] w fun e w' => e = .returned (.bool (decide (s.size ≤ 600 ∧ t.size ≤ 40000))) ∧ w' = w := by
  by_cases h1 : s.size ≤ 600
  · have h1' : decide ((s.size : Int) ≤ 600) = true := decide_eq_true (by omega)
    by_cases h2 : t.size ≤ 40000
    · have h2' : decide ((t.size : Int) ≤ 40000) = true := decide_eq_true (by omega)
      rw [decide_eq_true (show s.size ≤ 600 ∧ t.size ≤ 40000 from ⟨h1, h2⟩)]
      go_enter Tryz.func5, Tryz.ntmps5
      go_wp2
      go_ret
      exact ⟨rfl, rfl⟩
    · have h2' : decide ((t.size : Int) ≤ 40000) = false := decide_eq_false (by omega)
      rw [decide_eq_false (show ¬ (s.size ≤ 600 ∧ t.size ≤ 40000) from fun h => h2 h.2)]
      go_enter Tryz.func5, Tryz.ntmps5
      go_wp2
      go_ret
      exact ⟨rfl, rfl⟩
  · have h1' : decide ((s.size : Int) ≤ 600) = false := decide_eq_false (by omega)
    rw [decide_eq_false (show ¬ (s.size ≤ 600 ∧ t.size ≤ 40000) from fun h => h1 h.1)]
    go_enter Tryz.func5, Tryz.ntmps5
    go_wp2
    go_ret
    exact ⟨rfl, rfl⟩
end Go.Cm

/- The walk of InflateAll. Conditions: none. -/
namespace Go.Cm
open Go.RowKit Go.Proofs

theorem bgI_len2 (s : ByteArray) (t : Byts) (p : Nat) : (bgI s t p).length ≤ 16 * s.size + 2 := by
  have h := playS_st (s := s) (pre := (lastN t).length) (z0 := zNew t p) rfl (2 * (8 * s.size) + 2)
  have e : (bgI s t p).length = (playS s (lastN t).length (zNew t p) (2 * (8 * s.size) + 2)).2.st.length := rfl
  omega
end Go.Cm
