/- Texts of this claim, joined: walks of small functions and plain facts about them. Conditions: as each says. -/
import Derived.Test.YtmophmeiemfikaaGreatBR
import Derived.Test.YtmophmeiemfikaaGreatRows
import Derived.WalkKit
import Derived.WalkSpells
import Derived.WalkLawsBesides
import Derived.Deep.QuietTactic
import Derived.BigQuiet
import Derived.Lib.Hide
import Derived.Laws.Small
import Derived.Deep.LoopGhost
import Derived.Laws.BitsLemmas
import Derived.Deep.DeepCutAuto
import Derived.Deep.CutBlock
import Derived.Deep.CutRange
import Derived.Laws.IdiomStrings
import Derived.Laws.CopyOwn
import Derived.Laws.EntriesVeiled
import Derived.Shelf.Abstract
import Derived.WalkMore
/- The walks of the document's spans for any symbol, and of further bits. Conditions: the work is there. -/
namespace Go.Cm
open Go.RowKit Go.Proofs

set_option maxRecDepth 100000 in
theorem lenRg (a : Nat) (ha : a < 100000) (w : World) : Calls Tryz.prog 51 #[.int .i64 (a : Nat)] w fun e w' => e = .returned (.tuple #[.int .i64 ((lenB a).1 : Nat), .int .i64 ((lenB a).2.1 : Nat), .bool (lenB a).2.2]) ∧ ∃ x, w' = ext w x := by
  by_cases h1 : a = 285
  · subst h1
    exact lenR285 w
  by_cases h2 : 257 ≤ a ∧ a < 285
  · obtain ⟨i, rfl⟩ : ∃ i, a = 257 + i := ⟨a - 257, by omega⟩
    have e : lenB (257 + i) = (spBase 3 4 i, spB 4 i, true) := by
      unfold lenB
      rw [if_neg h1, if_pos h2, show 257 + i - 257 = i by omega]
    rw [e]
    exact lenR0 i (by omega) w
  · have e : lenB a = (0, 0, false) := by unfold lenB; rw [if_neg h1, if_neg h2]
    rw [e]
    have h3 : ((a : Int) == 285) = false := by rw [beq_eq_false_iff_ne]; omega
    by_cases h4 : a < 257
    · have h5 : decide ((a : Int) < 257) = true := by rw [decide_eq_true_iff]; omega
      clear h2 e
      go_enter Tryz.func51, Tryz.ntmps51
      go_wp2
      refine bodyPost_ret (results_tmp3 rfl _ _ _) rfl ?_
      exact ⟨rfl, (ex_ext (by repeat (first | exact Below.refl _ _ | assumption | refine b_drewN ?_ _ | refine Below.drew ?_ | refine b_ext' ?_ _ | refine b_alloc' ?_ _)))⟩
    · have h5 : decide ((a : Int) < 257) = false := by rw [decide_eq_false_iff_not]; omega
      have h6 : decide ((a : Int) > 285) = true := by rw [decide_eq_true_iff]; omega
      clear h2 e
      go_enter Tryz.func51, Tryz.ntmps51
      go_wp2
      refine bodyPost_ret (results_tmp3 rfl _ _ _) rfl ?_
      exact ⟨rfl, (ex_ext (by repeat (first | exact Below.refl _ _ | assumption | refine b_drewN ?_ _ | refine Below.drew ?_ | refine b_ext' ?_ _ | refine b_alloc' ?_ _)))⟩
set_option maxRecDepth 100000 in
theorem dstRg (a : Nat) (ha : a < 100000) (w : World) : Calls Tryz.prog 53 #[.int .i64 (a : Nat)] w fun e w' => e = .returned (.tuple #[.int .i64 ((dstB a).1 : Nat), .int .i64 ((dstB a).2.1 : Nat), .bool (dstB a).2.2]) ∧ ∃ x, w' = ext w x := by
  by_cases h2 : a < 30
  · have e : dstB a = (spBase 1 2 a, spB 2 a, true) := by unfold dstB; rw [if_pos h2]
    rw [e]
    have := dstR0 a (by omega) w
    rwa [Nat.zero_add] at this
  · have e : dstB a = (0, 0, false) := by unfold dstB; rw [if_neg h2]
    rw [e]
    have h5 : decide ((a : Int) < 0) = false := by rw [decide_eq_false_iff_not]; omega
    have h6 : decide ((a : Int) > 29) = true := by rw [decide_eq_true_iff]; omega
    clear h2 e
    go_enter Tryz.func53, Tryz.ntmps53
    go_wp2
    refine bodyPost_ret (results_tmp3 rfl _ _ _) rfl ?_
    exact ⟨rfl, (ex_ext (by repeat (first | exact Below.refl _ _ | assumption | refine b_drewN ?_ _ | refine Below.drew ?_ | refine b_ext' ?_ _ | refine b_alloc' ?_ _)))⟩
set_option maxRecDepth 100000 in
set_option maxHeartbeats 2000000 in
theorem furtherK {w : World} {B gk gr p pre : Nat} {vb : Value} {s : ByteArray} {H : Byts} (h : WorkV w B gk gr vb s p H pre) (hs : s.size ≤ 4294967296) (hp : p ≤ 8 * s.size) (b n : Nat) (hb : b ≤ 40000) (hn : n ≤ 32) :
    Calls Tryz.prog 52 #[.pointer (some ⟨gk, 0, none⟩), .int .i64 (b : Nat), .int .i64 (n : Nat)] w fun e w' => e = .returned (.tuple #[.int .i64 ((numB (numS s) (8 * s.size) p (b, n, true)).1 : Nat), .int .i64 ((numB (numS s) (8 * s.size) p (b, n, true)).2.1 : Nat)]) ∧
      WorkV w' B gk gr vb s (numB (numS s) (8 * s.size) p (b, n, true)).2.2 H pre ∧ Fx (KSet gk gr vb) w w' := by
  have HH := Lib.hid h
  have hg := h.lt.1
  have c0 : w.cell? ⟨gk, 0, none⟩ = some (.pointer (some ⟨gr, 0, none⟩)) := h.box.cell (by simp)
  have HBT := Lib.hid (bitsT h.rd hs n hn hp)
  unfold RetBits at HBT
  unfold numB
  rw [if_neg (by simp)]
  simp only
  have hv : (bitsA (numS s) (8 * s.size) p n).1 < 2 ^ 32 := by
    unfold bitsA
    split
    · exact Nat.lt_of_lt_of_le (valN_lt _ _ _) (Nat.pow_le_pow_right (by decide) hn)
    · exact Nat.pow_pos (by decide)
  generalize bitsA (numS s) (8 * s.size) p n = D at *
  obtain ⟨v, er, q⟩ := D
  simp only at HBT hv ⊢
  have hbv : b + v ≤ 10000000000 := by omega
  clear h
  go_enter Tryz.func52, Tryz.ntmps52
  go_wp2_with ((with_reducible go_at_call 31); (with_reducible refine HBT.out.mono ?_); rintro e w1 ⟨rfl, hb1, hg1⟩; have HR := Lib.hid (HH.out.read hb1 hg1); clear hb1 hg1)
  go_ret2
  exact ⟨by go_num, HR.out.1, HR.out.2⟩
end Go.Cm

/- The walk of the document's stored blocks. Conditions: the work stands where a machine stands in such a block. -/
namespace Go.Cm
open Go.RowKit Go.Proofs

attribute [local irreducible] lastN
/-- what a block's making answers: the machine comes to where the work stands -/
def RetBlk (B gk gr : Nat) (vb : Value) (s : ByteArray) (pre : Nat) (z0 z : IS) (w : World) (e : Ending) (w' : World) : Prop :=
  ∃ (er : Nat) (vb' : Value) (p' k' : Nat) (z' : IS), e = .returned (.int .i64 (er : Nat)) ∧ WorkV w' B gk gr vb' s p' z'.h pre ∧ playS s pre z0 k' = (er, z') ∧ p' ≤ 8 * s.size ∧
    (er = 0 → p' = z'.p ∧ z'.md = (if z.fin then 3 else 0) ∧ z'.st = z.st) ∧ Fx (KSet gk gr vb) w w' ∧ (∀ k, vb'.ownBlock = some k → vb.ownBlock = some k ∨ w.heap.size ≤ k)
set_option maxRecDepth 100000 in
set_option maxHeartbeats 4000000 in
theorem storedK {w : World} {B gk gr pre k : Nat} {vb : Value} {s : ByteArray} {z0 z : IS} (h : WorkV w B gk gr vb s z.p z.h pre) (hk : playS s pre z0 k = (0, z)) (hi : IOk (8 * s.size) pre z) (hmd : z.md = 1) (hp2 : pre ≤ 32768) (hs : s.size ≤ 4294967296) :
    Calls Tryz.prog 20 #[.pointer (some ⟨gk, 0, none⟩), .int .i64 (z.left : Nat)] w (RetBlk B gk gr vb s pre z0 z w) := by
  have HH := Lib.hid h
  obtain ⟨n, hn⟩ : ∃ n, n = z.left := ⟨_, rfl⟩
  have hn2 : n ≤ 65535 := by rw [hn]; exact hi.left
  have HN := Lib.hid hn
  have H8 := Lib.hid (hi.al hmd)
  have HPL := Lib.hid hk
  have HI := Lib.hid hi
  have HMD := Lib.hid hmd
  obtain ⟨M, hM⟩ : ∃ M : Nat, M = 16777216 := ⟨_, rfl⟩
  have HMM := Lib.hid hM
  have hroom := hi.big
  rw [← hM] at hroom
  have HRM := Lib.hid hroom
  have hzp := hi.p
  have HZP := Lib.hid hzp
  rw [← hn]
  clear h hn hk hi hmd hM hroom hzp
  go_enter Tryz.func20, Tryz.ntmps20
  go_wp2
  go_loopg [5, 6, 7] (n + 1) (fun gq iv cv ev wr => ∃ (i : Nat) (vr : Value), iv = .int .i64 i ∧ StorAt s pre M z i ∧ WorkV wr B gk gr vr s (z.p + 8 * i) (storH s z i) pre ∧ Fx (KSet gk gr vb) w wr ∧ (∀ k, vr.ownBlock = some k → vb.ownBlock = some k ∨ w.heap.size ≤ k) ∧ gq = n + 1 - i)
  case atStart =>
    refine ⟨0, vb, rfl, ⟨Nat.zero_le _, HZP.out, HRM.out⟩, ?_, Fx.refl _ _, fun _ e => .inl e, rfl⟩
    have e : storH s z 0 = z.h := by unfold storH; rw [List.take_zero, List.append_nil]
    rw [e]; exact HH.out
  case round =>
    obtain ⟨i, vr, rfl, hat, hwk, hfx, hov, rfl⟩ := hrel
    have HAT := Lib.hid hat
    have HW := Lib.hid hwk
    have HFX := Lib.hid hfx
    have HOV := Lib.hid hov
    have hle : i ≤ n := by rw [HN.out]; exact hat.le
    have hg := hwk.lt.1
    have c0 : wr.cell? ⟨gk, 0, none⟩ = some (.pointer (some ⟨gr, 0, none⟩)) := hwk.box.cell (by simp)
    clear hat hwk hfx hov
    by_cases hlt : i < n
    · have hlti : decide (i < n) = true := by rw [decide_eq_true_iff]; exact hlt
      have HBT := Lib.hid (bitsT HW.out.rd hs 8 (by decide) HAT.out.av)
      unfold RetBits at HBT
      rw [show ((8 : Nat) : Int) = 8 from rfl] at HBT
      by_cases hav : z.p + 8 * i + 8 ≤ 8 * s.size
      · obtain ⟨hnx, hv⟩ := stor_next (s := s) H8.out hav
        have hbt : bitsA (numS s) (8 * s.size) (z.p + 8 * i) 8 = (valN (numS s) (z.p + 8 * i) 8, 0, z.p + 8 * i + 8) := by unfold bitsA; rw [if_pos hav]
        rw [hbt] at HBT
        generalize valN (numS s) (z.p + 8 * i) 8 = v at *
        simp only at HBT
        have HNX := Lib.hid hnx
        have HLE := Lib.hid (storH_len (s := s) (z := z) H8.out HAT.out.av)
        have HPRE := Lib.hid HI.out.hpre
        have HAV := Lib.hid hav
        clear hbt hnx hav
        go_upto_region 7 with ((with_reducible go_at_call 31); (with_reducible refine HBT.out.mono ?_); rintro e w1 ⟨rfl, hb1, hg1⟩; have HR := Lib.hid (HW.out.read hb1 hg1); clear hb1 hg1)
        have HPT := Lib.hid (putK HR.out.1 (by have := HLE.out; have := HPRE.out; omega) hp2 (by have := HLE.out; have := HAT.out.room; have := HMM.out; have := HPRE.out; omega) v hv)
        unfold RetPut at HPT
        rw [← HMM.out] at HPT
        have hvm : ((v : Int)) % 256 = (v : Nat) := by omega
        have HFR : Hid (Fx (KSet gk gr vb) w w1) := Lib.hid (kfx_next HFX.out HOV.out HR.out.2)
        by_cases hrm : (storH s z i).length - pre < M
        · rw [decide_eq_true hrm, if_pos hrm, HNX.out] at HPT
          have HRR := Lib.hid hrm
          clear hrm
          go_wp2_with ((with_reducible go_at_call 32); (try rw [hvm]); (with_reducible refine HPT.out.mono ?_); rintro e w2 ⟨vb2, rfl, hw2, hf2, ho2⟩; have HW2 := Lib.hid hw2; have HF2 := Lib.hid (kfx_next HFR.out HOV.out hf2); have HO2 := Lib.hid (own_next HOV.out HFR.out.size ho2); clear hw2 hf2 ho2)
          go_roundg (n + 1 - (i + 1))
          case measure => omega
          case rel =>
            refine ⟨i + 1, vb2, by go_num, ⟨by have := HN.out; omega, by have := HAV.out; omega, ?_⟩, HW2.out, HF2.out, HO2.out, rfl⟩
            have := HRR.out; have := HLE.out; have := HPRE.out; omega
        · rw [decide_eq_false hrm, if_neg hrm] at HPT
          obtain ⟨k', z', e1, e2⟩ := stor_big HMM.out HPL.out HMD.out H8.out HPRE.out HAT.out (by rw [← HN.out]; exact hlt) HAV.out (by have := HLE.out; have := HPRE.out; omega)
          have HE1 := Lib.hid e1
          have HE2 := Lib.hid e2
          clear hrm e1 e2
          go_wp2_with ((with_reducible go_at_call 32); (try rw [hvm]); (with_reducible refine HPT.out.mono ?_); rintro e w2 ⟨vb2, rfl, hw2, hf2, ho2⟩; have HW2 := Lib.hid hw2; have HF2 := Lib.hid (kfx_next HFR.out HOV.out hf2); have HO2 := Lib.hid (own_next HOV.out HFR.out.size ho2); clear hw2 hf2 ho2)
          go_ret
          unfold RetBlk
          exact ⟨3, vb2, _, k', z', rfl, by rw [HE2.out]; exact HW2.out, HE1.out, HAV.out, fun e => absurd e (by decide), HF2.out, HO2.out⟩
      · have hbt : bitsA (numS s) (8 * s.size) (z.p + 8 * i) 8 = (0, 2, z.p + 8 * i) := by unfold bitsA; rw [if_neg hav]
        rw [hbt] at HBT
        obtain ⟨k', z', e1, e2⟩ := stor_short HMM.out HPL.out HMD.out H8.out HI.out.hpre HAT.out (by rw [← HN.out]; exact hlt) (by omega)
        have HE1 := Lib.hid e1
        have HE2 := Lib.hid e2
        simp only at HBT
        clear hbt hav e1 e2
        go_wp2_with ((with_reducible go_at_call 31); (with_reducible refine HBT.out.mono ?_); rintro e w1 ⟨rfl, hb1, hg1⟩; have HR := Lib.hid (HW.out.read hb1 hg1); clear hb1 hg1)
        go_ret
        unfold RetBlk
        exact ⟨2, vr, _, k', z', rfl, by rw [HE2.out]; exact HR.out.1, HE1.out, HAT.out.av, fun e => absurd e (by decide), kfx_next HFX.out HOV.out HR.out.2, HOV.out⟩
    · have hlti : decide (i < n) = false := by rw [decide_eq_false_iff_not]; exact hlt
      have hin : i = z.left := by rw [← HN.out]; omega
      subst hin
      obtain ⟨k', e1⟩ := stor_done HMM.out HPL.out HMD.out H8.out HI.out.hpre HAT.out
      have HE1 := Lib.hid e1
      clear e1
      go_wp2
      go_ret
      unfold RetBlk
      exact ⟨0, vr, _, k', _, rfl, HW.out, HE1.out, HAT.out.av, fun _ => ⟨rfl, rfl, rfl⟩, HFX.out, HOV.out⟩
end Go.Cm

/- The walk of the document's copies. Conditions: the work stands where a machine stands behind a length's symbol. -/
namespace Go.Cm
open Go.RowKit Go.Proofs

/-- what a copy answers -/
def RetCp (B gk gr : Nat) (vb : Value) (s : ByteArray) (pre : Nat) (Y : Nat × IS) (w : World) (e : Ending) (w' : World) : Prop :=
  ∃ (vb' : Value) (p' : Nat), e = .returned (.int .i64 (Y.1 : Nat)) ∧ WorkV w' B gk gr vb' s p' Y.2.h pre ∧ p' ≤ 8 * s.size ∧ (Y.1 = 0 → p' = Y.2.p) ∧ Fx (KSet gk gr vb) w w' ∧ (∀ k, vb'.ownBlock = some k → vb.ownBlock = some k ∨ w.heap.size ≤ k)
theorem errI_lst2 {L : List Nat} (h : errI (nls L) = 0) : L.length ≤ 320 ∧ (∀ x ∈ L, x ≤ 15) ∧ kraftN L ≤ 32768 := by
  obtain ⟨L', hL', h1, h2, h3⟩ := errI_zero h
  have e : L = L' := by
    have := congrArg (List.map Int.toNat) hL'
    rwa [nls_toNat, nls_toNat] at this
  subst e
  exact ⟨h1, h2, h3⟩
theorem copy_room {M pre : Nat} {H : Byts} {d n i : Nat} (hi : i ≤ n) (he : H.length + i = pre + M) : (copyN H d n).take (pre + M) = copyN H d i := by
  obtain ⟨m, rfl⟩ : ∃ m, n = i + m := ⟨n - i, by omega⟩
  rw [copyN_add]
  obtain ⟨c, hc, -⟩ := copyN_app (copyN H d i) d m
  rw [hc, List.take_append_of_le_length (by rw [copyN_len]; omega), List.take_of_length_le (by rw [copyN_len]; omega)]
set_option maxRecDepth 100000 in
set_option maxHeartbeats 4000000 in
theorem copiedK {w : World} {B gk gr p pre sym : Nat} {vb v : Value} {s : ByteArray} {z : IS} (h : WorkV w B gk gr vb s p z.h pre) (hp : p ≤ 8 * s.size) (hD : ∀ W, Fx (KSet gk gr vb) w W → IntsAt W v (nls z.di)) (he : errI (nls z.di) = 0) (hpre : pre ≤ z.h.length) (hbig : z.h.length - pre ≤ 16777216) (hp2 : pre ≤ 32768) (hs : s.size ≤ 4294967296) (hsym : sym < 100000) :
    Calls Tryz.prog 34 #[.pointer (some ⟨gk, 0, none⟩), .int .i64 (sym : Nat), v] w (RetCp B gk gr vb s pre (bigI pre (cpyI (numS s) (8 * s.size) z sym p)) w) := by
  obtain ⟨oa, cap, bl, off, hv, -, -⟩ := (hD w (Fx.refl _ _)).open
  rw [hv] at hD ⊢
  clear hv
  have HH := Lib.hid h
  have HD := Lib.hid hD
  obtain ⟨hl1, hl2, hl3⟩ := errI_lst2 he
  have HLN := Lib.hid (lenRg sym hsym)
  obtain ⟨Y, hY⟩ : ∃ Y, Y = bigI pre (cpyI (numS s) (8 * s.size) z sym p) := ⟨_, rfl⟩
  rw [← hY]
  have HY := Lib.hid hY
  have hle := fun h => lenB_le (s := sym) h
  obtain ⟨LB, hLB⟩ : ∃ LB, LB = lenB sym := ⟨_, rfl⟩
  rw [← hLB] at HLN hle
  have HLB := Lib.hid hLB
  have HPP := Lib.hid hpre
  have HBG := Lib.hid hbig
  obtain ⟨b, n, is⟩ := LB
  simp only at HLN hle
  clear h hD hY hLB hpre hbig
  cases is with
  | false =>
    go_enter Tryz.func34, Tryz.ntmps34
    go_wp2_with ((with_reducible go_at_call 51); (with_reducible refine (HLN.out _).mono ?_); rintro e w1 ⟨rfl, hx⟩; have HB1 := Lib.hid (below_ext hx); clear hx)
    go_ret
    have hy : Y = (9, z) := by
      rw [HY.out]
      unfold cpyI numB
      rw [← HLB.out]
      rfl
    rw [hy]
    unfold RetCp
    exact ⟨vb, p, rfl, HH.out.up HB1.out, hp, fun e => absurd e (show ¬ (9 : Nat) = 0 by decide), fx_below HB1.out, fun _ e => .inl e⟩
  | true =>
    obtain ⟨q1, q2, q3, q4⟩ := hle rfl
    have HF1 := Lib.hid (fun (W : World) (hb : Below w.heap.size w W) => furtherK (HH.out.up hb) hs hp b n (by omega) (by omega))
    have hnb : numB (numS s) (8 * s.size) p (lenB sym) = numB (numS s) (8 * s.size) p (b, n, true) := by rw [← HLB.out]
    have hok := fun e => numB_ok (N := numS s) (T := 8 * s.size) (p := p) (y := (b, n, true)) e
    have hvl := valN_lt (numS s) p n
    have hple : (numB (numS s) (8 * s.size) p (b, n, true)).2.2 ≤ 8 * s.size := by
      unfold numB
      rw [if_neg (by simp)]
      exact (bitsA_le hp).1
    have HNB := Lib.hid hnb
    unfold cpyI at HY
    rw [hnb] at HY
    generalize numB (numS s) (8 * s.size) p (b, n, true) = D at *
    obtain ⟨len, e1, p1⟩ := D
    simp only at HF1 hok hple HY
    clear hnb HNB
    have HPL := Lib.hid hple
    have HOK := Lib.hid hok
    clear hok hple
    go_enter Tryz.func34, Tryz.ntmps34
    go_upto_region 5 with (first
      | ((with_reducible go_at_call 51); (with_reducible refine (HLN.out _).mono ?_); rintro e w1 ⟨rfl, hx⟩; have HB1 := Lib.hid (below_ext hx); clear hx)
      | ((with_reducible go_at_call 52); (with_reducible refine (HF1.out _ HB1.out).mono ?_); rintro e w2 ⟨rfl, hw2, hf2⟩; have HW2 := Lib.hid hw2; have HF2 : Hid (Fx (KSet gk gr vb) w w2) := Lib.hid ((fx_below HB1.out).trans hf2); clear hw2 hf2))
    by_cases he1 : e1 = 0
    · subst he1
      rw [if_neg (fun h => h rfl)] at HY
      obtain ⟨-, -, -, hlen⟩ := HOK.out rfl
      have hlen2 : len ≤ 258 := by omega
      have HRD := Lib.hid (readR0 (.slice oa (nls z.di).length cap) z.di (HD.out w2 HF2.out) (Below.refl _ _) HW2.out.rd hl1 hl2 hl3 hs HPL.out)
      unfold RetRead at HRD
      have c0 : w2.cell? ⟨gk, 0, none⟩ = some (.pointer (some ⟨gr, 0, none⟩)) := HW2.out.box.cell (by simp)
      have hg := HW2.out.lt.1
      unfold cpyI2 at HY
      clear hlen HF1 HOK HLN hle hvl q1 q2 q3 q4
      go_upto_region 8 with ((with_reducible go_at_call 33); (with_reducible refine HRD.out.mono ?_); rintro e w3 ⟨a, er, d, rfl, hrn, hb3, hg3⟩; have HR3 := Lib.hid hrn; have HW3 := Lib.hid (HW2.out.read hb3 hg3).1; have HF3 := Lib.hid (HF2.out.trans (HW2.out.read hb3 hg3).2); clear hrn hb3 hg3)
      obtain ⟨ra, re, rd⟩ := read_one HR3.out (readF_ok z.di (numS s / 2 ^ p1) (8 * s.size - p1))
      rw [← ra, ← re, ← rd] at HY
      have HRL := Lib.hid (read_le HR3.out)
      have hra : a < 100000 := by
        rcases HR3.out with ⟨h1, -⟩ | ⟨-, h1, -⟩ <;> omega
      have HP3 : Hid (p1 + d ≤ 8 * s.size) := Lib.hid (by have := HRL.out; have := HPL.out; omega)
      clear ra re rd HRD c0 hg HR3
      by_cases her : er = 0
      · subst her
        rw [if_neg (fun h => h rfl)] at HY
        have HDS := Lib.hid (dstRg a hra)
        have hle := fun h => dstB_le (s := a) h
        obtain ⟨LD, hLD⟩ : ∃ LD, LD = dstB a := ⟨_, rfl⟩
        rw [← hLD] at HDS hle HY
        obtain ⟨b2, n2, is2⟩ := LD
        simp only at HDS hle
        clear hLD
        cases is2 with
        | false =>
          go_wp2_with ((with_reducible go_at_call 53); (with_reducible refine (HDS.out _).mono ?_); rintro e w4 ⟨rfl, hx⟩; have HB4 := Lib.hid (below_ext hx); clear hx)
          go_ret
          have hy : Y = (9, z) := by
            rw [HY.out]
            unfold numB
            rfl
          rw [hy]
          unfold RetCp
          exact ⟨vb, p1 + d, rfl, HW3.out.up HB4.out, HP3.out, fun e => absurd e (show ¬ (9 : Nat) = 0 by decide), HF3.out.trans (fx_below HB4.out), fun _ e => .inl e⟩
        | true =>
          obtain ⟨q1, q2, q3⟩ := hle rfl
          have hpw : 0 < 2 ^ n2 := Nat.pow_pos (by decide)
          have HF4 := Lib.hid (fun (W : World) (hb : Below w3.heap.size w3 W) => furtherK (HW3.out.up hb) hs HP3.out b2 n2 (by omega) (by omega))
          have hok := fun e => numB_ok (N := numS s) (T := 8 * s.size) (p := p1 + d) (y := (b2, n2, true)) e
          have hvl := valN_lt (numS s) (p1 + d) n2
          have hple : (numB (numS s) (8 * s.size) (p1 + d) (b2, n2, true)).2.2 ≤ 8 * s.size := by
            unfold numB
            rw [if_neg (by simp)]
            exact (bitsA_le HP3.out).1
          generalize numB (numS s) (8 * s.size) (p1 + d) (b2, n2, true) = D2 at *
          obtain ⟨ds, e4, p4⟩ := D2
          simp only at HF4 hok hple HY
          have HPL4 := Lib.hid hple
          have hds : e4 = 0 → 1 ≤ ds ∧ ds ≤ 32768 := fun e => by
            obtain ⟨-, -, -, h⟩ := hok e
            omega
          unfold cpyI3 at HY
          simp only at HY
          clear hok hple hle hvl
          go_upto_region 14 with (first
            | ((with_reducible go_at_call 53); (with_reducible refine (HDS.out _).mono ?_); rintro e w4 ⟨rfl, hx⟩; have HB4 := Lib.hid (below_ext hx); clear hx)
            | ((with_reducible go_at_call 52); (with_reducible refine (HF4.out _ HB4.out).mono ?_); rintro e w5 ⟨rfl, hw2, hf2⟩; have HW5 := Lib.hid hw2; have HF5 : Hid (Fx (KSet gk gr vb) w w5) := Lib.hid (HF3.out.trans ((fx_below HB4.out).trans hf2)); clear hw2 hf2))
          by_cases he4 : e4 = 0
          · subst he4
            rw [if_neg (fun h => h rfl)] at HY
            obtain ⟨hd1, hd2⟩ := hds rfl
            obtain ⟨vo, vc, vbk, vf, hvb, hvd, hvc⟩ := HW5.out.own.head
            have hvm := hvd.len
            rw [bytesV_length] at hvb hvm
            have HVB := Lib.hid hvb
            have c1 : w5.cell? ⟨gk, 1, none⟩ = some (.slice vo z.h.length vc) := by rw [← hvb]; exact HW5.out.box.cell (by simp)
            have hg := HW5.out.lt.1
            have hzl : z.h.length ≤ 16809984 := by have := HBG.out; omega
            clear hvd hvc hvb HDS HF4
            by_cases hfar : z.h.length < ds
            · have hfr : decide ((ds : Int) > (z.h.length : Nat)) = true := decide_eq_true (by omega)
              have hy : Y = (10, z) := by
                rw [HY.out, if_pos (by omega)]
                unfold bigI
                rw [if_pos (show ¬ (10 : Nat) = 0 by decide)]
              have hfn : ¬ ds ≤ z.h.length := by omega
              go_wp2
              go_ret
              try rw [hy]
              unfold RetCp
              exact ⟨vb, p4, rfl, HW5.out, HPL4.out, fun e => absurd e (show ¬ (10 : Nat) = 0 by decide), HF5.out, fun _ e => .inl e⟩
            · have hfr : decide ((ds : Int) > (z.h.length : Nat)) = false := decide_eq_false (by omega)
              have hfr2 : decide ((ds : Int) > 32768) = false := decide_eq_false (by omega)
              have hfr3 : (ds : Int) ≤ 32768 := by omega
              have hfr4 : ds ≤ z.h.length := by omega
              rw [if_neg (by omega)] at HY
              obtain ⟨M, hM⟩ : ∃ M : Nat, M = 16777216 := ⟨_, rfl⟩
              have HMM := Lib.hid hM
              have HDL : Hid (1 ≤ ds ∧ ds ≤ z.h.length) := Lib.hid ⟨hd1, by omega⟩
              clear hM
              go_upto_region 19 with (fail)
              go_loopg [19] (len + 1) (fun gq iv wr => ∃ (i : Nat) (vr : Value), iv = .int .i64 i ∧ i ≤ len ∧ z.h.length - pre + i ≤ M ∧ WorkV wr B gk gr vr s p4 (copyN z.h ds i) pre ∧ Fx (KSet gk gr vb) w wr ∧ (∀ k, vr.ownBlock = some k → vb.ownBlock = some k ∨ w.heap.size ≤ k) ∧ gq = len + 1 - i)
              case atStart =>
                exact ⟨0, vb, rfl, Nat.zero_le _, by rw [HMM.out]; exact HBG.out, HW5.out, HF5.out, fun _ e => .inl e, rfl⟩
              case round =>
                obtain ⟨i, vr, rfl, hil, hrm, hwk, hfx, hov, rfl⟩ := hrel
                have HW := Lib.hid hwk
                have HFX := Lib.hid hfx
                have HOV := Lib.hid hov
                have HRM := Lib.hid hrm
                clear c1 hg hwk hfx hov
                by_cases hlt : i < len
                · have hlti : decide (i < len) = true := by rw [decide_eq_true_iff]; exact hlt
                  obtain ⟨xo, xc, xb, xf, hxb, hxd, hxc⟩ := HW.out.own.head
                  rw [bytesV_length, copyN_len] at hxb hxd hxc
                  obtain ⟨j, hj⟩ : ∃ j, j = z.h.length + i - ds := ⟨_, rfl⟩
                  have hdl := HDL.out
                  have hjl : j < z.h.length + i := by omega
                  obtain ⟨LL, hLL⟩ : ∃ LL, LL = z.h.length + i := ⟨_, rfl⟩
                  rw [← hLL] at hxb hxd hxc hj hjl
                  have c1 : wr.cell? ⟨gk, 1, none⟩ = some (.slice xo LL xc) := by rw [← hxb]; exact HW.out.box.cell (by simp)
                  have hg := HW.out.lt.1
                  have hji : ((LL : Nat) : Int) - (ds : Nat) = (j : Nat) := by omega
                  have HLL := Lib.hid hLL
                  have hix := fun W kd => index_any (P := Tryz.prog) 54 5 Tryz.underlying54 (by kernel_rfl) hxd W kd (j : Int) (by omega) (by omega)
                  simp only [Int.toNat_natCast] at hix
                  have hLb : LL ≤ 40000000 := by have := HMM.out; omega
                  have hxbl := hxd.hblk (by omega)
                  have hcell : wr.cell? ⟨xb, xf + j, none⟩ = some (.int .u8 (((copyN z.h ds i).getD j 0).toNat : Nat)) := by
                    rw [hxc j hjl]
                    have : j < (copyN z.h ds i).length := by rw [copyN_len, ← hLL]; exact hjl
                    simp [bytesV, List.getD, this]
                  have HNX : Hid (copyN z.h ds i ++ [UInt8.ofNat ((copyN z.h ds i).getD j 0).toNat] = copyN z.h ds (i + 1)) := Lib.hid (by
                    rw [copyN, copyN_len, ← hLL, hj]
                    congr 2
                    simp)
                  have hbyte : ((copyN z.h ds i).getD j 0).toNat < 256 := UInt8.toNat_lt _
                  generalize ((copyN z.h ds i).getD j 0).toNat = bt at *
                  have HLC := Lib.hid (copyN_len z.h ds i)
                  clear hLL hj hxc hxd hxb
                  have HPT := Lib.hid (fun (W : World) (hb : Below wr.heap.size wr W) => putK (HW.out.up hb) (by rw [copyN_len]; have := HPP.out; omega) hp2 (by rw [copyN_len]; have := HPP.out; have := HMM.out; omega) bt hbyte)
                  unfold RetPut at HPT
                  rw [← HMM.out, HNX.out, HLC.out] at HPT
                  go_upto_region 21 with (fail)
                  refine wp_region_tailg [0,1,2,3,4,5,6,7,8,9,10,11,12,13] [] [14,15] (by kernel_rfl) (by kernel_rfl) ?_
                  simp only [pick, List.map_cons, List.map_nil, List.getD_cons_zero, List.getD_cons_succ]
                  repeat (go_big_quiet_step (fail))
                  refine wpQuiet_nil ?_
                  have HBD := Lib.hid (below_drewN wr 1)
                  rw [← World.drew_is_drewN] at HBD
                  generalize wr.drew = w6 at *
                  unfold wpAct
                  unfold wpAct
                  have HFR : Hid (Fx (KSet gk gr vb) w w6) := Lib.hid (HFX.out.trans (fx_below HBD.out))
                  have HPC := Lib.hid (HPT.out w6 HBD.out)
                  clear HPT c1 hg hxbl hcell hix
                  by_cases hr2 : z.h.length + i - pre < M
                  · rw [decide_eq_true hr2, if_pos hr2] at HPC
                    have HR2 := Lib.hid hr2
                    clear hr2
                    go_wp2_with (fail)
                    (with_reducible refine HPC.out.mono ?_)
                    rintro e w7 ⟨vb2, rfl, hw2, hf2, ho2⟩
                    have HW7 := Lib.hid hw2; have HF7 := Lib.hid (kfx_next HFR.out HOV.out hf2); have HO7 := Lib.hid (own_next HOV.out HFR.out.size ho2); clear hw2 hf2 ho2
                    go_wp2
                    refine ⟨trivial, ?_⟩
                    unfold wpAct
                    go_wp2
                    refine ⟨trivial, ?_⟩
                    unfold wpAct
                    go_wp2
                    go_roundg (len + 1 - (i + 1))
                    case measure => omega
                    case rel => exact ⟨i + 1, vb2, by go_num, hlt, by have := HR2.out; have := HPP.out; omega, HW7.out, HF7.out, HO7.out, rfl⟩
                  · rw [decide_eq_false hr2, if_neg hr2] at HPC
                    have HR2 := Lib.hid hr2
                    clear hr2
                    go_wp2_with (fail)
                    (with_reducible refine HPC.out.mono ?_)
                    rintro e w7 ⟨vb2, rfl, hw2, hf2, ho2⟩
                    have HW7 := Lib.hid hw2; have HF7 := Lib.hid (kfx_next HFR.out HOV.out hf2); have HO7 := Lib.hid (own_next HOV.out HFR.out.size ho2); clear hw2 hf2 ho2
                    go_wp2
                    refine ⟨trivial, ?_⟩
                    unfold wpAct
                    go_wp2
                    refine ⟨trivial, ?_⟩
                    unfold wpAct
                    have hy : Y = (3, { z with p := p4, h := copyN z.h ds i }) := by
                      rw [HY.out]
                      unfold bigI
                      rw [← HMM.out]
                      have e1 : z.h.length + i = pre + M := by have := HR2.out; have := HRM.out; have := HPP.out; omega
                      rw [if_neg (fun h => h rfl), if_pos (by show M < (copyN z.h ds len).length - pre; rw [copyN_len]; omega)]
                      show (3, ({ z with p := p4, h := (copyN z.h ds len).take (pre + M) } : IS)) = _
                      rw [copy_room (Nat.le_of_lt hlt) e1]
                    have HYY := Lib.hid hy
                    clear hy
                    go_wp2
                    go_ret
                    rw [HYY.out]
                    unfold RetCp
                    exact ⟨vb2, p4, rfl, HW7.out, HPL4.out, fun e => absurd e (show ¬ (3 : Nat) = 0 by decide), HF7.out, HO7.out⟩
                · have hlti : decide (i < len) = false := by rw [decide_eq_false_iff_not]; exact hlt
                  obtain rfl : i = len := by omega
                  have hy : Y = (0, { z with p := p4, h := copyN z.h ds i }) := by
                    rw [HY.out]
                    unfold bigI
                    rw [← HMM.out]
                    rw [if_neg (fun h => h rfl), if_neg (by show ¬ M < (copyN z.h ds i).length - pre; rw [copyN_len]; have := HRM.out; have := HPP.out; omega)]
                  have HYY := Lib.hid hy
                  clear hy
                  go_wp2
                  go_ret
                  rw [HYY.out]
                  unfold RetCp
                  exact ⟨vr, p4, rfl, HW.out, HPL4.out, fun _ => rfl, HFX.out, HOV.out⟩
          · rw [if_pos he4] at HY
            have he4' : ((e4 : Int) == 0) = false := by simpa using he4
            go_wp2
            go_ret
            have hy : Y = (e4, z) := by
              rw [HY.out]
              unfold bigI
              rw [if_pos he4]
            rw [hy]
            unfold RetCp
            exact ⟨vb, p4, rfl, HW5.out, HPL4.out, fun e => absurd e he4, HF5.out, fun _ e => .inl e⟩
      · rw [if_pos her] at HY
        have her' : ((er : Int) == 0) = false := by simpa using her
        go_wp2
        go_ret
        have hy : Y = (er, z) := by
          rw [HY.out]
          unfold bigI
          rw [if_pos her]
        rw [hy]
        unfold RetCp
        exact ⟨vb, p1 + d, rfl, HW3.out, HP3.out, fun e => absurd e her, HF3.out, fun _ e => .inl e⟩
    · rw [if_pos he1] at HY
      have he1' : ((e1 : Int) == 0) = false := by simpa using he1
      go_wp2
      go_ret
      have hy : Y = (e1, z) := by
        rw [HY.out]
        unfold bigI
        rw [if_pos he1]
      rw [hy]
      unfold RetCp
      exact ⟨vb, p1, rfl, HW2.out, HPL.out, fun e => absurd e he1, HF2.out, fun _ e => .inl e⟩
end Go.Cm

/- The walk of the document's coded blocks. Conditions: the work stands where a machine stands behind a coded block's head. -/
namespace Go.Cm
open Go.RowKit Go.Proofs

attribute [local irreducible] lastN
theorem cpyI_more {N T s p : Nat} {z : IS} : (cpyI N T z s p).2.md = z.md ∧ (cpyI N T z s p).2.fin = z.fin := by
  unfold cpyI cpyI2 cpyI3
  split
  · exact ⟨rfl, rfl⟩
  · split
    · exact ⟨rfl, rfl⟩
    · split
      · exact ⟨rfl, rfl⟩
      · split <;> exact ⟨rfl, rfl⟩
theorem bigI_zero {pre : Nat} {y : Nat × IS} (h : (bigI pre y).1 = 0) : bigI pre y = y := by
  unfold bigI at h ⊢
  generalize (16777216 : Nat) = M at *
  by_cases h1 : y.1 ≠ 0
  · rw [if_pos h1]
  · rw [if_neg h1] at h ⊢
    by_cases h2 : M < y.2.h.length - pre
    · rw [if_pos h2] at h; cases h
    · rw [if_neg h2]
theorem ps_next {s : ByteArray} {pre k : Nat} {z0 z : IS} (hk : playS s pre z0 k = (0, z)) (hm : z.md ≠ 3) : playS s pre z0 (k + 1) = bigI pre (stepS s pre z) := by
  rw [playS_next (by rw [hk]; exact fun h => h.elim (fun h => h rfl) hm), hk]
theorem stepS_cod {s : ByteArray} {pre : Nat} {z : IS} (h : z.md = 2) : stepS s pre z = codI2 (numS s) (8 * s.size) z (readF z.li (numS s / 2 ^ z.p) (8 * s.size - z.p)) := by
  unfold stepS stI
  rw [if_neg (by rw [h]; decide), if_neg (by rw [h]; decide), if_pos h]
  rfl
set_option maxRecDepth 100000 in
set_option maxHeartbeats 4000000 in
theorem codedK {w : World} {B gk gr pre k : Nat} {vb v1 v2 : Value} {s : ByteArray} {z0 z : IS} {fb : Bool} {kd sz : Nat} (h : WorkV w B gk gr vb s z.p z.h pre) (hk : playS s pre z0 k = (0, z)) (hi : IOk (8 * s.size) pre z0) (hmd : z.md = 2) (hp2 : pre ≤ 32768) (hs : s.size ≤ 4294967296)
    (hD1 : ∀ W, Fx (KSet gk gr vb) w W → IntsAt W v1 (nls z.li)) (hD2 : ∀ W, Fx (KSet gk gr vb) w W → IntsAt W v2 (nls z.di)) :
    Calls Tryz.prog 21 #[.pointer (some ⟨gk, 0, none⟩), .agg #[.bool fb, .int .i64 kd, .int .i64 sz, v1, v2]] w (RetBlk B gk gr vb s pre z0 z w) := by
  obtain ⟨o1, c1, b1, f1, hv1, -, -⟩ := (hD1 w (Fx.refl _ _)).open
  obtain ⟨o2, c2, b2, f2, hv2, -, -⟩ := (hD2 w (Fx.refl _ _)).open
  rw [hv1] at hD1 ⊢
  rw [hv2] at hD2 ⊢
  clear hv1 hv2
  obtain ⟨n1, hn1⟩ : ∃ n1, n1 = (nls z.li).length := ⟨_, rfl⟩
  obtain ⟨n2, hn2⟩ : ∃ n2, n2 = (nls z.di).length := ⟨_, rfl⟩
  rw [← hn1] at hD1 ⊢
  rw [← hn2] at hD2 ⊢
  clear hn1 hn2
  have HH := Lib.hid h
  have HD1 := Lib.hid hD1
  have HD2 := Lib.hid hD2
  have HPL := Lib.hid hk
  have HMD := Lib.hid hmd
  have HI := Lib.hid hi
  obtain ⟨N, hN⟩ : ∃ N, N = muI (8 * s.size) z0 + 1 := ⟨_, rfl⟩
  have HN := Lib.hid hN
  obtain ⟨M, hM⟩ : ∃ M : Nat, M = 16777216 := ⟨_, rfl⟩
  have HMM := Lib.hid hM
  have hglt := h.lt
  have HVL := Lib.hid (fun q e => (h.own.lt q e).2)
  clear h hk hi hmd hD1 hD2 hN hM
  go_enter Tryz.func21, Tryz.ntmps21
  go_upto_region 1 with (fail)
  have HBA := Lib.hid (below_alloc w (.cells #[.bool fb, .int .i64 kd, .int .i64 sz, .slice o1 n1 c1, .slice o2 n2 c2] 60))
  have g3 : (w.alloc (.cells #[.bool fb, .int .i64 kd, .int .i64 sz, .slice o1 n1 c1, .slice o2 n2 c2] 60)).cell? ⟨w.heap.size, 3, none⟩ = some (.slice o1 n1 c1) := by rw [World.cell?_alloc_new]; rfl
  have g4 : (w.alloc (.cells #[.bool fb, .int .i64 kd, .int .i64 sz, .slice o1 n1 c1, .slice o2 n2 c2] 60)).cell? ⟨w.heap.size, 4, none⟩ = some (.slice o2 n2 c2) := by rw [World.cell?_alloc_new]; rfl
  have hgz : w.heap.size < (w.alloc (.cells #[.bool fb, .int .i64 kd, .int .i64 sz, .slice o1 n1 c1, .slice o2 n2 c2] 60)).heap.size := by simp
  generalize w.alloc (.cells #[.bool fb, .int .i64 kd, .int .i64 sz, .slice o1 n1 c1, .slice o2 n2 c2] 60) = w1 at *
  have HG3 := Lib.hid g3
  have HG4 := Lib.hid g4
  have HGZ := Lib.hid hgz
  have HH1 := Lib.hid (HH.out.up HBA.out)
  obtain ⟨gh, hgh⟩ : ∃ gh, gh = w.heap.size := ⟨_, rfl⟩
  rw [← hgh] at HG3 HG4 HGZ ⊢
  have HGH := Lib.hid hgh
  have hnot : ¬ KSet gk gr vb gh := fun e => by
    rcases e with e | e | e
    · omega
    · omega
    · have := HVL.out gh e; omega
  have HNOT := Lib.hid hnot
  clear g3 g4 hgz hgh hnot
  go_loopg [5, 6] (N + 1 - k) (fun gq sv ev wr => ∃ (kk : Nat) (y : IS) (vr : Value), playS s pre z0 kk = (0, y) ∧ y.md = 2 ∧ y.li = z.li ∧ y.di = z.di ∧ y.fin = z.fin ∧ y.st = z.st ∧ WorkV wr B gk gr vr s y.p y.h pre ∧ Fx (KSet gk gr vb) w1 wr ∧ (∀ q, vr.ownBlock = some q → vb.ownBlock = some q ∨ w1.heap.size ≤ q) ∧ gq = N + 1 - kk)
  case atStart => exact ⟨k, z, vb, HPL.out, HMD.out, rfl, rfl, rfl, rfl, HH1.out, Fx.refl _ _, fun _ e => .inl e, rfl⟩
  case round =>
    obtain ⟨kk, y, vr, hky, hym, hyl, hyd, hyf, hys, hwk, hfx, hov, rfl⟩ := hrel
    have hkp := (playS_keep HI.out kk)
    rw [hky] at hkp
    obtain ⟨⟨hpre, hbig⟩, hkp⟩ := hkp
    obtain ⟨hio, hmu⟩ := hkp rfl
    simp only at hpre hbig hio hmu
    have hkN : kk < N := by
      have := hmu.resolve_left (fun e => e.elim (fun e => e rfl) (fun e => by rw [hym] at e; cases e))
      have := HN.out
      omega
    have HKY := Lib.hid hky
    have HYM := Lib.hid hym
    have HYY : Hid (y.li = z.li ∧ y.di = z.di ∧ y.fin = z.fin ∧ y.st = z.st) := Lib.hid ⟨hyl, hyd, hyf, hys⟩
    have HIO := Lib.hid hio
    have HPRE := Lib.hid hpre
    have HBIG := Lib.hid hbig
    have HW := Lib.hid hwk
    have HFX := Lib.hid hfx
    have HOV := Lib.hid hov
    have hyp := hio.p
    have HYP := Lib.hid hyp
    have hel : errI (nls y.li) = 0 := hio.li.resolve_right (fun e => e hym)
    have hed : errI (nls y.di) = 0 := hio.di.resolve_right (fun e => e hym)
    have HED := Lib.hid hed
    obtain ⟨l1, l2, l3⟩ := errI_lst2 hel
    have hcr : Fx (KSet gk gr vb) w wr := (fx_below HBA.out).trans hfx
    have HCR := Lib.hid hcr
    have hov2 : ∀ q, vr.ownBlock = some q → vb.ownBlock = some q ∨ w.heap.size ≤ q := fun q e => (hov q e).imp id (fun h => Nat.le_trans HBA.out.size h)
    have HOV2 := Lib.hid hov2
    have e3 : wr.cell? ⟨gh, 3, none⟩ = some (.slice o1 n1 c1) := by
      have e := hfx.block gh HGZ.out HNOT.out
      have e2 := HG3.out
      unfold World.cell? at e2 ⊢
      rw [e]; exact e2
    have e4 : wr.cell? ⟨gh, 4, none⟩ = some (.slice o2 n2 c2) := by
      have e := hfx.block gh HGZ.out HNOT.out
      have e2 := HG4.out
      unfold World.cell? at e2 ⊢
      rw [e]; exact e2
    have hgl : gh < wr.heap.size := Nat.lt_of_lt_of_le HGZ.out hfx.size
    have HGL := Lib.hid hgl
    have hi1 : IntsAt wr (.slice o1 n1 c1) (nls y.li) := by rw [hyl]; exact HD1.out wr hcr
    have HRD := Lib.hid (readR0 (.slice o1 n1 c1) y.li (hi1.up (below_drewN wr 1)) (Below.refl _ _) (hwk.rd.up (below_drewN wr 1)) l1 l2 l3 hs hyp)
    rw [← World.drew_is_drewN] at HRD
    unfold RetRead at HRD
    have c0 : wr.cell? ⟨gk, 0, none⟩ = some (.pointer (some ⟨gr, 0, none⟩)) := hwk.box.cell (by simp)
    have hg := hwk.lt.1
    have hne : some gk ≠ some gr := fun e => hwk.n1 (by injection e)
    have hne2 : some gh ≠ some gr := fun e => HNOT.out (.inr (.inl (by injection e)))
    clear hky hym hyl hyd hyf hys hwk hfx hov hpre hbig hio hmu hkp hcr hov2 hel hed hi1
    go_wp2_with (fail)
    refine wp_region_phases (fun w' => ∃ x, w' = chg wr (some gr) x) [([0,1,2,3,4,5],[6]), ([7,8,9,10,11],[])] (by kernel_rfl) (by kernel_rfl) (ex_chg (grown_drew _ _)) ?_
    (unfold wpPhases; simp only [pick, List.map_cons, List.map_nil, List.getD_cons_zero, List.getD_cons_succ])
    repeat (go_big_quiet_step (fail))
    refine wpQuiet_nil ?_
    unfold wpAct
    go_wp2_with (fail)
    (with_reducible refine HRD.out.mono ?_)
    rintro e w3 ⟨a, er, d, rfl, hrn, hb3, hg3⟩
    have HR3 := Lib.hid hrn
    have HG3' := Lib.hid (grown_trans (grown_drew wr (some gr)) hg3)
    have HW3 := Lib.hid (HW.out.read hb3 HG3'.out).1
    have HF3 := Lib.hid (HW.out.read hb3 HG3'.out).2
    clear hrn hb3 hg3
    go_wp2
    refine ⟨ex_chg HG3'.out, ?_⟩
    unfold wpAct
    (unfold wpPhases; simp only [pick, List.map_cons, List.map_nil, List.getD_cons_zero, List.getD_cons_succ])
    repeat (go_big_quiet_step (fail))
    refine wpQuiet_nil ?_
    unfold wpAct
    unfold wpPhases
    intro hz; clear hz
    obtain ⟨ra, re, rd⟩ := read_one HR3.out (readF_ok y.li (numS s / 2 ^ y.p) (8 * s.size - y.p))
    have hst := stepS_cod (pre := pre) (s := s) HYM.out
    unfold codI2 at hst
    rw [← ra, ← re, ← rd] at hst
    have HST := Lib.hid hst
    have HRL := Lib.hid (read_le HR3.out)
    have hra : a < 100000 := by
      rcases HR3.out with ⟨h1, -⟩ | ⟨-, h1, -⟩ <;> omega
    have HP3 : Hid (y.p + d ≤ 8 * s.size) := Lib.hid (by have := HRL.out; omega)
    have HCR3 : Hid (Fx (KSet gk gr vb) w w3) := Lib.hid (kfx_next HCR.out HOV2.out HF3.out)
    have HFX3 : Hid (Fx (KSet gk gr vb) w1 w3) := Lib.hid (kfx_next HFX.out HOV.out HF3.out)
    clear ra re rd hst HR3 HRD c0 e3 hne hne2 hg hgl
    by_cases her : er = 0
    · subst her
      rw [if_neg (fun h => h rfl)] at HST
      by_cases h256 : a = 256
      · rw [if_pos h256] at HST
        have hps := ps_ok HMM.out HKY.out (by rw [HYM.out]; decide) HST.out (by show ¬ M < y.h.length - pre; have := HBIG.out; have := HMM.out; omega)
        have HPS := Lib.hid hps
        subst h256
        clear hps
        go_wp2
        go_ret
        unfold RetBlk
        exact ⟨0, vr, y.p + d, kk + 1, closeI { y with p := y.p + d }, rfl, HW3.out, HPS.out, HP3.out, fun _ => ⟨rfl, by show (if y.fin then 3 else 0) = _; rw [HYY.out.2.2.1], HYY.out.2.2.2⟩, HCR3.out, HOV2.out⟩
      · rw [if_neg h256] at HST
        have h256i : ((a : Int) == 256) = false := by simp; omega
        by_cases hgt : 256 < a
        · rw [if_pos hgt] at HST
          have hna : ¬ (a : Int) < 256 := by omega
          have hps := ps_next HKY.out (by rw [HYM.out]; decide)
          rw [HST.out] at hps
          have HCP := Lib.hid (copiedK (v := .slice o2 n2 c2) HW3.out HP3.out (fun W hf => by rw [HYY.out.2.1]; exact HD2.out W (kfx_next HCR3.out HOV2.out hf)) HED.out HPRE.out HBIG.out hp2 hs hra)
          unfold RetCp at HCP
          have hkeep := cpyI_keep (N := numS s) (T := 8 * s.size) (s := a) (p := y.p + d) (z := y)
          have hkeep2 := cpyI_more (N := numS s) (T := 8 * s.size) (s := a) (p := y.p + d) (z := y)
          have hz := bigI_zero (pre := pre) (y := cpyI (numS s) (8 * s.size) y a (y.p + d))
          generalize cpyI (numS s) (8 * s.size) y a (y.p + d) = C at *
          generalize bigI pre C = Y at *
          obtain ⟨e5, y5⟩ := Y
          simp only at HCP hz
          have HPS := Lib.hid hps
          have HKP := Lib.hid hkeep
          have HKP2 := Lib.hid hkeep2
          have HZ := Lib.hid hz
          have hnotr : ¬ KSet gk gr vr gh := fun e => by
            rcases e with e | e | e
            · exact HNOT.out (.inl e)
            · exact HNOT.out (.inr (.inl e))
            · rcases HOV.out gh e with q | q
              · exact HNOT.out (.inr (.inr q))
              · have := HGZ.out; omega
          have e43 : w3.cell? ⟨gh, 4, none⟩ = some (.slice o2 n2 c2) := (HF3.out.cell HGL.out hnotr).trans e4
          have hgl3 : gh < w3.heap.size := Nat.lt_of_lt_of_le HGL.out HF3.out.size
          clear hps hkeep hkeep2 hz e4 hnotr
          by_cases he5 : e5 = 0
          · subst he5
            go_wp2_with ((with_reducible go_at_call 34); (with_reducible refine HCP.out.mono ?_); rintro e w4 ⟨vb2, p5, rfl, hw4, hp5, hpe, hf4, ho4⟩; have HW4 := Lib.hid hw4; have HPE := Lib.hid hpe; have HFX4 := Lib.hid (kfx_next HFX3.out HOV.out hf4); have HO4 := Lib.hid (own_next HOV.out HFX3.out.size ho4); clear hw4 hp5 hpe hf4 ho4)
            go_roundg (N + 1 - (kk + 1))
            case measure => omega
            case rel =>
              have hC := HZ.out (by trivial)
              have q5 := HPE.out (by trivial)
              obtain ⟨k1, k2, k3⟩ := HKP.out
              obtain ⟨k4, k5⟩ := HKP2.out
              rw [← hC] at k1 k2 k3 k4 k5
              refine ⟨kk + 1, y5, vb2, HPS.out, k4.trans HYM.out, k2.trans HYY.out.1, k3.trans HYY.out.2.1, k5.trans HYY.out.2.2.1, k1.trans HYY.out.2.2.2, ?_, HFX4.out, HO4.out, rfl⟩
              rw [← q5]; exact HW4.out
          · have he5' : ((e5 : Int) == 0) = false := by simpa using he5
            go_wp2_with ((with_reducible go_at_call 34); (with_reducible refine HCP.out.mono ?_); rintro e w4 ⟨vb2, p5, rfl, hw4, hp5, hpe, hf4, ho4⟩; have HW4 := Lib.hid hw4; have HP5 := Lib.hid hp5; have HFX4 := Lib.hid (kfx_next HCR3.out HOV2.out hf4); have HO4 := Lib.hid (own_next HOV2.out HCR3.out.size ho4); clear hw4 hp5 hpe hf4 ho4)
            go_ret
            unfold RetBlk
            exact ⟨e5, vb2, p5, kk + 1, y5, rfl, HW4.out, HPS.out, HP5.out, fun e => absurd e he5, HFX4.out, HO4.out⟩
        · rw [if_neg hgt] at HST
          have hla : (a : Int) < 256 := by omega
          have ha8 : a < 256 := by omega
          have ham : (a : Int) % 256 = (a : Nat) := by omega
          have HPT := Lib.hid (putK HW3.out HPRE.out hp2 HBIG.out a ha8)
          unfold RetPut at HPT
          rw [← HMM.out] at HPT
          clear hgt e4
          by_cases hrm : y.h.length - pre < M
          · rw [decide_eq_true hrm, if_pos hrm] at HPT
            have hps := ps_ok HMM.out HKY.out (by rw [HYM.out]; decide) HST.out (by show ¬ M < (y.h ++ [UInt8.ofNat a]).length - pre; rw [List.length_append, List.length_singleton]; have := HPRE.out; omega)
            have HPS := Lib.hid hps
            clear hps hrm
            go_wp2_with ((with_reducible go_at_call 32); (try rw [ham]); (with_reducible refine HPT.out.mono ?_); rintro e w4 ⟨vb2, rfl, hw4, hf4, ho4⟩; have HW4 := Lib.hid hw4; have HFX4 := Lib.hid (kfx_next HFX3.out HOV.out hf4); have HO4 := Lib.hid (own_next HOV.out HFX3.out.size ho4); clear hw4 hf4 ho4)
            go_roundg (N + 1 - (kk + 1))
            case measure => omega
            case rel => exact ⟨kk + 1, _, vb2, HPS.out, HYM.out, HYY.out.1, HYY.out.2.1, HYY.out.2.2.1, HYY.out.2.2.2, HW4.out, HFX4.out, HO4.out, rfl⟩
          · rw [decide_eq_false hrm, if_neg hrm] at HPT
            have hln : (y.h ++ [UInt8.ofNat a]).length = y.h.length + 1 := by rw [List.length_append, List.length_singleton]
            have hps := ps_big HMM.out HKY.out (by rw [HYM.out]; decide) HST.out (by show M < (y.h ++ [UInt8.ofNat a]).length - pre; have := HPRE.out; omega)
            have htk : (y.h ++ [UInt8.ofNat a]).take (pre + M) = y.h := by
              rw [List.take_append_of_le_length (by have := HPRE.out; have := HBIG.out; have := HMM.out; omega), List.take_of_length_le (by have := HPRE.out; have := HBIG.out; have := HMM.out; omega)]
            have HPS := Lib.hid hps
            have HTK := Lib.hid htk
            clear hps hrm hln htk
            go_wp2_with ((with_reducible go_at_call 32); (try rw [ham]); (with_reducible refine HPT.out.mono ?_); rintro e w4 ⟨vb2, rfl, hw4, hf4, ho4⟩; have HW4 := Lib.hid hw4; have HFX4 := Lib.hid (kfx_next HCR3.out HOV2.out hf4); have HO4 := Lib.hid (own_next HOV2.out HCR3.out.size ho4); clear hw4 hf4 ho4)
            go_ret
            unfold RetBlk
            refine ⟨3, vb2, y.p + d, kk + 1, _, rfl, ?_, HPS.out, HP3.out, fun e => absurd e (by decide), HFX4.out, HO4.out⟩
            show WorkV _ _ _ _ _ _ _ ((y.h ++ [UInt8.ofNat a]).take (pre + M)) _
            rw [HTK.out]; exact HW4.out
    · rw [if_pos her] at HST
      have her' : ((er : Int) == 0) = false := by simpa using her
      have hps := ps_err HKY.out (by rw [HYM.out]; decide) (by rw [HST.out]) her
      have HPS := Lib.hid hps
      clear hps
      go_wp2
      go_ret
      unfold RetBlk
      exact ⟨er, vr, y.p + d, kk + 1, y, rfl, HW3.out, HPS.out, HP3.out, fun e => absurd e her, HCR3.out, HOV2.out⟩
end Go.Cm

/- The walks of what tells whether ops, and parts, are alike. Conditions: both read as the same list. -/
namespace Go.Cm
open Go.RowKit Go.Proofs

theorem part_i64 (W : World) (A : Array Value) (o : Nat) (v : Int) (h : A[o]? = some (.int .i64 v)) : (part 3 A o).run Tryz.prog W = .ok (.int .i64 v) W := by
  unfold part
  have h1 : (isAgg 3).run Tryz.prog W = .ok false W := by unfold isAgg; rw [Sem.run_bind, run_underlying Tryz.underlying3]; rfl
  rw [Sem.run_bind, h1]
  simp only [Result.andThen_ok, h]; rfl
end Go.Cm

/- The walks of what turns beginnings to the document's make, and of what tells whether they are alike. Conditions: the lists read as one. -/
namespace Go.Cm
open Go.RowKit Go.Proofs

set_option maxRecDepth 100000 in
set_option maxHeartbeats 1000000 in
/-- beginnings, as the document has them -/
theorem startsLn {w : World} {v : Value} {l : List (Nat × Nat)} (h : SlK 2 w v (l.map stC)) (hlen : l.length ≤ 100000000) : Calls Tryz.prog 10 #[v] w fun e w' => ∃ v', e = .returned v' ∧ OwnK 2 w' w.heap.size 63 v' (l.map stC) ∧ Below w.heap.size w w' := by
  obtain ⟨cs, hcs⟩ : ∃ cs, cs = l.map stC := ⟨_, rfl⟩
  have hrw0 : ∀ i (hi : i < cs.length), ∃ a b : Nat, cs[i] = [.int .i64 a, .int .i64 b] := fun i hi => by
    subst hcs
    rw [List.getElem_map]
    exact ⟨_, _, rfl⟩
  have hlen' : cs.length ≤ 100000000 := by rw [hcs, List.length_map]; exact hlen
  rw [← hcs] at h ⊢
  clear hcs hlen
  obtain ⟨oa, cap, bl, off, rfl, hd, hc⟩ := h
  have hix := index_anyK (P := Tryz.prog) 2 24 49 Tryz.underlying24 (by kernel_rfl) hd
  have HC := Lib.hid hc
  have HBL := Lib.hid hd.hblk
  have hm := hd.len
  have HCS := Lib.hid hrw0
  clear hd hc hrw0
  go_enter Tryz.func10, Tryz.ntmps10
  go_wp2
  go_loopg [3, 4] (cs.length + 1) (fun gk vo iv wr => ∃ k : Nat, iv = .int .i64 k ∧ k ≤ cs.length ∧ OwnK 2 wr w.heap.size 63 vo (cs.take k) ∧ Below w.heap.size w wr ∧ gk = cs.length + 1 - k)
  case atStart => exact ⟨0, rfl, Nat.zero_le _, OwnK.nil _ _ _ _, Below.refl _ _, rfl⟩
  case round =>
    obtain ⟨k, rfl, hk, hown, hbel, rfl⟩ := hrel
    have HO := Lib.hid hown
    have HW := Lib.hid hbel
    have hsz := hbel.size
    clear hown hbel
    by_cases hlt : k < cs.length
    · have hlti : decide (k < cs.length) = true := by rw [decide_eq_true_iff]; omega
      have hbl := HBL.out (by omega)
      have hblr : bl < wr.heap.size := by omega
      obtain ⟨p, q, hrow⟩ := HCS.out k hlt
      have hix2 := fun W kd => hix W kd (k : Int) (by omega) (by omega)
      simp only [Int.toNat_natCast] at hix2
      have hgd : cs.getD k [] = [.int .i64 p, .int .i64 q] := by
        rw [← hrow]; simp [List.getD, hlt]
      have hcell : ∀ c, c < 2 → wr.cell? ⟨bl, off + k * 2 + c, none⟩ = some (([.int .i64 p, .int .i64 q] : List Value).getD c undef) := fun c hc => by
        rw [HW.out.cell (p := ⟨bl, off + k * 2 + c, none⟩) hbl, HC.out k hlt c hc, hgd]
      have e0 : wr.cell? ⟨bl, off + k * 2, none⟩ = some (.int .i64 p) := hcell 0 (by decide)
      have e1 : wr.cell? ⟨bl, off + k * 2 + 1, none⟩ = some (.int .i64 q) := hcell 1 (by decide)
      have HTK : Hid (cs.take (k + 1) = cs.take k ++ [[.int .i64 p, .int .i64 q]]) := Lib.hid (by rw [List.take_succ_eq_append_getElem hlt, hrow])
      obtain ⟨row, hrw⟩ : ∃ row, row = u3.ownBlock := ⟨_, rfl⟩
      have HROW := Lib.hid hrw
      have hne : some bl ≠ row := fun e => by have := (HO.out.lt bl (by rw [← hrw, ← e])).1; omega
      have hw0 : w.heap.size ≤ wr.drew.heap.size := hsz
      have HT4 : Hid (w.heap.size ≤ (wr.drew.alloc (.cells #[.int .i64 p, .int .i64 q] 63)).heap.size) := Lib.hid (Nat.le_trans hw0 (below_alloc wr.drew _).size)
      have HTO := Lib.hid ((HO.out.up (b_drew1 (Below.refl _ _))).up (below_alloc wr.drew (.cells #[.int .i64 p, .int .i64 q] 63)))
      have hsl := slK_lit 2 wr.drew #[.int .i64 p, .int .i64 q] 63 [[.int .i64 p, .int .i64 q]] rfl (by intro x hx; simp at hx; subst hx; rfl) (by simp)
      have HSL : Hid (SlK 2 (wr.drew.alloc (.cells #[.int .i64 p, .int .i64 q] 63)) (.slice (some ⟨wr.heap.size, 0, none⟩) 1 1) [[.int .i64 p, .int .i64 q]]) := Lib.hid (by simpa using hsl)
      have HK5 : Hid (∀ x ∈ [[Value.int .i64 p, .int .i64 q]], x.length = 2) := Lib.hid (by intro x hx; simp at hx; subst hx; rfl)
      have H1C : Hid (∀ u ∈ [[Value.int .i64 p, .int .i64 q]].flatten, u.oneCell' = true) := Lib.hid (by intro u hu; simp at hu; rcases hu with rfl | rfl <;> rfl)
      have HLN : Hid ((cs.take k).length + [[Value.int .i64 p, .int .i64 q]].length ≤ 1000000000) := Lib.hid (by rw [List.length_take, List.length_singleton]; omega)
      clear hcell hgd hrow hix hrw hsl hw0
      go_wp2
      refine wp_region_tail (fun w' => ∃ x, w' = chg wr row x) [0,1,2,3,4,5,6,7,8,9,10,11] [12,13] [14] (by kernel_rfl) (by kernel_rfl) (ex_chg (grown_drew _ _)) ?_
      simp only [pick, List.map_cons, List.map_nil, List.getD_cons_zero, List.getD_cons_succ]
      repeat (go_big_quiet_step (fail))
      refine wpQuiet_nil ?_
      (unfold wpAct; go_wp2; refine ⟨ex_chg (grown_below (by repeat (first | exact Below.refl _ _ | assumption | refine b_drewN ?_ _ | refine Below.drew ?_ | refine b_ext' ?_ _ | refine b_alloc' ?_ _)) _), ?_⟩)
      unfold wpAct
      go_wp2_with (at_builtin; refine wpList_appL 2 rfl (.tmp 11) (.tmp 23) 28 rfl w.heap.size 63 (.agg #[.int .i64 0, .int .i64 0]) 16 Tryz.underlying28 (by kernel_rfl) rfl (by decide) (by decide) u3 _ rfl HTO.out _ _ rfl HSL.out HK5.out H1C.out HLN.out HT4.out ?_; intro v' w5 hown1 hg1 hk1; rw [← HROW.out] at hg1; have HO1 := Lib.hid hown1; have HG1 := Lib.hid hg1; clear hown1 hg1 hk1)
      refine ⟨ex_chg (grown_trans (grown_below (by repeat (first | exact Below.refl _ _ | assumption | refine b_drewN ?_ _ | refine Below.drew ?_ | refine b_ext' ?_ _ | refine b_alloc' ?_ _)) _) HG1.out), ?_⟩
      unfold wpAct
      have HB5 : Hid (Below w.heap.size w w5) := Lib.hid ((b_drew1 (HW.out.alloc hsz (.cells #[.int .i64 p, .int .i64 q] 63))).grown HG1.out HT4.out (fun q e => (HO.out.lt q (by rw [← HROW.out]; exact e)).1))
      unfold wpAct
      go_wp2
      refine ⟨trivial, ?_⟩
      unfold wpAct
      go_wp2
      go_roundg (cs.length + 1 - (k + 1))
      case measure => omega
      case rel => exact ⟨k + 1, by go_num, by omega, by rw [HTK.out]; exact HO1.out, HB5.out, rfl⟩
    · have hlti : decide (k < cs.length) = false := by rw [decide_eq_false_iff_not]; omega
      obtain rfl : k = cs.length := by omega
      go_wp2
      go_ret
      refine ⟨u3, rfl, ?_, HW.out⟩
      have h := HO.out
      rwa [List.take_length] at h
def sA (a b : Int) : Array Value := #[.int .i64 a, .int .i64 b]
theorem run_equal_st (W : World) (a n a' n' : Int) : (Op.equalIn 10000 63 (.agg (sA a n)) (.agg (sA a' n'))).run Tryz.prog W = .ok (decide (a = a' ∧ n = n')) W := by
  have hu : Tryz.prog.underlying 63 = some (.struct (Tryz.prog.fieldsOf 63)) := by simp only [Program.fieldsOf, Tryz.underlying63]
  rw [run_equalIn_struct W 9999 63 _ _ hu (by kernel_rfl)]
  simp only [Program.fieldsOf, Tryz.underlying63]
  have p0 := fun (W : World) (a n : Int) => part_i64 W (sA a n) 0 a rfl
  have p1 := fun (W : World) (a n : Int) => part_i64 W (sA a n) 1 n rfl
  have ei : ∀ (a b : Int) (W : World), (Op.equalIn 9999 3 (.int .i64 a) (.int .i64 b)).run Tryz.prog W = .ok (a == b) W := fun a b W => run_equalIn_int W 9998 3 .i64 .i64 a b Tryz.underlying3
  simp only [Op.eqFields, ne_eq, String.reduceEq, not_false_eq_true, if_true, Sem.run_bind, Sem.run_ite, Sem.run_pure, p0, p1, Result.andThen_ok, ei]
  have hd : decide (a = a' ∧ n = n') = (a == a' && n == n') := by
    rw [Bool.eq_iff_iff, decide_eq_true_iff]
    simp only [Bool.and_eq_true, beq_iff_eq]
  rw [hd]
  generalize (a == a') = b1
  generalize (n == n') = b2
  cases b1 <;> cases b2 <;> rfl
theorem cmp_st (W : World) (a n a' n' : Int) : (binOp .neq 63 (.agg #[.int .i64 a, .int .i64 n]) (.agg #[.int .i64 a', .int .i64 n'])).run Tryz.prog W = .ok (.bool (!decide (a = a' ∧ n = n'))) W := by
  have h := run_equal_st W a n a' n'
  rw [run_neq_struct]
  unfold sA at h
  rw [h]; rfl
theorem eqGuard_st (W : World) (o : BinOp) (x y : Operand) (X Y : Array Value) : (eqGuard o 63 x y (.agg X) (.agg Y)).run Tryz.prog W = .ok () W := run_eqGuard_agg W o 63 x y X Y (by kernel_rfl)
set_option maxRecDepth 100000 in
set_option maxHeartbeats 4000000 in
theorem startsSame {w : World} {v1 v2 : Value} {l : List (Nat × Nat)} (h1 : SlK 2 w v1 (l.map stC)) (h2 : SlK 2 w v2 (l.map stC)) : Calls Tryz.prog 9 #[v1, v2] w fun e w' => e = .returned (.bool true) ∧ ∃ x, w' = ext w x := by
  obtain ⟨oa, ca, ba, fa, rfl, hda, hca⟩ := h1
  obtain ⟨ob, cb, bb, fb, rfl, hdb, hcb⟩ := h2
  rw [List.length_map] at hda hca hdb hcb
  have hm := hda.len
  have hgd : ∀ i (hi : i < l.length), ∃ a b : Nat, (l.map stC).getD i [] = [.int .i64 a, .int .i64 b] := fun i hi => ⟨(l[i]).1, (l[i]).2, by simp [List.getD, hi, stC]⟩
  have HCA := Lib.hid hca
  have HCB := Lib.hid hcb
  have HDA := Lib.hid hda
  have HDB := Lib.hid hdb
  have HGD := Lib.hid hgd
  have cm := cmp_st
  have eg := eqGuard_st
  rw [List.length_map]
  clear hda hca hdb hcb hgd
  generalize l.map stC = cs at *
  go_enter Tryz.func9, Tryz.ntmps9
  go_wp2
  go_loopg [5] (l.length + 1) (fun gk iv wr => ∃ k : Nat, iv = .int .i64 k ∧ k ≤ l.length ∧ (∃ x, wr = ext w x) ∧ gk = l.length + 1 - k)
  case atStart => exact ⟨0, rfl, Nat.zero_le _, (ex_ext (by repeat (first | exact Below.refl _ _ | assumption | refine b_drewN ?_ _ | refine Below.drew ?_ | refine b_ext' ?_ _ | refine b_alloc' ?_ _))), rfl⟩
  case round =>
    obtain ⟨k, rfl, hk, hbl, rfl⟩ := hrel
    have HBL := Lib.hid (below_ext hbl)
    clear hbl
    by_cases hlt : k < l.length
    · have hlti : decide (k < l.length) = true := by rw [decide_eq_true_iff]; omega
      have hixa := fun W kd => index_anyK (P := Tryz.prog) 2 28 63 Tryz.underlying28 (by kernel_rfl) HDA.out W kd (k : Int) (by omega) (by omega)
      have hixb := fun W kd => index_anyK (P := Tryz.prog) 2 28 63 Tryz.underlying28 (by kernel_rfl) HDB.out W kd (k : Int) (by omega) (by omega)
      simp only [Int.toNat_natCast] at hixa hixb
      have HBA := Lib.hid (HDA.out.hblk (by omega))
      have HBB := Lib.hid (HDB.out.hblk (by omega))
      have HKA := Lib.hid (HCA.out k hlt)
      have HKB := Lib.hid (HCB.out k hlt)
      obtain ⟨a, n, hg⟩ := HGD.out k hlt
      rw [hg] at HKA HKB
      clear hg
      have HQA : Hid (∀ w', (∃ x, w' = ext wr x) → ∀ c, c < 2 → w'.cell? ⟨ba, fa + k * 2 + c, none⟩ = some ((#[.int .i64 a, .int .i64 n] : Array Value).getD c undef)) := Lib.hid (fun w' hw' c hc => by
        rw [(HBL.out.trans ((below_ext hw').mono HBL.out.size)).cell (p := ⟨ba, fa + k * 2 + c, none⟩) HBA.out, HKA.out c hc]
        rcases (show c = 0 ∨ c = 1 by omega) with rfl | rfl <;> rfl)
      have HQB : Hid (∀ w', (∃ x, w' = ext wr x) → ∀ c, c < 2 → w'.cell? ⟨bb, fb + k * 2 + c, none⟩ = some ((#[.int .i64 a, .int .i64 n] : Array Value).getD c undef)) := Lib.hid (fun w' hw' c hc => by
        rw [(HBL.out.trans ((below_ext hw').mono HBL.out.size)).cell (p := ⟨bb, fb + k * 2 + c, none⟩) HBB.out, HKB.out c hc]
        rcases (show c = 0 ∨ c = 1 by omega) with rfl | rfl <;> rfl)
      go_wp2_with (fail)
      refine wp_region_ext (by kernel_rfl) (by kernel_rfl) ?_
      repeat (first
        | (go_big_quiet_want; refine quiet_load_cells 63 2 _ rfl ba (fa + k * 2) rfl #[.int .i64 a, .int .i64 n] rfl HQA.out _ Tryz.underlying63 rfl (by kernel_rfl) ?_; go_simp; go_big_quiet_on)
        | (go_big_quiet_want; refine quiet_load_cells 63 2 _ rfl bb (fb + k * 2) rfl #[.int .i64 a, .int .i64 n] rfl HQB.out _ Tryz.underlying63 rfl (by kernel_rfl) ?_; go_simp; go_big_quiet_on)
        | go_big_quiet_step (fail))
      refine wpQuiet_nil ?_
      intro w7 hw7
      have HB7 := Lib.hid (HBL.out.trans ((below_ext hw7).mono HBL.out.size))
      clear hw7 HQA HQB
      go_wp2
      go_roundg (l.length + 1 - (k + 1))
      case measure => omega
      case rel => exact ⟨k + 1, by go_num, by omega, ex_ext HB7.out, rfl⟩
    · have hlti : decide (k < l.length) = false := by rw [decide_eq_false_iff_not]; omega
      go_wp2
      go_ret
      exact ⟨rfl, ex_ext HBL.out⟩
end Go.Cm
