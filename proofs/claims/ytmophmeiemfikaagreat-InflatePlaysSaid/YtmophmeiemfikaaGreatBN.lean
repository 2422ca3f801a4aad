/- Texts of this claim, joined: walks of small functions and plain facts about them. Conditions: as each says. -/
import Derived.Test.YtmophmeiemfikaaGreatBM
import Derived.Test.YtmophmeiemfikaaGreatRows
import Derived.WalkKit
import Derived.WalkSpells
import Derived.WalkLawsBesides
import Derived.Deep.QuietTactic
import Derived.BigQuiet
import Derived.Lib.Hide
import Derived.Laws.Small
import Derived.Deep.LoopGhost
import Derived.Laws.BitsLemmas
import Derived.Deep.DeepCutAuto
import Derived.Deep.CutBlock
import Derived.Deep.CutRange
import Derived.Laws.IdiomStrings
import Derived.Laws.CopyOwn
import Derived.Laws.EntriesVeiled
/- The walks of the window: a new one, a copy, the last bytes, a twin. Conditions: the window is there. -/
namespace Go.Cm
open Go.RowKit Go.Proofs

theorem WinV.B {w : World} {B gw : Nat} {vb : Value} {b : Byts} (h : WinV w B gw vb b) : B ≤ gw ∧ gw < w.heap.size := h.box.blk
/-- a new window -/
theorem newWn (s : ByteArray) (hs : s.size ≤ 50000000) (w : World) : Calls Tryz.prog 23 #[.string s] w fun e w' => ∃ gw vb, e = .returned (.pointer (some ⟨gw, 0, none⟩)) ∧ WinAt w' w.heap.size gw vb (bys s) ∧ w.heap.size ≤ gw ∧ gw < w'.heap.size ∧ Below w.heap.size w w' := by
  have hw1 : WinAt (w.alloc (.cells #[.bool true, .slice none 0 0] 88)) w.heap.size w.heap.size (.slice none 0 0) [] := by
    have h := own_lit w w.heap.size #[.bool true, .slice none 0 0] 88 (by simp) (Nat.le_refl _)
    exact ⟨[], ⟨by simpa using h, Own.nil _ _ _, by simp [Value.ownBlock]⟩, rfl, by simp⟩
  have HP := Lib.hid (putWn hw1 (below_alloc w _).size s hs)
  have HA := Lib.hid (below_alloc w (.cells #[.bool true, .slice none 0 0] 88))
  clear hw1
  go_enter Tryz.func23, Tryz.ntmps23
  go_wp2_with (first | ((with_reducible go_at_call 35); (with_reducible refine HP.out.mono ?_); rintro e w7 ⟨rfl, v7, hw7, ho7, hf7⟩; have HW7 := Lib.hid hw7; have HO7 := Lib.hid ho7; have HF7 := Lib.hid hf7; clear hw7 ho7 hf7))
  go_ret
  refine ⟨_, v7, rfl, by simpa using HW7.out, Nat.le_refl _, ?_, ?_⟩
  · obtain ⟨b, h, -⟩ := HW7.out
    exact h.B.2
  · exact HF7.out.below HA.out HA.out.size (fun k e => by
      rcases e with e | e
      · omega
      · simp [Value.ownBlock] at e)
/-- what a copy answers -/
def RetCopy (B gw : Nat) (vb : Value) (H : Byts) (d n : Nat) (w : World) (e : Ending) (w' : World) : Prop :=
  if min H.length 32768 < d then e = .returned (.tuple #[.string ⟨#[]⟩, .int .i64 10]) ∧ w' = w
  else ∃ c vb', e = .returned (.tuple #[.string ⟨c.toArray⟩, .int .i64 0]) ∧ copyN H d n = H ++ c ∧ c.length = n ∧ WinAt w' B gw vb' (H ++ c) ∧ (∀ k, vb'.ownBlock = some k → vb.ownBlock = some k ∨ w.heap.size ≤ k) ∧ WFx gw vb w w'
set_option maxRecDepth 100000 in
set_option maxHeartbeats 4000000 in
theorem copyWn {w : World} {B gw : Nat} {vb : Value} {H : Byts} (h : WinAt w B gw vb H) (hB : B ≤ w.heap.size) (d n : Nat) (hd1 : 1 ≤ d) (hd2 : d ≤ 40000) (hn : n ≤ 65536) : Calls Tryz.prog 99 #[.pointer (some ⟨gw, 0, none⟩), .int .i64 (d : Nat), .int .i64 (n : Nat)] w (RetCopy B gw vb H d n w) := by
  have HL0 := Lib.hid (lenWn h)
  obtain ⟨b, hV, hl, hm⟩ := h
  have HT := Lib.hid (thereWn hV)
  have HV := Lib.hid hV
  have HL := Lib.hid hl
  have HB := Lib.hid hB
  have HN := Lib.hid hn
  have hn1 : decide ((n : Int) < 0) = false := by rw [decide_eq_false_iff_not]; omega
  have hn2 : decide ((n : Int) > 65536) = false := by rw [decide_eq_false_iff_not]; omega
  have hd3 : decide ((d : Int) < 1) = false := by rw [decide_eq_false_iff_not]; omega
  unfold RetCopy
  by_cases hbig : min H.length 32768 < d
  · simp only [if_pos hbig]
    generalize min H.length 32768 = k at *
    have hbi : (d : Int) > (k : Int) := by omega
    clear hV hl hB hn hd2 hm hbig
    go_enter Tryz.func99, Tryz.ntmps99
    go_wp2_with (first | ((with_reducible go_at_call 40); (with_reducible refine HT.out.mono ?_); rintro e w' ⟨rfl, hw⟩; rw [hw]; clear hw) | ((with_reducible go_at_call 66); (with_reducible refine HL0.out.mono ?_); rintro e w' ⟨rfl, hw⟩; rw [hw]; clear hw))
    go_ret2
    exact ⟨rfl, rfl⟩
  · simp only [if_neg hbig]
    have hdH : d ≤ H.length ∧ d ≤ 32768 := by omega
    have hdb : d ≤ b.length := by have := lastN_min hl; omega
    obtain ⟨C, hc1, hc2, hc3⟩ := copy_same hl hd1 hdH.1 hdH.2 n
    have HC1 := Lib.hid hc1
    have HC2 := Lib.hid hc2
    have HC3 := Lib.hid hc3
    have HDB := Lib.hid hdb
    have HM := Lib.hid hm
    generalize min H.length 32768 = k at *
    have hbi : decide (k < d) = false := by rw [decide_eq_false_iff_not]; omega
    obtain ⟨o0, k0, q0, hv0, -⟩ := hV.own.cases
    rw [bytesV_length] at hv0
    have c1 : w.cell? ⟨gw, 1, none⟩ = some vb := hV.box.cell (by simp)
    have hgw := hV.box.blk.2
    have HVB := Lib.hid hv0
    rw [hv0] at c1
    clear hV hl hB hdb hdH hbig hc1 hc2 hc3 hm hv0 hn hd2
    go_enter Tryz.func99, Tryz.ntmps99
    go_wp2_with (first | ((with_reducible go_at_call 40); (with_reducible refine HT.out.mono ?_); rintro e w' ⟨rfl, hw⟩; rw [hw]; clear hw) | ((with_reducible go_at_call 66); (with_reducible refine HL0.out.mono ?_); rintro e w' ⟨rfl, hw⟩; rw [hw]; clear hw))
    go_loopg [9] (n + 1) (fun gk lv wr => ∃ (i : Nat) (vi : Value), lv = .int .i64 ((n - i : Nat) : Int) ∧ i ≤ n ∧ WinV wr B gw vi (copyN b d i) ∧ (∀ k, vi.ownBlock = some k → vb.ownBlock = some k ∨ w.heap.size ≤ k) ∧ WFx gw vb w wr ∧ gk = n - i + 1)
    case atStart => exact ⟨0, vb, rfl, Nat.zero_le _, HV.out, fun k e => .inl e, Fx.refl _ _, rfl⟩
    case round =>
      obtain ⟨i, vi, rfl, hi, hvi, hki, hfi, rfl⟩ := hrel
      have HVI := Lib.hid hvi
      have HKI := Lib.hid hki
      have HFI := Lib.hid hfi
      have HSZ : Hid (B ≤ wr.heap.size) := Lib.hid (Nat.le_trans HB.out hfi.size)
      obtain ⟨ci, hci1, hci2⟩ := copyN_app b d i
      have hxl : (copyN b d i).length = b.length + i := by rw [hci1, List.length_append, hci2]
      obtain ⟨ox, kx, qx, hvx, hdx, -⟩ := hvi.own.cases
      rw [bytesV_length] at hvx hdx
      have hmx := hdx.len
      have c1 : wr.cell? ⟨gw, 1, none⟩ = some vi := hvi.box.cell (by simp)
      have f1 := hvi.box.free 1
      have g1 := hvi.box.blk.2
      have HPC : Hid (∀ m, m ≤ d → m ≤ n - i → copyN b d (i + m) = copyN b d i ++ ((copyN b d i).drop ((copyN b d i).length - d)).take m) := Lib.hid (fun m h1 _ => by
        rw [copyN_add, copy_piece (by rw [hxl]; have := HDB.out; omega) m h1])
      have hdx' : d ≤ (copyN b d i).length := by rw [hxl]; have := HDB.out; omega
      have HXL : Hid ((copyN b d i).length ≤ 131072 + 65536) := Lib.hid (by rw [hxl]; have := HM.out; have := HN.out; omega)
      clear hki hfi hci1 hci2 hxl
      obtain ⟨x, hx⟩ : ∃ x, x = copyN b d i := ⟨_, rfl⟩
      rw [← hx] at HPC hdx' hvi HVI hvx hdx hmx HXL
      have HX := Lib.hid hx
      clear hx
      subst hvx
      by_cases hlt : i < n
      · obtain ⟨r, hr⟩ : ∃ r, r = n - i := ⟨_, rfl⟩
        rw [← hr] at HPC ⊢
        have hr0 : 0 < r := by omega
        obtain ⟨n1, hn1⟩ : ∃ n1, n1 = x.length - d := ⟨_, rfl⟩
        have hni : (x.length : Int) - (d : Int) = (n1 : Nat) := by omega
        obtain ⟨m, hm⟩ : ∃ m, m = min r d := ⟨_, rfl⟩
        have hm2 : m ≤ r := by omega
        obtain ⟨u, hu, huS⟩ := hvi.own.sl.high (P := Tryz.prog) 54 5 Tryz.underlying54 (by kernel_rfl) n1 (by rw [bytesV_length]; omega)
        rw [bytesV_drop] at huS
        obtain ⟨u2, hu2, hu2S⟩ := huS.low (P := Tryz.prog) 54 5 Tryz.underlying54 (by kernel_rfl) m (by rw [bytesV_length, List.length_drop]; omega)
        rw [bytesV_take] at hu2S
        have hpl : ((x.drop n1).take m).length = m := by rw [List.length_take, List.length_drop]; omega
        obtain ⟨o2, k2, b2, f2, hv2, hd2, -⟩ := id hu2S
        rw [bytesV_length, hpl] at hv2 hd2
        have hml := hd2.len
        have HSL := Lib.hid hu2S
        obtain ⟨ou, ku, bu, fu, hvu, -⟩ := id huS
        rw [bytesV_length, List.length_drop, show x.length - n1 = d by omega] at hvu
        have HE : Hid (x ++ (x.drop n1).take m = copyN b d (i + m)) := Lib.hid (by rw [hn1]; exact (HPC.out m (by omega) hm2).symm)
        have HLP : Hid ((bytesV x).length + (bytesV ((x.drop n1).take m)).length ≤ 4294967296) := Lib.hid (by rw [bytesV_length, bytesV_length, hpl]; have := HXL.out; have := HN.out; omega)
        have HMM := Lib.hid hm
        have hrm : (r : Int) - (m : Int) = ((r - m : Nat) : Int) := by omega
        have HM1 : Hid (1 ≤ m) := Lib.hid (by omega)
        have HR := Lib.hid hr
        have HPL := Lib.hid hpl
        clear hu2S huS hdx hd2 HPC hn1 hm hr hpl hvi hdx'
        subst hv2
        subst hvu
        have HU2 := Lib.hid hu2
        clear hu2
        go_wp2_with (fail)
        refine wp_region_ext (by kernel_rfl) (by kernel_rfl) ?_
        repeat (go_big_quiet_step (fail))
        refine wpQuiet_nil ?_
        rintro w1 ⟨y, rfl⟩
        have HB1 := Lib.hid (ext_below wr y)
        have HV1 := Lib.hid (HVI.out.up HB1.out)
        have HS1 := Lib.hid (HSL.out.up HB1.out)
        have HZ1 : Hid (B ≤ (ext wr y).heap.size) := Lib.hid (Nat.le_trans HSZ.out HB1.out.size)
        generalize ext wr y = w1 at *
        have c1 : w1.cell? ⟨gw, 1, none⟩ = some (.slice ox x.length kx) := HV1.out.box.cell (by simp)
        have g1 := HV1.out.box.blk.2
        go_wp2_with (first | ((with_reducible show wpList _ _ _ (Oper.mk _ (.call _) _ _ _ _ :: _) _ _); refine wpList_min_by rfl (.tmp 54) (.tmp 55) 3 3 rfl r d m rfl rfl HMM.out ?_) | ((with_reducible show wpList _ _ _ (Oper.mk _ (.slice _ _ _ _ _) _ _ _ _ :: _) _ _); refine wpList_slice_by rfl 54 (.tmp 53) none (some (.tmp 56)) none rfl _ (HU2.out _) ?_) | (at_builtin; go_loud (refine wpList_app rfl (.tmp 62) (.tmp 63) 54 rfl B 5 (.int .u8 0) 1 Tryz.underlying54 (by kernel_rfl) rfl (by decide) _ (bytesV x) rfl HV1.out.own _ _ rfl HS1.out (bytesV_one _) HLP.out HZ1.out ?_); intro v' w5 hown1 hg1 hk1; obtain ⟨hW, hF⟩ := HV1.out.push hown1 hg1 hk1; have hb5 := HV1.out.box.keep hg1 (.inr (fun e => HV1.out.ne e.symm)); have c5 : w5.cell? ⟨gw, 1, none⟩ = some (.slice ox x.length kx) := hb5.cell (by simp); have f5 := hb5.free 1; have g5 := hb5.blk.2; obtain ⟨o5, k5, q5, hv5, -⟩ := hown1.cases; obtain ⟨l5, hl5⟩ : ∃ l5, l5 = (bytesV x ++ bytesV ((x.drop n1).take m)).length := ⟨_, rfl⟩; rw [← hl5] at hv5; subst hv5; have HW := Lib.hid hW; have HF := Lib.hid hF; have HK := Lib.hid hk1; clear hown1 hg1 hk1 hb5 hl5 hW hF))
        have hNI : n - (i + m) = r - m := by have := HR.out; omega
        have hr6 : r - m ≤ 100000 := by have := HR.out; have := HN.out; omega
        have HW2 : Hid (WinV (w5.setCell ⟨gw, 1, none⟩ (.slice o5 l5 k5)) B gw (.slice o5 l5 k5) (copyN b d (i + m))) := Lib.hid (by rw [← HE.out]; exact HW.out)
        have HKK : Hid (∀ k, (Value.slice o5 l5 k5).ownBlock = some k → vb.ownBlock = some k ∨ w.heap.size ≤ k) := Lib.hid (fun k e => by
          rcases HK.out k e with h | h
          · exact HKI.out k h
          · exact .inr (Nat.le_trans HFI.out.size (Nat.le_trans HB1.out.size h)))
        have HFF : Hid (WFx gw vb w (w5.setCell ⟨gw, 1, none⟩ (.slice o5 l5 k5))) := Lib.hid (HFI.out.next HKI.out ((fx_below HB1.out).trans (HF.out.mono (fun k hk => hk))))
        have hmm := HM1.out
        have HE64 : Hid (wrap64 ((r - m : Nat) : Int) = ((n - (i + m) : Nat) : Int)) := Lib.hid (by rw [hNI, IntWalk.wrap64_in _ ⟨by omega, by omega⟩])
        go_roundg (n - (i + m) + 1)
        case measure => have := HR.out; omega
        case rel => exact ⟨i + m, _, by rw [HE64.out], by have := HR.out; omega, HW2.out, HKK.out, HFF.out, rfl⟩
      · obtain rfl : i = n := by omega
        have HCX : Hid (x = b ++ C) := Lib.hid (by rw [HX.out, HC1.out])
        obtain ⟨u, hu, huS⟩ := hvi.own.sl.high (P := Tryz.prog) 54 5 Tryz.underlying54 (by kernel_rfl) b.length (by rw [bytesV_length, HCX.out, List.length_append]; omega)
        rw [bytesV_drop, show x.drop b.length = C by rw [HCX.out, List.drop_left]] at huS
        have HCV := Lib.hid (run_bytes_string (P := Tryz.prog) wr 54 9 5 Tryz.underlying54 Tryz.underlying5 Tryz.underlying9 u C huS)
        have HU := Lib.hid hu
        have HTR := Lib.hid (trimWn HVI.out (by have := HXL.out; omega))
        have hz : ((i - i : Nat) : Int) = 0 := by rw [Nat.sub_self]; rfl
        rw [hz]
        clear hu huS hvi hdx HPC hdx'
        go_wp2_with (first | ((with_reducible show wpList _ _ _ (Oper.mk _ (.slice _ _ _ _ _) _ _ _ _ :: _) _ _); refine wpList_slice_by rfl 54 (.tmp 74) (some (.tmp 75)) none none rfl _ (HU.out _) ?_) | ((with_reducible show wpList _ _ _ (Oper.mk _ (.convert _ _ _) _ _ _ _ :: _) _ _); refine wpList_conv_by rfl 54 9 (.tmp 76) rfl _ HCV.out ?_) | ((with_reducible go_at_call 54); (with_reducible refine HTR.out.mono ?_); rintro e w7 ⟨rfl, v7, hw7, ho7, hf7⟩; have HW7 := Lib.hid hw7; have HO7 := Lib.hid ho7; have HF7 := Lib.hid hf7; clear hw7 ho7 hf7))
        go_ret2
        obtain ⟨b7, h1, h2, h3⟩ := HW7.out
        refine ⟨C, v7, rfl, HC2.out, HC3.out, ⟨b7, h1, h2.trans (by rw [HCX.out]; exact lastN_app2 HL.out _), h3⟩, fun k e => HKI.out k (by rw [← HO7.out]; exact e), HFI.out.next HKI.out HF7.out⟩
end Go.Cm

/- The walks of the window's last bytes, and of its twin; of a reader's bytes. Conditions: they are there. -/
namespace Go.Cm
open Go.RowKit Go.Proofs

theorem quiet_conv {P : Program} {C : World → Prop} {o : Oper} {a : Act} {K : Act → Prop} (s d : TypeId) (x : Operand) (ho : o.op = .convert s d x) (v : Value) (hr : ∀ w', C w' → (convert s d (a.eval x)).run P w' = .ok v w') (h : K (a.put o.dst v)) : o.quiet P a C K := by
  refine ⟨v, fun w' hw' => ?_, h⟩
  unfold Oper.quietAt execOp
  simp only [ho, Sem.run_bind, Sem.run_pure, Result.andThen_ok, hr w' hw', Oper.quietUpon]
  exact ⟨trivial, trivial⟩
theorem quiet_min {P : Program} {C : World → Prop} {o : Oper} {a : Act} {K : Act → Prop} (x y : Operand) (t1 t2 : TypeId) (ho : o.op = .call { callee := .builtin .min, args := #[x, y], argTypes := #[t1, t2] }) (m n k : Nat) (hx : a.eval x = .int .i64 m) (hy : a.eval y = .int .i64 n) (hk : k = min m n) (h : K (a.put o.dst (.int .i64 k))) : o.quiet P a C K := by
  refine ⟨.int .i64 k, fun w' _ => ?_, h⟩
  have hr := run_min_int2 (P := P) (w := w') #[t1, t2] o.type .i64 .i64 (m : Int) (n : Int)
  have hkk : (if (n : Int) < (m : Int) then (n : Int) else (m : Int)) = (k : Int) := by rw [hk]; split <;> omega
  rw [hkk] at hr
  unfold Oper.quietAt execOp
  simp only [ho, resolve, invoke, builtin, Sem.run_bind, Sem.run_pure, Result.andThen_ok, List.map_toArray, List.map_cons, List.map_nil, hx, hy, hr, Oper.quietUpon]
  exact ⟨trivial, trivial⟩
theorem quiet_slice {P : Program} {C : World → Prop} {o : Oper} {a : Act} {K : Act → Prop} (t : TypeId) (x : Operand) (lo hi mx : Option Operand) (ho : o.op = .slice t x lo hi mx) (v : Value) (hr : ∀ w', C w' → (Instr.sliceAt t (a.eval x) (lo.map a.eval) (hi.map a.eval) (mx.map a.eval)).run P w' = .ok v w') (h : K (a.put o.dst v)) : o.quiet P a C K := by
  refine ⟨v, fun w' hw' => ?_, h⟩
  unfold Oper.quietAt execOp
  simp only [ho, Sem.run_bind, Sem.run_pure, Result.andThen_ok, hr w' hw', Oper.quietUpon]
  exact ⟨trivial, trivial⟩
set_option maxRecDepth 100000 in
set_option maxHeartbeats 1000000 in
theorem lastWn {w : World} {B gw : Nat} {vb : Value} {H : Byts} (h : WinAt w B gw vb H) : Calls Tryz.prog 41 #[.pointer (some ⟨gw, 0, none⟩), .int .i64 32768] w fun e w' => e = .returned (.string ⟨(lastN H).toArray⟩) ∧ ∃ x, w' = ext w x := by
  have HL0 : Hid (∀ W : World, Below w.heap.size w W → Calls Tryz.prog 66 #[.pointer (some ⟨gw, 0, none⟩)] W fun e w' => e = .returned (.int .i64 (min H.length 32768 : Nat)) ∧ ∃ x, w' = ext W x) := Lib.hid (fun W hb => (lenWn (h.up hb)).mono fun e w' ⟨h1, h2⟩ => ⟨h1, by rw [h2]; exact refl_ext W⟩)
  obtain ⟨b, hV, hl, hm⟩ := h
  have HT := Lib.hid (thereWn hV)
  have HV := Lib.hid hV
  obtain ⟨o0, k0, q0, hv0, hd0, -⟩ := hV.own.cases
  rw [bytesV_length] at hv0 hd0
  have hm0 := hd0.len
  have c1 : w.cell? ⟨gw, 1, none⟩ = some vb := hV.box.cell (by simp)
  have hgw := hV.box.blk.2
  obtain ⟨k, hk⟩ : ∃ k, k = min H.length 32768 := ⟨_, rfl⟩
  have hkb : k = min b.length 32768 := by rw [hk, ← lastN_min hl]
  rw [← hk] at HL0
  obtain ⟨n0, hn0⟩ : ∃ n0, n0 = b.length - k := ⟨_, rfl⟩
  have hni : (b.length : Int) - (k : Int) = (n0 : Nat) := by omega
  obtain ⟨u, hu, huS⟩ := hV.own.sl.high (P := Tryz.prog) 54 5 Tryz.underlying54 (by kernel_rfl) n0 (by rw [bytesV_length]; omega)
  have hlb : b.drop n0 = lastN H := by
    rw [← hl]
    show _ = b.drop (b.length - 32768)
    rw [hn0, hkb]
    by_cases h : b.length ≤ 32768
    · rw [show b.length - min b.length 32768 = b.length - 32768 by omega]
    · rw [show b.length - min b.length 32768 = b.length - 32768 by omega]
  rw [bytesV_drop, hlb] at huS
  have HCV := Lib.hid (fun (W : World) (hb : Below w.heap.size w W) => run_bytes_string (P := Tryz.prog) W 54 9 5 Tryz.underlying54 Tryz.underlying5 Tryz.underlying9 u (lastN H) (huS.up hb))
  have HMN : Hid (k = min 32768 k) := Lib.hid (by omega)
  have HU := Lib.hid hu
  subst hv0
  clear hV hl hm hk hkb hn0 huS hlb hu
  go_enter Tryz.func41, Tryz.ntmps41
  go_wp2_with ((with_reducible go_at_call 40); (with_reducible refine HT.out.mono ?_); rintro e w' ⟨rfl, hw⟩; rw [hw]; clear hw)
  refine wp_region_ext (by kernel_rfl) (by kernel_rfl) ?_
  repeat (first
    | (go_big_quiet_want; (with_reducible show Oper.quiet _ (Oper.mk _ (.call _) _ _ _ _) _ _ _); refine quiet_min (.tmp 21) (.tmp 23) 3 3 rfl 32768 k k rfl rfl HMN.out ?_; go_simp; go_big_quiet_on)
    | (go_big_quiet_want; (with_reducible show Oper.quiet _ (Oper.mk _ (.slice _ _ _ _ _) _ _ _ _) _ _ _); refine quiet_slice 54 (.tmp 15) (some (.tmp 25)) none none rfl u (fun w' _ => HU.out w') ?_; go_simp; go_big_quiet_on)
    | (go_big_quiet_want; (with_reducible show Oper.quiet _ (Oper.mk _ (.convert _ _ _) _ _ _ _) _ _ _); refine quiet_conv 54 9 (.tmp 26) rfl _ (fun w' hw' => HCV.out w' (below_ext hw')) ?_; go_simp; go_big_quiet_on)
    | go_big_quiet_step ((go_at_call 66; exact calls_in (HL0.out _ (ext_below _ _)))))
  refine wpQuiet_nil ?_
  rintro w' ⟨y, rfl⟩
  go_wp2
  go_ret
  exact ⟨rfl, (ex_ext (by repeat (first | exact Below.refl _ _ | assumption | refine b_drewN ?_ _ | refine Below.drew ?_ | refine b_ext' ?_ _ | refine b_alloc' ?_ _)))⟩
set_option maxRecDepth 100000 in
theorem twinWn {w : World} {B gw : Nat} {vb : Value} {H : Byts} (h : WinAt w B gw vb H) : Calls Tryz.prog 27 #[.pointer (some ⟨gw, 0, none⟩)] w fun e w' => ∃ g2 v2, e = .returned (.pointer (some ⟨g2, 0, none⟩)) ∧ WinAt w' w.heap.size g2 v2 H ∧ w.heap.size ≤ g2 ∧ g2 < w'.heap.size ∧ Below w.heap.size w w' := by
  have HLS := Lib.hid (lastWn h)
  have HT : Hid (Calls Tryz.prog 40 #[.pointer (some ⟨gw, 0, none⟩)] w fun e w' => e = .returned (.bool true) ∧ w' = w) := by
    obtain ⟨b, hV, -⟩ := h
    exact Lib.hid (thereWn hV)
  have HNW := Lib.hid (fun (W : World) => newWn ⟨(lastN H).toArray⟩ (by show (lastN H).toArray.size ≤ 50000000; rw [List.size_toArray, lastN_len]; omega) W)
  clear h
  obtain ⟨l, hl⟩ : ∃ l, l = lastN H := ⟨_, rfl⟩
  rw [← hl] at HLS HNW
  have HLL := Lib.hid hl
  clear hl
  go_enter Tryz.func27, Tryz.ntmps27
  go_wp2_with (first | ((with_reducible go_at_call 40); (with_reducible refine HT.out.mono ?_); rintro e w' ⟨rfl, hw⟩; rw [hw]; clear hw) | ((with_reducible go_at_call 41); (with_reducible refine HLS.out.mono ?_); rintro e w1 ⟨rfl, x1, rfl⟩) | ((with_reducible go_at_call 23); (with_reducible refine (HNW.out _).mono ?_); rintro e w2 ⟨g2, v2, rfl, hw, hg, hl, hb⟩; have HW := Lib.hid hw; have HG := Lib.hid hg; have HL := Lib.hid hl; have HB := Lib.hid hb; clear hw hg hl hb))
  go_ret
  obtain ⟨b, h1, h2, h3⟩ := HW.out
  have hs := size_ext w x1
  refine ⟨g2, v2, rfl, ⟨b, ⟨h1.box.mono hs, h1.own.mono hs, h1.ne⟩, ?_, h3⟩, Nat.le_trans hs HG.out, HL.out, (ext_below w x1).trans (HB.out.mono hs)⟩
  rw [h2]
  show lastN (bys ⟨l.toArray⟩) = _
  rw [bys_mk, HLL.out, lastN_idem]
end Go.Cm

/- The walks of the program's symbols of lengths and distances. Conditions: none. -/
namespace Go.Cm
open Go.RowKit Go.Proofs

def z30 : Array Value := (ints (List.replicate 30 0)).toArray
theorem zero_30 (W : World) : (zeroValue 150).run Tryz.prog W = .ok (.agg z30) W := by kernel_rfl
theorem z30_list : z30.toList = ints (nls (List.replicate 30 0)) := rfl
theorem box30 (w : World) (A : Array Value) (hA : A = z30) : BoxA (w.alloc (.cells A 150)) 150 30 w.heap.size (nls (List.replicate 30 0)) := by
  subst hA
  exact boxA_new w 150 z30 (nls (List.replicate 30 0)) z30_list (by decide)
/-- the bases, as far as they have been laid -/
def basL (base each k : Nat) : List Nat := (List.range 30).map fun i => if i < k then spBase base each i else 0
theorem basL_len (base each k : Nat) : (basL base each k).length = 30 := by simp [basL]
theorem basL_getD (base each k i : Nat) (h : i < 30) : (basL base each k).getD i 0 = if i < k then spBase base each i else 0 := by simp [basL, List.getD, h]
theorem basL_zero (base each : Nat) : basL base each 0 = List.replicate 30 0 := by simp [basL, List.map_const']
theorem basL_set (base each k : Nat) : (basL base each k).set k (spBase base each k) = basL base each (k + 1) := by
  refine List.ext_getElem (by simp [basL]) fun i h1 h2 => ?_
  simp only [basL, List.length_set, List.length_map, List.length_range] at h1
  simp only [basL, List.getElem_set, List.getElem_map, List.getElem_range]
  by_cases h : k = i
  · subst h; rw [if_pos rfl, if_pos (by omega)]
  · rw [if_neg h]
    by_cases h3 : i < k
    · rw [if_pos h3, if_pos (by omega)]
    · rw [if_neg h3, if_neg (by omega)]
def kdV4 : Array Value := #[.int .i64 257, .int .i64 28, .int .i64 3, .int .i64 4]
theorem kd4 (w : World) : Calls Tryz.prog 102 #[] w fun e w' => e = .returned (.agg kdV4) ∧ ∃ x, w' = ext w x := by
  have HO := Lib.hid (own_lit w w.heap.size #[Value.int .i64 257, .int .i64 28, .int .i64 3, .int .i64 4] 148 (by simp) (Nat.le_refl _))
  go_enter Tryz.func102, Tryz.ntmps102
  go_wp2
  refine ret_cell rfl rfl rfl (own_load HO.out _ Tryz.underlying148 rfl (by kernel_rfl)) ?_
  exact ⟨rfl, (ex_ext (by repeat (first | exact Below.refl _ _ | assumption | refine b_drewN ?_ _ | refine Below.drew ?_ | refine b_ext' ?_ _ | refine b_alloc' ?_ _)))⟩
theorem bits4 (i : Nat) (hi : i < 100) (w : World) : Calls Tryz.prog 107 #[.agg kdV4, .int .i64 i] w fun e w' => e = .returned (.int .i64 (spB 4 i : Nat)) ∧ ∃ x, w' = ext w x := by
  have h1 : (i : Int).tdiv 4 = ((i / 4 : Nat) : Int) := by norm_cast
  have hl : i / 4 < 100 := by omega
  unfold kdV4 spB
  go_enter Tryz.func107, Tryz.ntmps107
  go_wp2
  all_goals
    go_ret
    refine ⟨?_, (ex_ext (by repeat (first | exact Below.refl _ _ | assumption | refine b_drewN ?_ _ | refine Below.drew ?_ | refine b_ext' ?_ _ | refine b_alloc' ?_ _)))⟩
    first
      | (rw [show ((i / 4 - 1 : Nat) : Int) = (i : Int) / 4 - 1 by omega]; rfl)
      | (rw [show ((i / 4 - 1 : Nat) : Int) = 0 by omega]; rfl)
theorem spB4_le (i : Nat) (h : i < 30) : spB 4 i ≤ 13 := by unfold spB; omega
theorem spBase4_le : ∀ i, i ≤ 30 → spBase 3 4 i ≤ 40000 := by
  intro i hi
  exact Nat.le_trans (spBase_mono 3 4 hi) (by decide)
set_option maxRecDepth 100000 in
theorem bases4 (w : World) : Calls Tryz.prog 106 #[.agg kdV4] w fun e w' => e = .returned (.agg (ints (nls (basL 3 4 28))).toArray) ∧ ∃ x, w' = ext w x := by
  have HBI := Lib.hid (fun (i : Nat) (hi : i < 100) (W : World) => bits4 i hi W)
  unfold kdV4 at HBI ⊢
  obtain ⟨w1, hw1⟩ : ∃ w1, w1 = w.alloc (.cells #[.int .i64 257, .int .i64 28, .int .i64 3, .int .i64 4] 148) := ⟨_, rfl⟩
  have hz := zero_30
  obtain ⟨Z, hZ⟩ : ∃ Z, Z = z30 := ⟨_, rfl⟩
  rw [← hZ] at hz
  have hk := own_lit w w.heap.size #[Value.int .i64 257, .int .i64 28, .int .i64 3, .int .i64 4] 148 (by simp) (Nat.le_refl _)
  rw [← hw1] at hk
  have hs1 : w1.heap.size = w.heap.size + 1 := by rw [hw1]; simp
  have hb1 := box30 w1 Z hZ
  have hb2 := box30 (w1.alloc (.cells Z 150)) Z hZ
  rw [show (w1.alloc (.cells Z 150)).heap.size = w.heap.size + 2 by simp [hs1]] at hb2
  rw [hs1] at hb1
  rw [← basL_zero 3 4] at hb2
  obtain ⟨O, hO⟩ : ∃ O : List Int, O = nls (List.replicate 30 0) := ⟨_, rfl⟩
  rw [← hO] at hb1
  have HB1 := Lib.hid (hb1.up (below_alloc _ (.cells Z 150)))
  have HB2 := Lib.hid hb2
  have HK := Lib.hid ((hk.up (below_alloc w1 (.cells Z 150))).up (below_alloc _ (.cells Z 150)))
  have HBL : Hid (Below w.heap.size w ((w1.alloc (.cells Z 150)).alloc (.cells Z 150))) := Lib.hid (by rw [hw1]; exact (by repeat (first | exact Below.refl _ _ | assumption | refine b_drewN ?_ _ | refine Below.drew ?_ | refine b_ext' ?_ _ | refine b_alloc' ?_ _)))
  have HW1 := Lib.hid hw1
  have HS1 := Lib.hid hs1
  clear hw1 hZ hb1 hb2 hk hO hs1
  go_enter Tryz.func106, Tryz.ntmps106
  go_wp2
  rw [← HW1.out]
  generalize (w1.alloc (.cells Z 150)).alloc (.cells Z 150) = w3 at *
  go_loopg [4, 10] (28 + 1) (fun gk nv iv wr => ∃ k : Nat, nv = .int .i64 (spBase 3 4 k : Nat) ∧ iv = .int .i64 k ∧ k ≤ 28 ∧ BoxA wr 150 30 (w.heap.size + 2) (nls (basL 3 4 k)) ∧ BoxA wr 150 30 (w.heap.size + 1) O ∧ Own wr w.heap.size 148 (.slice (some ⟨w.heap.size, 0, none⟩) 4 4) [.int .i64 257, .int .i64 28, .int .i64 3, .int .i64 4] ∧ Below w.heap.size w wr ∧ gk = 28 + 1 - k)
  case atStart => exact ⟨0, rfl, rfl, Nat.zero_le _, HB2.out, HB1.out, HK.out, HBL.out, rfl⟩
  case round =>
    clear HB2 HB1 HK HBL
    obtain ⟨k, rfl, rfl, hk, hb2, hb1, hkk, hbel, rfl⟩ := hrel
    have HB2 := Lib.hid hb2
    have HB1 := Lib.hid hb1
    have HK := Lib.hid hkk
    have HBL := Lib.hid hbel
    have hsz := hbel.size
    have hl2 := hb2.lt
    by_cases hlt : k < 28
    · have hlti : (k : Int) < 28 := by omega
      have hc := hb2.cell (c := k) (by omega)
      rw [nls_getD] at hc
      have hf := hb2.free k
      have hst := hb2.set k (spBase 3 4 k : Nat)
      rw [nls_set, basL_set] at hst
      have HST := Lib.hid hst
      have hbs := spBase4_le k (by omega)
      have hb13 := spB4_le k (by omega)
      have hnx := spBase_step 3 4 k
      have HNX := Lib.hid hnx
      clear hb2 hb1 hkk hbel hst hnx
      obtain ⟨A, hgA, hsA, hA⟩ := (HK.out.keep HST.out.2 (.inr (by simp [Value.ownBlock]))).whole
      have hA' : A = #[.int .i64 257, .int .i64 28, .int .i64 3, .int .i64 4] := by rw [← Array.toArray_toList (xs := A), hA]
      subst hA'
      clear hA hsA
      generalize (basL 3 4 k).getD k 0 = z at *
      have HBK := Lib.hid (fun W => HBI.out k (by omega) W)
      have HN1 : Hid (((spBase 3 4 (k + 1) : Nat) : Int) = ((spBase 3 4 k : Nat) : Int) + 2 ^ (spB 4 k)) := Lib.hid (by rw [HNX.out]; norm_cast)
      have hp := Nat.pow_le_pow_right (n := 2) (by decide) hb13
      have hpi : (2 : Int) ^ (spB 4 k) ≤ 8192 := by
        have h : ((2 ^ spB 4 k : Nat) : Int) ≤ 8192 := by omega
        simpa using h
      have hpi0 : (0 : Int) ≤ (2 : Int) ^ (spB 4 k) := Int.pow_nonneg (by decide)
      generalize spBase 3 4 k = q at *
      generalize spB 4 k = b at *
      go_wp2_with (first | (refine load_box rfl 148 4 _ rfl w.heap.size rfl #[.int .i64 257, .int .i64 28, .int .i64 3, .int .i64 4] rfl hgA _ Tryz.underlying148 rfl (by kernel_rfl) ?_) | (go_at_call 107; (with_reducible refine (HBK.out _).mono ?_); rintro e w4 ⟨rfl, x4, rfl⟩))
      go_roundg (28 + 1 - (k + 1))
      case measure => omega
      case rel => exact ⟨k + 1, by rw [HN1.out], by go_num, by omega, HST.out.1.up (ext_below _ x4), (HB1.out.keep HST.out.2 (by simp)).up (ext_below _ x4), (HK.out.keep HST.out.2 (.inr (by simp [Value.ownBlock]))).up (ext_below _ x4), (HBL.out.grown HST.out.2 hsz (fun q hq => by cases hq; omega)).trans ((ext_below _ x4).mono (Nat.le_trans hsz HST.out.2.size)), rfl⟩
    · obtain rfl : k = 28 := by omega
      obtain ⟨A, hgA, hsA, hA⟩ := hb2.open
      have HA := Lib.hid (congrArg List.toArray hA)
      clear hb2 hb1 hkk hbel HB2 HK hA hlt
      go_wp2_with (first | (refine load_box rfl 150 30 _ rfl (w.heap.size + 2) rfl A hsA hgA _ Tryz.underlying150 rfl (by kernel_rfl) ?_) | (refine store_box rfl 150 30 _ _ rfl (w.heap.size + 1) rfl O (nls (basL 3 4 28)) (congrArg Value.agg HA.out) (by rw [nls_length, basL_len]) (by kernel_rfl) HB1.out ?_; intro w4 hB4 hg4; have HB4 := Lib.hid hB4; have HG4 := Lib.hid hg4; clear hB4 hg4))
      refine ret_cell rfl rfl rfl (HB4.out.load _ Tryz.underlying150 rfl (by kernel_rfl)) ?_
      exact ⟨rfl, ex_ext (HBL.out.grown HG4.out hsz (fun q hq => by cases hq; omega))⟩
def kdV2 : Array Value := #[.int .i64 0, .int .i64 30, .int .i64 1, .int .i64 2]
theorem kd2 (w : World) : Calls Tryz.prog 104 #[] w fun e w' => e = .returned (.agg kdV2) ∧ ∃ x, w' = ext w x := by
  have HO := Lib.hid (own_lit w w.heap.size #[Value.int .i64 0, .int .i64 30, .int .i64 1, .int .i64 2] 148 (by simp) (Nat.le_refl _))
  go_enter Tryz.func104, Tryz.ntmps104
  go_wp2
  refine ret_cell rfl rfl rfl (own_load HO.out _ Tryz.underlying148 rfl (by kernel_rfl)) ?_
  exact ⟨rfl, (ex_ext (by repeat (first | exact Below.refl _ _ | assumption | refine b_drewN ?_ _ | refine Below.drew ?_ | refine b_ext' ?_ _ | refine b_alloc' ?_ _)))⟩
theorem bits2 (i : Nat) (hi : i < 100) (w : World) : Calls Tryz.prog 107 #[.agg kdV2, .int .i64 i] w fun e w' => e = .returned (.int .i64 (spB 2 i : Nat)) ∧ ∃ x, w' = ext w x := by
  have h1 : (i : Int).tdiv 2 = ((i / 2 : Nat) : Int) := by norm_cast
  have hl : i / 2 < 100 := by omega
  unfold kdV2 spB
  go_enter Tryz.func107, Tryz.ntmps107
  go_wp2
  all_goals
    go_ret
    refine ⟨?_, (ex_ext (by repeat (first | exact Below.refl _ _ | assumption | refine b_drewN ?_ _ | refine Below.drew ?_ | refine b_ext' ?_ _ | refine b_alloc' ?_ _)))⟩
    first
      | (rw [show ((i / 2 - 1 : Nat) : Int) = (i : Int) / 2 - 1 by omega]; rfl)
      | (rw [show ((i / 2 - 1 : Nat) : Int) = 0 by omega]; rfl)
theorem spB2_le (i : Nat) (h : i < 30) : spB 2 i ≤ 13 := by unfold spB; omega
theorem spBase2_le : ∀ i, i ≤ 30 → spBase 1 2 i ≤ 40000 := by
  intro i hi
  exact Nat.le_trans (spBase_mono 1 2 hi) (by decide)
set_option maxRecDepth 100000 in
theorem bases2 (w : World) : Calls Tryz.prog 106 #[.agg kdV2] w fun e w' => e = .returned (.agg (ints (nls (basL 1 2 30))).toArray) ∧ ∃ x, w' = ext w x := by
  have HBI := Lib.hid (fun (i : Nat) (hi : i < 100) (W : World) => bits2 i hi W)
  unfold kdV2 at HBI ⊢
  obtain ⟨w1, hw1⟩ : ∃ w1, w1 = w.alloc (.cells #[.int .i64 0, .int .i64 30, .int .i64 1, .int .i64 2] 148) := ⟨_, rfl⟩
  have hz := zero_30
  obtain ⟨Z, hZ⟩ : ∃ Z, Z = z30 := ⟨_, rfl⟩
  rw [← hZ] at hz
  have hk := own_lit w w.heap.size #[Value.int .i64 0, .int .i64 30, .int .i64 1, .int .i64 2] 148 (by simp) (Nat.le_refl _)
  rw [← hw1] at hk
  have hs1 : w1.heap.size = w.heap.size + 1 := by rw [hw1]; simp
  have hb1 := box30 w1 Z hZ
  have hb2 := box30 (w1.alloc (.cells Z 150)) Z hZ
  rw [show (w1.alloc (.cells Z 150)).heap.size = w.heap.size + 2 by simp [hs1]] at hb2
  rw [hs1] at hb1
  rw [← basL_zero 1 2] at hb2
  obtain ⟨O, hO⟩ : ∃ O : List Int, O = nls (List.replicate 30 0) := ⟨_, rfl⟩
  rw [← hO] at hb1
  have HB1 := Lib.hid (hb1.up (below_alloc _ (.cells Z 150)))
  have HB2 := Lib.hid hb2
  have HK := Lib.hid ((hk.up (below_alloc w1 (.cells Z 150))).up (below_alloc _ (.cells Z 150)))
  have HBL : Hid (Below w.heap.size w ((w1.alloc (.cells Z 150)).alloc (.cells Z 150))) := Lib.hid (by rw [hw1]; exact (by repeat (first | exact Below.refl _ _ | assumption | refine b_drewN ?_ _ | refine Below.drew ?_ | refine b_ext' ?_ _ | refine b_alloc' ?_ _)))
  have HW1 := Lib.hid hw1
  have HS1 := Lib.hid hs1
  clear hw1 hZ hb1 hb2 hk hO hs1
  go_enter Tryz.func106, Tryz.ntmps106
  go_wp2
  rw [← HW1.out]
  generalize (w1.alloc (.cells Z 150)).alloc (.cells Z 150) = w3 at *
  go_loopg [4, 10] (30 + 1) (fun gk nv iv wr => ∃ k : Nat, nv = .int .i64 (spBase 1 2 k : Nat) ∧ iv = .int .i64 k ∧ k ≤ 30 ∧ BoxA wr 150 30 (w.heap.size + 2) (nls (basL 1 2 k)) ∧ BoxA wr 150 30 (w.heap.size + 1) O ∧ Own wr w.heap.size 148 (.slice (some ⟨w.heap.size, 0, none⟩) 4 4) [.int .i64 0, .int .i64 30, .int .i64 1, .int .i64 2] ∧ Below w.heap.size w wr ∧ gk = 30 + 1 - k)
  case atStart => exact ⟨0, rfl, rfl, Nat.zero_le _, HB2.out, HB1.out, HK.out, HBL.out, rfl⟩
  case round =>
    clear HB2 HB1 HK HBL
    obtain ⟨k, rfl, rfl, hk, hb2, hb1, hkk, hbel, rfl⟩ := hrel
    have HB2 := Lib.hid hb2
    have HB1 := Lib.hid hb1
    have HK := Lib.hid hkk
    have HBL := Lib.hid hbel
    have hsz := hbel.size
    have hl2 := hb2.lt
    by_cases hlt : k < 30
    · have hlti : (k : Int) < 30 := by omega
      have hc := hb2.cell (c := k) (by omega)
      rw [nls_getD] at hc
      have hf := hb2.free k
      have hst := hb2.set k (spBase 1 2 k : Nat)
      rw [nls_set, basL_set] at hst
      have HST := Lib.hid hst
      have hbs := spBase2_le k (by omega)
      have hb13 := spB2_le k (by omega)
      have hnx := spBase_step 1 2 k
      have HNX := Lib.hid hnx
      clear hb2 hb1 hkk hbel hst hnx
      obtain ⟨A, hgA, hsA, hA⟩ := (HK.out.keep HST.out.2 (.inr (by simp [Value.ownBlock]))).whole
      have hA' : A = #[.int .i64 0, .int .i64 30, .int .i64 1, .int .i64 2] := by rw [← Array.toArray_toList (xs := A), hA]
      subst hA'
      clear hA hsA
      generalize (basL 1 2 k).getD k 0 = z at *
      have HBK := Lib.hid (fun W => HBI.out k (by omega) W)
      have HN1 : Hid (((spBase 1 2 (k + 1) : Nat) : Int) = ((spBase 1 2 k : Nat) : Int) + 2 ^ (spB 2 k)) := Lib.hid (by rw [HNX.out]; norm_cast)
      have hp := Nat.pow_le_pow_right (n := 2) (by decide) hb13
      have hpi : (2 : Int) ^ (spB 2 k) ≤ 8192 := by
        have h : ((2 ^ spB 2 k : Nat) : Int) ≤ 8192 := by omega
        simpa using h
      have hpi0 : (0 : Int) ≤ (2 : Int) ^ (spB 2 k) := Int.pow_nonneg (by decide)
      generalize spBase 1 2 k = q at *
      generalize spB 2 k = b at *
      go_wp2_with (first | (refine load_box rfl 148 4 _ rfl w.heap.size rfl #[.int .i64 0, .int .i64 30, .int .i64 1, .int .i64 2] rfl hgA _ Tryz.underlying148 rfl (by kernel_rfl) ?_) | (go_at_call 107; (with_reducible refine (HBK.out _).mono ?_); rintro e w4 ⟨rfl, x4, rfl⟩))
      go_roundg (30 + 1 - (k + 1))
      case measure => omega
      case rel => exact ⟨k + 1, by rw [HN1.out], by go_num, by omega, HST.out.1.up (ext_below _ x4), (HB1.out.keep HST.out.2 (by simp)).up (ext_below _ x4), (HK.out.keep HST.out.2 (.inr (by simp [Value.ownBlock]))).up (ext_below _ x4), (HBL.out.grown HST.out.2 hsz (fun q hq => by cases hq; omega)).trans ((ext_below _ x4).mono (Nat.le_trans hsz HST.out.2.size)), rfl⟩
    · obtain rfl : k = 30 := by omega
      obtain ⟨A, hgA, hsA, hA⟩ := hb2.open
      have HA := Lib.hid (congrArg List.toArray hA)
      clear hb2 hb1 hkk hbel HB2 HK hA hlt
      go_wp2_with (first | (refine load_box rfl 150 30 _ rfl (w.heap.size + 2) rfl A hsA hgA _ Tryz.underlying150 rfl (by kernel_rfl) ?_) | (refine store_box rfl 150 30 _ _ rfl (w.heap.size + 1) rfl O (nls (basL 1 2 30)) (congrArg Value.agg HA.out) (by rw [nls_length, basL_len]) (by kernel_rfl) HB1.out ?_; intro w4 hB4 hg4; have HB4 := Lib.hid hB4; have HG4 := Lib.hid hg4; clear hB4 hg4))
      refine ret_cell rfl rfl rfl (HB4.out.load _ Tryz.underlying150 rfl (by kernel_rfl)) ?_
      exact ⟨rfl, ex_ext (HBL.out.grown HG4.out hsz (fun q hq => by cases hq; omega))⟩
theorem results_tmp4 {fn : Func} {t u v x : Tmp} (h : fn.results = #[.tmp t, .tmp u, .tmp v, .tmp x]) (tmps : Array Value) (P : Program) (w : World) :
    (results fn tmps).run P w = .ok (.tuple #[tmps.getD t undef, tmps.getD u undef, tmps.getD v undef, tmps.getD x undef]) w := by
  simp [results, h]
end Go.Cm

/- The walk of the document's Split. Conditions: the text is not too long. -/
namespace Go.Cm
open Go.RowKit Go.Proofs

theorem slice_to (s : ByteArray) (k : Nat) (h : k ≤ s.size) : ∃ x : ByteArray, bys x = (bys s).take k ∧ ∀ W : World, (Instr.sliceAt 9 (.string s) none (some (.int .i64 (k : Int))) none).run Tryz.prog W = .ok (.string x) W := by
  refine ⟨s.extract 0 k, by rw [bys_extract]; simp, fun W => ?_⟩
  rw [run_sliceAt_string (P := Tryz.prog) (t := 9) (h := Tryz.underlying9), run_slice_string_h (P := Tryz.prog) (ht := Tryz.underlying9) (h0 := by omega) (h2 := by omega)]
  simp
theorem slice_from (s : ByteArray) (k : Nat) (h : k ≤ s.size) : ∃ x : ByteArray, bys x = (bys s).drop k ∧ ∀ W : World, (Instr.sliceAt 9 (.string s) (some (.int .i64 (k : Int))) none none).run Tryz.prog W = .ok (.string x) W := by
  refine ⟨s.extract k s.size, by rw [bys_extract, List.take_of_length_le (by rw [List.length_drop, bys_len]; omega)], fun W => ?_⟩
  rw [run_sliceAt_string (P := Tryz.prog) (t := 9) (h := Tryz.underlying9), run_slice_string_l (P := Tryz.prog) (ht := Tryz.underlying9) (h0 := by omega) (h1 := by omega)]
  simp
/-- ..-/
theorem txt_bys (x : ByteArray) : x = ⟨(bys x).toArray⟩ := by cases x; simp [bys]
end Go.Cm

/- The walks of the bases of symbols, and of a reader's bytes. Conditions: the reader is there. -/
namespace Go.Cm
open Go.RowKit Go.Proofs

def symB (y : Nat × Nat × Bool) : Value := .tuple #[.int .i64 (y.1 : Nat), .int .i64 (y.2.1 : Nat), .bool y.2.2]
theorem results_tmp3' {fn : Func} {t u v : Tmp} (h : fn.results = #[.tmp t, .tmp u, .tmp v]) (tmps : Array Value) (P : Program) (w : World) :
    (results fn tmps).run P w = .ok (.tuple #[tmps.getD t undef, tmps.getD u undef, tmps.getD v undef]) w := by
  simp [results, h]
set_option maxRecDepth 100000 in
set_option maxHeartbeats 1000000 in
theorem ofP4 (s : Nat) (hs : s < 100000) (w : World) : Calls Tryz.prog 103 #[.agg kdV4, .int .i64 (s : Nat)] w fun e w' => e = .returned (symB (if 257 ≤ s ∧ s < 285 then (spBase 3 4 (s - 257), spB 4 (s - 257), true) else (0, 0, false))) ∧ ∃ x, w' = ext w x := by
  have HBA := Lib.hid (fun (W : World) => bases4 W)
  obtain ⟨y, hy⟩ : ∃ y, y = (if 257 ≤ s ∧ s < 285 then (spBase 3 4 (s - 257), spB 4 (s - 257), true) else (0, 0, false)) := ⟨_, rfl⟩
  rw [← hy]
  have HY := Lib.hid hy
  clear hy
  unfold kdV4 at HBA ⊢
  have hk := own_lit w w.heap.size #[Value.int .i64 257, .int .i64 28, .int .i64 3, .int .i64 4] 148 (by simp) (Nat.le_refl _)
  obtain ⟨w1, hw1⟩ : ∃ w1, w1 = w.alloc (.cells #[.int .i64 257, .int .i64 28, .int .i64 3, .int .i64 4] 148) := ⟨_, rfl⟩
  rw [← hw1] at hk
  have HK := Lib.hid hk
  have HW1 := Lib.hid hw1
  have HB1 : Hid (Below w.heap.size w w1) := Lib.hid (by rw [hw1]; exact below_alloc _ _)
  have hg : w.heap.size < w1.heap.size := hk.blk.2
  have c0 : w1.cell? ⟨w.heap.size, 0, none⟩ = some (.int .i64 257) := hk.cell (by simp)
  have c1 : w1.cell? ⟨w.heap.size, 1, none⟩ = some (.int .i64 28) := hk.cell (by simp)
  clear hk hw1
  by_cases h : 257 ≤ s ∧ s < 285
  · obtain ⟨i, hsi⟩ : ∃ i, i = s - 257 := ⟨_, rfl⟩
    rw [if_pos h, ← hsi] at HY
    have hi : i < 28 := by omega
    have HBI := Lib.hid (fun (W : World) => bits4 i (by omega) W)
    unfold kdV4 at HBI
    have h1 : (s : Int) - 257 = (i : Nat) := by omega
    have h2 : ¬ s < 257 := by omega
    have h3 : ¬ 28 ≤ i := by omega
    obtain ⟨X, hX⟩ : ∃ X, X = (ints (nls (basL 3 4 28))).toArray := ⟨_, rfl⟩
    rw [← hX] at HBA
    obtain ⟨bs, hbs⟩ : ∃ bs, bs = spBase 3 4 i := ⟨_, rfl⟩
    obtain ⟨bt, hbt⟩ : ∃ bt, bt = spB 4 i := ⟨_, rfl⟩
    rw [← hbs, ← hbt] at HY
    rw [← hbt] at HBI
    have hXi : X[i]? = some (.int .i64 (bs : Nat)) := by
      rw [hX, hbs]
      have e : (nls (basL 3 4 28)).getD i 0 = (spBase 3 4 i : Nat) := by rw [nls_getD, basL_getD _ _ _ _ (by omega), if_pos hi]
      have hl : i < (nls (basL 3 4 28)).length := by rw [nls_length, basL_len]; omega
      have h2 := ints_getD (nls (basL 3 4 28)) i hl
      rw [e] at h2
      simp only [List.getElem?_toArray]
      rw [← h2, List.getD_eq_getElem?_getD, List.getElem?_eq_getElem (by simpa using hl)]
      rfl
    have hix := run_index_arr (P := Tryz.prog) 150 3 30 Tryz.underlying150 Tryz.underlying3 (by kernel_rfl) X i (by omega) _ hXi
    have HGK : Hid (∀ w', (∃ x, w' = ext w1 x) → w'.heap[w.heap.size]? = some (.cells #[.int .i64 257, .int .i64 28, .int .i64 3, .int .i64 4] 148 (0, 0))) := Lib.hid (fun w' ⟨x, hx⟩ => by
      obtain ⟨A, hgA, hsA, hA⟩ := HK.out.whole
      have hA' : A = #[.int .i64 257, .int .i64 28, .int .i64 3, .int .i64 4] := by rw [← Array.toArray_toList (xs := A), hA]
      subst hA'
      rw [hx, heap_ext w1 x _ hg]; exact hgA)
    clear h hX hbs hbt hXi hsi hs
    go_enter Tryz.func103, Tryz.ntmps103
    go_upto_region 1 with (fail)
    rw [← HW1.out]
    go_upto_region 4 with (fail)
    refine wp_region_ext (by kernel_rfl) (by kernel_rfl) ?_
    repeat (first
      | (go_big_quiet_want; refine quiet_load_box 148 4 _ rfl w.heap.size rfl #[.int .i64 257, .int .i64 28, .int .i64 3, .int .i64 4] rfl HGK.out _ Tryz.underlying148 rfl (by kernel_rfl) ?_; go_simp; go_big_quiet_on)
      | go_big_quiet_step (first | (go_at_call 106; exact calls_in (HBA.out _)) | (go_at_call 107; exact calls_in (HBI.out _))))
    refine wpQuiet_nil ?_
    rintro w' ⟨y4, rfl⟩
    go_wp2
    refine bodyPost_ret (results_tmp3' rfl _ _ _) rfl ?_
    refine ⟨?_, ex_ext (HB1.out.trans ((ext_below w1 y4).mono HB1.out.size))⟩
    unfold symB
    rw [HY.out]
    rfl
  · rw [if_neg h] at HY
    have hor : s < 257 ∨ (¬ s < 257 ∧ ∃ k : Nat, (s : Int) - 257 = (k : Nat) ∧ decide (28 ≤ k) = true ∧ k < 100000 ∧ ¬ k < 28) := by
      by_cases h1 : s < 257
      · exact .inl h1
      · exact .inr ⟨h1, s - 257, by omega, by rw [decide_eq_true_eq]; omega, by omega, by omega⟩
    clear h
    rcases hor with h1 | ⟨h1, k, hk1, hk2, hk3, hk4⟩ <;>
    · go_enter Tryz.func103, Tryz.ntmps103
      go_upto_region 1 with (fail)
      rw [← HW1.out]
      go_wp2
      refine bodyPost_ret (results_tmp3' rfl _ _ _) rfl ?_
      refine ⟨?_, ex_ext HB1.out⟩
      unfold symB
      rw [HY.out]
      rfl
set_option maxRecDepth 100000 in
set_option maxHeartbeats 1000000 in
theorem ofP2 (s : Nat) (hs : s < 100000) (w : World) : Calls Tryz.prog 103 #[.agg kdV2, .int .i64 (s : Nat)] w fun e w' => e = .returned (symB (if 0 ≤ s ∧ s < 30 then (spBase 1 2 (s - 0), spB 2 (s - 0), true) else (0, 0, false))) ∧ ∃ x, w' = ext w x := by
  have HBA := Lib.hid (fun (W : World) => bases2 W)
  obtain ⟨y, hy⟩ : ∃ y, y = (if 0 ≤ s ∧ s < 30 then (spBase 1 2 (s - 0), spB 2 (s - 0), true) else (0, 0, false)) := ⟨_, rfl⟩
  rw [← hy]
  have HY := Lib.hid hy
  clear hy
  unfold kdV2 at HBA ⊢
  have hk := own_lit w w.heap.size #[Value.int .i64 0, .int .i64 30, .int .i64 1, .int .i64 2] 148 (by simp) (Nat.le_refl _)
  obtain ⟨w1, hw1⟩ : ∃ w1, w1 = w.alloc (.cells #[.int .i64 0, .int .i64 30, .int .i64 1, .int .i64 2] 148) := ⟨_, rfl⟩
  rw [← hw1] at hk
  have HK := Lib.hid hk
  have HW1 := Lib.hid hw1
  have HB1 : Hid (Below w.heap.size w w1) := Lib.hid (by rw [hw1]; exact below_alloc _ _)
  have hg : w.heap.size < w1.heap.size := hk.blk.2
  have c0 : w1.cell? ⟨w.heap.size, 0, none⟩ = some (.int .i64 0) := hk.cell (by simp)
  have c1 : w1.cell? ⟨w.heap.size, 1, none⟩ = some (.int .i64 30) := hk.cell (by simp)
  clear hk hw1
  by_cases h : 0 ≤ s ∧ s < 30
  · obtain ⟨i, hsi⟩ : ∃ i, i = s - 0 := ⟨_, rfl⟩
    rw [if_pos h, ← hsi] at HY
    have hi : i < 30 := by omega
    obtain rfl : i = s := by omega
    have HBI := Lib.hid (fun (W : World) => bits2 i (by omega) W)
    unfold kdV2 at HBI
    have h3 : ¬ 30 ≤ i := by omega
    obtain ⟨X, hX⟩ : ∃ X, X = (ints (nls (basL 1 2 30))).toArray := ⟨_, rfl⟩
    rw [← hX] at HBA
    obtain ⟨bs, hbs⟩ : ∃ bs, bs = spBase 1 2 i := ⟨_, rfl⟩
    obtain ⟨bt, hbt⟩ : ∃ bt, bt = spB 2 i := ⟨_, rfl⟩
    rw [← hbs, ← hbt] at HY
    rw [← hbt] at HBI
    have hXi : X[i]? = some (.int .i64 (bs : Nat)) := by
      rw [hX, hbs]
      have e : (nls (basL 1 2 30)).getD i 0 = (spBase 1 2 i : Nat) := by rw [nls_getD, basL_getD _ _ _ _ (by omega), if_pos hi]
      have hl : i < (nls (basL 1 2 30)).length := by rw [nls_length, basL_len]; omega
      have h2 := ints_getD (nls (basL 1 2 30)) i hl
      rw [e] at h2
      simp only [List.getElem?_toArray]
      rw [← h2, List.getD_eq_getElem?_getD, List.getElem?_eq_getElem (by simpa using hl)]
      rfl
    have hix := run_index_arr (P := Tryz.prog) 150 3 30 Tryz.underlying150 Tryz.underlying3 (by kernel_rfl) X i (by omega) _ hXi
    have HGK : Hid (∀ w', (∃ x, w' = ext w1 x) → w'.heap[w.heap.size]? = some (.cells #[.int .i64 0, .int .i64 30, .int .i64 1, .int .i64 2] 148 (0, 0))) := Lib.hid (fun w' ⟨x, hx⟩ => by
      obtain ⟨A, hgA, hsA, hA⟩ := HK.out.whole
      have hA' : A = #[.int .i64 0, .int .i64 30, .int .i64 1, .int .i64 2] := by rw [← Array.toArray_toList (xs := A), hA]
      subst hA'
      rw [hx, heap_ext w1 x _ hg]; exact hgA)
    clear h hX hbs hbt hXi hsi
    go_enter Tryz.func103, Tryz.ntmps103
    go_upto_region 1 with (fail)
    rw [← HW1.out]
    go_upto_region 4 with (fail)
    refine wp_region_ext (by kernel_rfl) (by kernel_rfl) ?_
    repeat (first
      | (go_big_quiet_want; refine quiet_load_box 148 4 _ rfl w.heap.size rfl #[.int .i64 0, .int .i64 30, .int .i64 1, .int .i64 2] rfl HGK.out _ Tryz.underlying148 rfl (by kernel_rfl) ?_; go_simp; go_big_quiet_on)
      | go_big_quiet_step (first | (go_at_call 106; exact calls_in (HBA.out _)) | (go_at_call 107; exact calls_in (HBI.out _))))
    refine wpQuiet_nil ?_
    rintro w' ⟨y4, rfl⟩
    go_wp2
    refine bodyPost_ret (results_tmp3' rfl _ _ _) rfl ?_
    refine ⟨?_, ex_ext (HB1.out.trans ((ext_below w1 y4).mono HB1.out.size))⟩
    unfold symB
    rw [HY.out]
    rfl
  · rw [if_neg h] at HY
    have hk2 : decide (30 ≤ s) = true := by rw [decide_eq_true_eq]; omega
    have hk3 : decide ((30 : Int) ≤ (s : Nat)) = true := by rw [decide_eq_true_eq]; omega
    clear h
    · go_enter Tryz.func103, Tryz.ntmps103
      go_upto_region 1 with (fail)
      rw [← HW1.out]
      go_wp2
      refine bodyPost_ret (results_tmp3' rfl _ _ _) rfl ?_
      refine ⟨?_, ex_ext HB1.out⟩
      unfold symB
      rw [HY.out]
      rfl
theorem lenP' (s : Nat) (hs : s < 100000) (w : World) : Calls Tryz.prog 97 #[.int .i64 (s : Nat)] w fun e w' => e = .returned (symB (lenB s)) ∧ ∃ x, w' = ext w x := by
  have HO := Lib.hid (fun W => ofP4 s hs W)
  have HKD := Lib.hid kd4
  unfold lenB
  by_cases h : s = 285
  · simp only [if_pos h]
    have hi : ((s : Int) == 285) = true := by rw [h]; rfl
    subst h
    go_enter Tryz.func97, Tryz.ntmps97
    go_wp2
    refine bodyPost_ret (results_tmp3' rfl _ _ _) rfl ?_
    exact ⟨rfl, (ex_ext (by repeat (first | exact Below.refl _ _ | assumption | refine b_drewN ?_ _ | refine Below.drew ?_ | refine b_ext' ?_ _ | refine b_alloc' ?_ _)))⟩
  · simp only [if_neg h]
    obtain ⟨y, hy⟩ : ∃ y, y = (if 257 ≤ s ∧ s < 285 then (spBase 3 4 (s - 257), spB 4 (s - 257), true) else (0, 0, false)) := ⟨_, rfl⟩
    rw [← hy] at HO ⊢
    have hi : ((s : Int) == 285) = false := by simp; omega
    have hn : ¬ s = 285 := h
    clear hy
    unfold symB at HO ⊢
    go_enter Tryz.func97, Tryz.ntmps97
    go_wp2_with (first | ((with_reducible go_at_call 102); (with_reducible refine (HKD.out _).mono ?_); rintro e w2 ⟨rfl, x2, rfl⟩) | ((with_reducible go_at_call 103); (with_reducible refine (HO.out _).mono ?_); rintro e w3 ⟨rfl, x3, rfl⟩))
    refine bodyPost_ret (results_tmp3' rfl _ _ _) rfl ?_
    exact ⟨rfl, (ex_ext (by repeat (first | exact Below.refl _ _ | assumption | refine b_drewN ?_ _ | refine Below.drew ?_ | refine b_ext' ?_ _ | refine b_alloc' ?_ _)))⟩
theorem dstP' (s : Nat) (hs : s < 100000) (w : World) : Calls Tryz.prog 98 #[.int .i64 (s : Nat)] w fun e w' => e = .returned (symB (dstB s)) ∧ ∃ x, w' = ext w x := by
  have HO := Lib.hid (fun W => ofP2 s hs W)
  have HKD := Lib.hid kd2
  have e : dstB s = (if 0 ≤ s ∧ s < 30 then (spBase 1 2 (s - 0), spB 2 (s - 0), true) else (0, 0, false)) := by unfold dstB; simp
  rw [e]
  obtain ⟨y, hy⟩ : ∃ y, y = (if 0 ≤ s ∧ s < 30 then (spBase 1 2 (s - 0), spB 2 (s - 0), true) else (0, 0, false)) := ⟨_, rfl⟩
  rw [← hy] at HO ⊢
  clear hy e
  unfold symB at HO ⊢
  go_enter Tryz.func98, Tryz.ntmps98
  go_wp2_with (first | ((with_reducible go_at_call 104); (with_reducible refine (HKD.out _).mono ?_); rintro e w2 ⟨rfl, x2, rfl⟩) | ((with_reducible go_at_call 103); (with_reducible refine (HO.out _).mono ?_); rintro e w3 ⟨rfl, x3, rfl⟩))
  refine bodyPost_ret (results_tmp3' rfl _ _ _) rfl ?_
  exact ⟨rfl, (ex_ext (by repeat (first | exact Below.refl _ _ | assumption | refine b_drewN ?_ _ | refine Below.drew ?_ | refine b_ext' ?_ _ | refine b_alloc' ?_ _)))⟩
theorem slice_mid (s : ByteArray) (a n : Nat) (h : a + n ≤ s.size) (W : World) : (Instr.sliceAt 9 (.string s) (some (.int .i64 (a : Int))) (some (.int .i64 ((a + n : Nat) : Int))) none).run Tryz.prog W = .ok (.string ⟨(((bys s).drop a).take n).toArray⟩) W := by
  rw [run_sliceAt_string (P := Tryz.prog) (t := 9) (h := Tryz.underlying9)]
  have := Go.run_slice_string (P := Tryz.prog) (w := W) 9 s .i64 .i64 (a : Int) ((a + n : Nat) : Int) Tryz.underlying9 (by omega) (by omega) (by omega)
  rw [this]
  have e : s.extract (a : Int).toNat ((a + n : Nat) : Int).toNat = ⟨(((bys s).drop a).take n).toArray⟩ := by
    rw [Int.toNat_natCast, Int.toNat_natCast, txt_bys (s.extract _ _), bys_extract, Nat.add_sub_cancel_left]
  rw [e]
set_option maxRecDepth 100000 in
set_option maxHeartbeats 1000000 in
theorem bytesRd {w : World} {g p : Nat} {s : ByteArray} (h : BoxS w g s p) (hs : s.size ≤ 4294967296) (n : Nat) (hp : p % 8 = 0) (hn : p + 8 * n ≤ 8 * s.size) : Calls Tryz.prog 85 #[.pointer (some ⟨g, 0, none⟩), .int .i64 (n : Nat)] w fun e w' => e = .returned (.tuple #[.string ⟨(((bys s).drop (p / 8)).take n).toArray⟩, .int .i64 0]) ∧ BoxS w' g s (p + 8 * n) ∧ w.grownBy w' (some g) := by
  have HB := Lib.hid h
  have HT := Lib.hid (thereS h)
  have HL := Lib.hid (leftS h hs (by omega))
  have c1 := h.c1
  have c2 := h.c2
  have f2 := h.free 2
  have hg := h.lt
  have hp8 : (p : Int).tmod 8 = 0 := by rw [Int.tmod_eq_emod_of_nonneg (by omega)]; omega
  have hp9 : (p : Int) % 8 = 0 := by omega
  obtain ⟨a, ha⟩ : ∃ a, a = p / 8 := ⟨_, rfl⟩
  have hpd : (p : Int).tdiv 8 = (a : Nat) := by rw [Int.tdiv_eq_ediv_of_nonneg (by omega)]; omega
  have hpe : (p : Int) / 8 = (a : Nat) := by omega
  obtain ⟨q, hq⟩ : ∃ q, q = 8 * s.size - p := ⟨_, rfl⟩
  rw [← hq] at HL
  obtain ⟨q8, hq8⟩ : ∃ q8, q8 = q / 8 := ⟨_, rfl⟩
  have hqd : (q : Int).tdiv 8 = (q8 : Nat) := by rw [Int.tdiv_eq_ediv_of_nonneg (by omega)]; omega
  have hqe : (q : Int) / 8 = (q8 : Nat) := by omega
  have hnl : ¬ q8 < n := by omega
  have hqb : q8 ≤ 4294967296 := by omega
  have hsl := fun W => slice_mid s a n (by omega) W
  obtain ⟨m, hm⟩ : ∃ m, m = a + n := ⟨_, rfl⟩
  rw [← hm] at hsl
  have HSL := Lib.hid hsl
  have hst := fun x => (h.up (ext_below w x)).set2 (p + 8 * n)
  obtain ⟨r, hr⟩ : ∃ r, r = p + 8 * n := ⟨_, rfl⟩
  rw [← hr] at hst ⊢
  have HST := Lib.hid hst
  clear hsl hst
  have hpn : (p : Int) + 8 * (n : Int) = (r : Nat) := by omega
  have han : (a : Int) + (n : Int) = (m : Nat) := by omega
  have hab : m ≤ 4294967296 := by omega
  have hnb : n ≤ 4294967296 := by omega
  have hpb : r ≤ 40000000000 := by omega
  have hn0 : ¬ (n : Int) < 0 := by omega
  rw [← ha]
  have HP := Lib.hid hp
  clear h ha hq hq8 hp hn hs hm hr
  go_enter Tryz.func85, Tryz.ntmps85
  go_wp2_with (first | ((with_reducible go_at_call 39); (with_reducible refine HT.out.mono ?_); rintro e w' ⟨rfl, hw⟩; rw [hw]; clear hw) | ((with_reducible go_at_call 84); (with_reducible refine HL.out.mono ?_); rintro e w1 ⟨rfl, x1, rfl⟩) | ((with_reducible show wpList _ _ _ (Oper.mk _ (.slice _ _ _ _ _) _ _ _ _ :: _) _ _); refine wpList_slice_by rfl 9 (.tmp 45) (some (.tmp 46)) (some (.tmp 49)) none rfl _ (HSL.out _) ?_))
  go_ret2
  exact ⟨rfl, (HST.out x1).1, grown_trans (grown_below (ext_below w x1) _) (HST.out x1).2⟩
end Go.Cm

/- A machine in memory; the walks of what turns it to another mode. Conditions: the machine is there. -/
namespace Go.Cm
open Go.RowKit Go.Proofs

/-- what a machine's cells hold, beside its reader and its window -/
structure MV where
  at_ : Nat
  fin : Bool
  left : Nat
  vl : Value
  vd : Value
  made : Nat
  told : Nat
  waits : ByteArray
  wrong : Nat
  vs : Value
  vf : Value
def mvC (gr gw : Nat) (m : MV) : List Value := [.pointer (some ⟨gr, 0, none⟩), .pointer (some ⟨gw, 0, none⟩), .int .i64 m.at_, .bool m.fin, .int .i64 m.left, m.vl, m.vd, .int .i64 m.made, .int .i64 m.told, .string m.waits, .int .i64 m.wrong, m.vs, m.vf]
def MBox (w : World) (B gm gr gw : Nat) (m : MV) : Prop := Own w B 76 (.slice (some ⟨gm, 0, none⟩) 13 13) (mvC gr gw m)
theorem MBox.cell {w : World} {B gm gr gw : Nat} {m : MV} (h : MBox w B gm gr gw m) {i : Nat} (hi : i < 13) : w.cell? ⟨gm, i, none⟩ = some ((mvC gr gw m).getD i undef) := Own.cell h (by simpa [mvC] using hi)
theorem MBox.free {w : World} {B gm gr gw : Nat} {m : MV} (h : MBox w B gm gr gw m) (i : Nat) : w.frozen? ⟨gm, i, none⟩ = false := Own.free h i
theorem MBox.blk {w : World} {B gm gr gw : Nat} {m : MV} (h : MBox w B gm gr gw m) : B ≤ gm ∧ gm < w.heap.size := Own.blk h
theorem MBox.up {w w' : World} {B gm gr gw : Nat} {m : MV} (h : MBox w B gm gr gw m) (hb : Below w.heap.size w w') : MBox w' B gm gr gw m := Own.up h hb
theorem MBox.fx {S : Nat → Prop} {w w' : World} {B gm gr gw : Nat} {m : MV} (h : MBox w B gm gr gw m) (hf : Fx S w w') (h1 : ¬ S gm) : MBox w' B gm gr gw m := hf.own h (fun k hk => by injection hk with hk; subst hk; exact h1)
theorem MBox.set {w : World} {B gm gr gw : Nat} {m m' : MV} (h : MBox w B gm gr gw m) (i : Nat) (v : Value) (hv : (mvC gr gw m).set i v = mvC gr gw m') : MBox (w.setCell ⟨gm, i, none⟩ v) B gm gr gw m' ∧ w.grownBy (w.setCell ⟨gm, i, none⟩ v) (some gm) := by
  have := Own.store h i v
  rw [hv] at this
  exact this
/-- what makes the next bytes -/
def fnV (k : Nat) : Value := if k = 0 then .func (.func 24) #[] #[] else if k = 1 then .func (.func 61) #[] #[] else .func (.func 62) #[] #[]
def MV.turn (m : MV) (k : Nat) : MV := { m with at_ := k, vf := if k < 3 then fnV k else m.vf }
theorem thereM {w : World} {B gm gr gw : Nat} {m : MV} (h : MBox w B gm gr gw m) : Calls Tryz.prog 25 #[.pointer (some ⟨gm, 0, none⟩)] w fun e w' => e = .returned (.bool true) ∧ w' = w := by
  have c0 : w.cell? ⟨gm, 0, none⟩ = some (.pointer (some ⟨gr, 0, none⟩)) := h.cell (by decide)
  go_enter Tryz.func25, Tryz.ntmps25
  go_wp2
  go_ret
  exact ⟨rfl, rfl⟩
set_option maxRecDepth 100000 in
theorem turnM {w : World} {B gm gr gw : Nat} {m : MV} (h : MBox w B gm gr gw m) (k : Nat) (hk : k ≤ 3) : Calls Tryz.prog 37 #[.pointer (some ⟨gm, 0, none⟩), .int .i64 (k : Nat)] w fun e w' => e = .returned (.tuple #[]) ∧ MBox w' B gm gr gw (m.turn k) ∧ w.grownBy w' (some gm) := by
  obtain ⟨h2, g2⟩ := h.set 2 (.int .i64 (k : Nat)) (m' := { m with at_ := k }) rfl
  have c2 : w.cell? ⟨gm, 2, none⟩ = some (.int .i64 m.at_) := h.cell (by decide)
  have f2 := h.free 2
  have hg := h.blk.2
  have HG2 := Lib.hid g2
  have H2 := Lib.hid h2
  have c12 : (w.setCell ⟨gm, 2, none⟩ (.int .i64 (k : Nat))).cell? ⟨gm, 12, none⟩ = some m.vf := h2.cell (by decide)
  have f12 := h2.free 12
  have hg2 := h2.blk.2
  have HS := Lib.hid (fun (v : Value) => h2.set 12 v (m' := { m with at_ := k, vf := v }) rfl)
  clear h2 g2 h
  rcases (show k = 0 ∨ k = 1 ∨ k = 2 ∨ k = 3 by omega) with rfl | rfl | rfl | rfl
  · rw [show ((0 : Nat) : Int) = 0 from rfl] at c12 f12 hg2 HS HG2
    go_enter Tryz.func37, Tryz.ntmps37
    go_wp2
    go_end0
    exact ⟨rfl, (HS.out _).1, grown_trans HG2.out (HS.out _).2⟩
  · rw [show ((1 : Nat) : Int) = 1 from rfl] at c12 f12 hg2 HS HG2
    go_enter Tryz.func37, Tryz.ntmps37
    go_wp2
    go_end0
    exact ⟨rfl, (HS.out _).1, grown_trans HG2.out (HS.out _).2⟩
  · rw [show ((2 : Nat) : Int) = 2 from rfl] at c12 f12 hg2 HS HG2
    go_enter Tryz.func37, Tryz.ntmps37
    go_wp2
    go_end0
    exact ⟨rfl, (HS.out _).1, grown_trans HG2.out (HS.out _).2⟩
  · go_enter Tryz.func37, Tryz.ntmps37
    go_wp2
    go_end0
    exact ⟨rfl, H2.out, HG2.out⟩
def MV.close (m : MV) : MV := m.turn (if m.fin then 3 else 0)
set_option maxRecDepth 100000 in
theorem closeM {w : World} {B gm gr gw : Nat} {m : MV} (h : MBox w B gm gr gw m) : Calls Tryz.prog 83 #[.pointer (some ⟨gm, 0, none⟩)] w fun e w' => e = .returned (.tuple #[]) ∧ MBox w' B gm gr gw m.close ∧ w.grownBy w' (some gm) := by
  have c3 : w.cell? ⟨gm, 3, none⟩ = some (.bool m.fin) := h.cell (by decide)
  have hg := h.blk.2
  have HT3 := Lib.hid (turnM h 3 (by decide))
  have HT0 := Lib.hid (turnM h 0 (by decide))
  clear h
  unfold MV.close
  cases hf : m.fin with
  | true =>
    rw [hf] at c3
    simp only [if_true]
    clear hf
    go_enter Tryz.func83, Tryz.ntmps83
    go_wp2_with ((with_reducible go_at_call 37); (refine HT3.out.mono ?_); rintro e w1 ⟨rfl, h1, g1⟩; have H1 := Lib.hid h1; have G1 := Lib.hid g1; clear h1 g1)
    go_end0
    exact ⟨rfl, H1.out, G1.out⟩
  | false =>
    rw [hf] at c3
    simp only [if_neg (show ¬ (false = true) by decide)]
    clear hf
    go_enter Tryz.func83, Tryz.ntmps83
    go_wp2_with ((with_reducible go_at_call 37); (refine HT0.out.mono ?_); rintro e w1 ⟨rfl, h1, g1⟩; have H1 := Lib.hid h1; have G1 := Lib.hid g1; clear h1 g1)
    go_end0
    exact ⟨rfl, H1.out, G1.out⟩
end Go.Cm
