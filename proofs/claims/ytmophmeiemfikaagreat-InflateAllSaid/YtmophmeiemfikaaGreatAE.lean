/- Texts of this claim, joined: walks of small functions and plain facts about them. Conditions: as each says. -/
import Derived.Test.YtmophmeiemfikaaGreatAD
import Derived.Test.YtmophmeiemfikaaGreatRows
import Derived.WalkKit
import Derived.WalkSpells
import Derived.WalkLawsBesides
import Derived.Deep.QuietTactic
import Derived.BigQuiet
import Derived.Lib.Hide
import Derived.Laws.BitsLemmas
import Derived.Deep.LoopGhost
import Derived.Laws.Small
import Derived.Deep.DeepCutAuto
import Derived.Deep.CutBlock
import Derived.Deep.CutRange
/- The walk of the source's dynamic head. Conditions: the source and the head are there. -/
namespace Go.Cm
open Go.RowKit Go.Proofs

theorem run_index_arr {P : Program} (T E n : Nat) (hT : P.underlying T = some (.array n E)) (hE : P.underlying E = some (.int .i64)) (hs : (P.info? E).map (·.size) = some 1) (A : Array Value) (j : Nat) (hj : j < n) (v : Value) (hv : A[j]? = some v) :
    ∀ W : World, (Instr.index T (.agg A) (.int .i64 (j : Int))).run P W = .ok v W := by
  intro W
  have hsz : (sizeOf E).run P W = .ok 1 W := by
    cases hq : P.info? E with
    | none => simp [hq] at hs
    | some inf =>
      have : inf.size = 1 := by simpa [hq] using hs
      simp [sizeOf, typeInfo, hq, this]
  have hag : (isAgg E).run P W = .ok false W := by unfold isAgg; rw [Sem.run_bind, run_underlying hE]; rfl
  have hc : (0 : Int) ≤ (j : Int) ∧ (j : Int) < ((n : Nat) : Int) := by omega
  simp only [Instr.index, asIntOf, Sem.run_bind, Sem.run_pure, Result.andThen_ok, run_underlying hT]
  rw [if_pos hc]
  simp only [Sem.run_bind, hsz, Result.andThen_ok, part, hag, Int.toNat_natCast, Nat.mul_one, hv]
  rfl
theorem ordN_lt (j : Nat) : ordN.getD j 0 < 19 := by
  by_cases h : j < 19
  · have : ∀ j, j < 19 → ordN.getD j 0 < 19 := by decide
    exact this j h
  · rw [List.getD_eq_getElem?_getD, List.getElem?_eq_none (by show 19 ≤ j; omega)]; decide
theorem ordA (j : Nat) (h : j < 19) : ((ints (nls ordN)).toArray)[j]? = some (.int .i64 (ordN.getD j 0 : Nat)) := by
  have hl : j < ordN.length := h
  simp [ints, nls, List.getD, hl]
theorem codeK_step (N T c k : Nat) (x : List Nat × (Nat × Nat)) : codeK N T c (k + 1) x = if k < 4 + c ∧ (codeK N T c k x).2.1 = 0 then ((codeK N T c k x).1.set (ordN.getD k 0) (xb N T 3 (codeK N T c k x).2).1, (xb N T 3 (codeK N T c k x).2).2) else codeK N T c k x := rfl
set_option maxRecDepth 100000 in
set_option maxHeartbeats 4000000 in
theorem dynamicS {w : World} {q g b p k z : Nat} {s : ByteArray} {fin : Bool} (h : SrcT w q g s (0, p)) (hh : BoxH w b fin k z (.slice none 0 0) (.slice none 0 0)) (hq : q ≠ b) (hg : g ≠ b) (hs : s.size ≤ 4294967296) :
    Calls Tryz.prog 59 #[.pointer (some ⟨q, 0, none⟩), .pointer (some ⟨b, 0, none⟩)] w fun e w' => e = .returned (.tuple #[]) ∧ SrcT w' q g s (dynN (numS s) (8 * s.size) (0, p)).2.2 ∧ Three q g b w w' ∧
      ∃ v1 v2, BoxH w' b fin k z v1 v2 ∧ ((dynN (numS s) (8 * s.size) (0, p)).2.2.1 = 0 → Own w' w.heap.size 3 v1 (ints (nls (dynN (numS s) (8 * s.size) (0, p)).1)) ∧ Own w' w.heap.size 3 v2 (ints (nls (dynN (numS s) (8 * s.size) (0, p)).2.1))) := by
  have HT := Lib.hid h
  have HH := Lib.hid hh
  have hqw := h.src.lt
  have hbw := hh.lt
  have hgw := h.box.lt
  have HSB := Lib.hid (fun (W : World) (st : Nat × Nat) (n : Nat) (hn : n ≤ 32) (h : SrcT W q g s st) => srcBits h hs n hn)
  have HXL := Lib.hid (fun st n => xb_lt (numS s) (8 * s.size) n st)
  have HFA := Lib.hid (fun (W : World) (st : Nat × Nat) (er : Nat) (he : er ≤ 64) (h : SrcT W q g s st) => failS h er he)
  have HRS := Lib.hid (fun (W : World) (gt : Nat) (st : Nat × Nat) (h : SrcT W q g s st) => rowS (gt := gt) h hs)
  have HRP := Lib.hid (fun (W : World) (B gt p : Nat) (L : List Nat) (hT : TabAt W B gt L) (h15 : ∀ x ∈ L, x ≤ 15) (h : BoxS W g s p) (hp : p ≤ 8 * s.size) => readP hT h h15 hs hp)
  obtain ⟨D, hD⟩ : ∃ D, D = dynN (numS s) (8 * s.size) (0, p) := ⟨_, rfl⟩
  rw [← hD]
  unfold dynN at hD
  clear h hh
  generalize hNN : numS s = N at HSB HXL hD
  generalize hTT : 8 * s.size = T at HSB HXL hD
  have HNN := Lib.hid hNN
  have HTT := Lib.hid hTT
  clear hNN hTT
  obtain ⟨r1, h1⟩ : ∃ r1, r1 = xb N T 5 (0, p) := ⟨_, rfl⟩
  rw [← h1] at hD
  obtain ⟨r2, h2⟩ : ∃ r2, r2 = xb N T 5 r1.2 := ⟨_, rfl⟩
  rw [← h2] at hD
  obtain ⟨r3, h3⟩ : ∃ r3, r3 = xb N T 4 r2.2 := ⟨_, rfl⟩
  rw [← h3] at hD
  have hx1 := HXL.out (0, p) 5
  have hx2 := HXL.out r1.2 5
  have hx3 := HXL.out r2.2 4
  have HB1 := Lib.hid (fun W h => HSB.out W (0, p) 5 (by omega) h)
  have HB2 := Lib.hid (fun W h => HSB.out W r1.2 5 (by omega) h)
  have HB3 := Lib.hid (fun W h => HSB.out W r2.2 4 (by omega) h)
  have HB4 : Hid (∀ (W : World) (st : Nat × Nat), SrcT W q g s st → Calls Tryz.prog 55 #[.pointer (some ⟨q, 0, none⟩), .int .i64 3] W fun e w' => e = .returned (.int .i64 ((xb N T 3 st).1 : Nat)) ∧ SrcT w' q g s (xb N T 3 st).2 ∧ Two q g W w') := Lib.hid (fun W st h => HSB.out W st 3 (by omega) h)
  rw [← h1] at HB1 hx1
  rw [← h2] at HB2 hx2
  rw [← h3] at HB3 hx3
  rw [show ((5 : Nat) : Int) = 5 from rfl] at HB1 HB2
  rw [show ((4 : Nat) : Int) = 4 from rfl] at HB3
  clear h1 h2 h3 HSB
  obtain ⟨a, s1⟩ := r1
  obtain ⟨d, s2⟩ := r2
  obtain ⟨c, s3⟩ := r3
  simp only at hx1 hx2 hx3 hD
  unfold dynM at hD
  obtain ⟨la, hla⟩ : ∃ la, la = 257 + a := ⟨_, rfl⟩
  obtain ⟨lb, hlb⟩ : ∃ lb, lb = 1 + d := ⟨_, rfl⟩
  obtain ⟨st4, h4⟩ : ∃ st4, st4 = if 286 < la ∨ 30 < lb then xf 3 s3 else s3 := ⟨_, rfl⟩
  rw [← hla, ← hlb, ← h4] at hD
  have HD := Lib.hid hD
  have HLA := Lib.hid hla
  have HLB := Lib.hid hlb
  have H4 := Lib.hid h4
  have H4E : Hid (st4.1 = 0 → la ≤ 286 ∧ lb ≤ 30) := Lib.hid (fun h => by
    by_cases hc : 286 < la ∨ 30 < lb
    · exfalso
      rw [h4, if_pos hc] at h
      by_cases h0 : s3.1 = 0
      · unfold xf at h; rw [if_pos h0] at h; cases h
      · rw [xf_of h0] at h; exact h0 h
    · omega)
  clear hD hla hlb h4
  go_enter Tryz.func59, Tryz.ntmps59
  go_upto_region 1 with (go_at_call 55; first | ((with_reducible refine (HB1.out w HT.out).mono ?_); rintro e w1 ⟨rfl, hb1, hb2⟩; (have HS1 := Lib.hid hb1; have HF1 := Lib.hid (Three.of2 (b := b) hb2); have HH1 := Lib.hid (HH.out.fx hb2 (fun e => e.elim (fun e => hq e.symm) (fun e => hg e.symm))); clear hb1 hb2 HB1)) | ((with_reducible refine (HB2.out w1 HS1.out).mono ?_); rintro e w2 ⟨rfl, hb1, hb2⟩; (have HS2 := Lib.hid hb1; have HF2 := Lib.hid (HF1.out.trans (Three.of2 hb2)); have HH2 := Lib.hid (HH1.out.fx hb2 (fun e => e.elim (fun e => hq e.symm) (fun e => hg e.symm))); clear hb1 hb2 HB2)) | ((with_reducible refine (HB3.out w2 HS2.out).mono ?_); rintro e w3 ⟨rfl, hb1, hb2⟩; (have HS3 := Lib.hid hb1; have HF3 := Lib.hid (HF2.out.trans (Three.of2 hb2)); have HH3 := Lib.hid (HH2.out.fx hb2 (fun e => e.elim (fun e => hq e.symm) (fun e => hg e.symm))); clear hb1 hb2 HB3)))
  clear HS1 HF1 HH1 HS2 HF2 HH2
  rw [show (257 : Int) + (a : Int) = (la : Int) by rw [HLA.out]; go_num, show (1 : Int) + (d : Int) = (lb : Int) by rw [HLB.out]; go_num, show (4 : Int) + (c : Int) = ((4 + c : Nat) : Int) by go_num]
  have hlam : la ≤ 300 := by have := HLA.out; omega
  have hlbm : lb ≤ 300 := by have := HLB.out; omega
  have hsz := HF3.out.size
  go_cut [4, 5, 6, 28] (fun x4 x5 x6 x28 wx => x4 = .int .i64 (la : Int) ∧ x5 = .int .i64 (lb : Int) ∧ x6 = .int .i64 ((4 + c : Nat) : Int) ∧ x28 = .bool (decide (286 < la ∨ 30 < lb)) ∧ wx = w3)
  case first =>
    by_cases hc1 : 286 < la
    · have hi : (la : Int) > 286 := by omega
      go_wp2
      go_meet
      case rel => exact ⟨rfl, rfl, rfl, by simp [hc1], rfl⟩
    · have hi : ¬ (la : Int) > 286 := by omega
      by_cases hc2 : 30 < lb
      · have hi2 : (lb : Int) > 30 := by omega
        go_wp2
        go_meet
        case rel => exact ⟨rfl, rfl, rfl, by simp [hc1, hc2], rfl⟩
      · have hi2 : ¬ (lb : Int) > 30 := by omega
        go_wp2
        go_meet
        case rel => exact ⟨rfl, rfl, rfl, by simp [hc1, hc2], rfl⟩
  case rest =>
  obtain ⟨rfl, rfl, rfl, rfl, rfl⟩ := hcut
  go_upto_if 28 with fail
  go_cut [4, 5, 6] (fun x4 x5 x6 wx => x4 = .int .i64 (la : Int) ∧ x5 = .int .i64 (lb : Int) ∧ x6 = .int .i64 ((4 + c : Nat) : Int) ∧ SrcT wx q g s st4 ∧ Three q g b w wx ∧ BoxH wx b fin k z (.slice none 0 0) (.slice none 0 0))
  case first =>
    have HC4 := Lib.hid (HFA.out _ s3 3 (by omega) HS3.out)
    rw [show ((3 : Nat) : Int) = 3 from rfl] at HC4
    by_cases hc1 : 286 < la ∨ 30 < lb
    · have HST : Hid (st4 = xf 3 s3) := Lib.hid (by rw [H4.out, if_pos hc1])
      have hdt : decide (286 < la ∨ 30 < lb) = true := decide_eq_true hc1
      rw [hdt]
      go_wp2_with (go_at_call 60; (with_reducible refine HC4.out.mono ?_); rintro e w4 ⟨rfl, hb1, hb2⟩; (have HS4 := Lib.hid hb1; have HF4 := Lib.hid (HF3.out.trans (Three.of2 hb2)); have HH4 := Lib.hid (HH3.out.fx hb2 (fun e => e.elim (fun e => hq e.symm) (fun e => hg e.symm))); clear hb1 hb2))
      go_meet
      case rel => exact ⟨rfl, rfl, rfl, by rw [HST.out]; exact HS4.out, HF4.out, HH4.out⟩
    · have HST : Hid (st4 = s3) := Lib.hid (by rw [H4.out, if_neg hc1])
      have hdt : decide (286 < la ∨ 30 < lb) = false := decide_eq_false hc1
      rw [hdt]
      go_wp2
      go_meet
      case rel => exact ⟨rfl, rfl, rfl, by rw [HST.out]; exact HS3.out, HF3.out, HH3.out⟩
  case rest =>
    obtain ⟨rfl, rfl, rfl, hs4, hf4, hh4⟩ := hcut
    clear HS3 HF3 HH3 HXL
    have HS4 := Lib.hid hs4
    have HF4 := Lib.hid hf4
    have HH4 := Lib.hid hh4
    have hsz4 := hf4.size
    clear hs4 hf4 hh4 hsz
    have hmk : ∀ W : World, (Instr.makeSlice 35 (.int .i64 19) (.int .i64 19)).run Tryz.prog W = .ok (.slice (some ⟨W.heap.size, 0, none⟩) 19 19) (W.alloc (.cells (madeCells #[Value.int .i64 0] 19) 3)) := run_mk (P := Tryz.prog) 35 3 (.int .i64 0) 8 19 Tryz.underlying35 (by kernel_rfl) rfl (by decide) (by omega)
    have hom := own_made wc w.heap.size 3 (.int .i64 0) 19 hsz4 (by decide)
    have hzl : List.replicate 19 (Value.int .i64 0) = ints (nls (List.replicate 19 0)) := rfl
    rw [hzl] at hom
    clear hzl
    obtain ⟨Z, hZ⟩ : ∃ Z, Z = List.replicate 19 0 := ⟨_, rfl⟩
    rw [← hZ] at hom HD
    have HZ : Hid (Z.length = 19) := Lib.hid (by rw [hZ]; rfl)
    have HOM := Lib.hid hom
    clear hZ hom
    generalize madeCells #[Value.int .i64 0] 19 = MC at *
    obtain ⟨O, hO⟩ : ∃ O, O = (ints (nls ordN)).toArray := ⟨_, rfl⟩
    have HO : Hid (∀ j, j < 19 → O[j]? = some (.int .i64 (ordN.getD j 0 : Nat))) := Lib.hid (fun j hj => by rw [hO]; exact ordA j hj)
    have HOR : Hid (∀ W : World, Calls Tryz.prog 79 #[] W fun e w' => e = .returned (.agg O) ∧ Below W.heap.size W w') := Lib.hid (fun W => by rw [hO]; exact ordP W)
    clear hO
    have HSTEP := Lib.hid (fun j => codeK_step N T c j (Z, st4))
    have HCL := Lib.hid (fun j => codeK_len N T c (Z, st4) j)
    have HK0 : Hid (codeK N T c 0 (Z, st4) = (Z, st4)) := Lib.hid rfl
    go_wp2_with (go_at_call 79; (with_reducible refine (HOR.out _).mono ?_); rintro e w5 ⟨rfl, hb5⟩; (have HB5 := Lib.hid hb5; clear hb5))
    have HO5 := Lib.hid (HOM.out.up HB5.out)
    have HB4 := Lib.hid (below_alloc wc (.cells MC 3))
    have HS5 := Lib.hid ((HS4.out.up HB4.out).up HB5.out)
    have HF5 : Hid (Three q g b w w5) := Lib.hid ((HF4.out.trans (fx_below HB4.out)).trans (fx_below HB5.out))
    have HH5 := Lib.hid ((HH4.out.up HB4.out).up HB5.out)
    have hgc5 : wc.heap.size < w5.heap.size := Nat.lt_of_lt_of_le (by simp) HB5.out.size
    clear HOM HB4 HB5 HS4 HF4 HH4 hmk HOR
    generalize wc.heap.size = gc at *
    go_loopg [33] 20 (fun gk i wr => ∃ j, j ≤ 19 ∧ i = .int .i64 (j : Nat) ∧ Own wr w.heap.size 3 (.slice (some ⟨gc, 0, none⟩) 19 19) (ints (nls (codeK N T c j (Z, st4)).1)) ∧ SrcT wr q g s (codeK N T c j (Z, st4)).2 ∧ Three q g b w wr ∧ BoxH wr b fin k z (.slice none 0 0) (.slice none 0 0) ∧ gk = 20 - j)
    case atStart => exact ⟨0, Nat.zero_le _, rfl, by rw [HK0.out]; exact HO5.out, by rw [HK0.out]; exact HS5.out, HF5.out, HH5.out, rfl⟩
    case round =>
      clear HO5 HS5 HF5 HH5 HK0
      obtain ⟨j, hj, rfl, ho, hsr, hf, hh, hgk⟩ := hrel
      have HOW := Lib.hid ho
      have HSW := Lib.hid hsr
      have HFW := Lib.hid hf
      have HHW := Lib.hid hh
      have hszr := hf.size
      have hgcw := (ho.lt gc rfl).2
      have hcl := HCL.out j
      have hst := HSTEP.out j
      clear ho hsr hf hh
      by_cases hlt : j < 19
      · clear HSTEP HCL HD
        generalize codeK N T c j (Z, st4) = K at *
        obtain ⟨L, en, p5⟩ := K
        have HST := Lib.hid hst
        have hcell := HO.out j hlt
        have hy := ordN_lt j
        have hji : (j : Int) < 19 := by omega
        have hixO := run_index_arr (P := Tryz.prog) 129 3 19 Tryz.underlying129 Tryz.underlying3 (by kernel_rfl) O j hlt _ hcell
        have HLL : Hid (L.length = 19) := Lib.hid (by rw [← HZ.out]; exact hcl)
        clear hst hcl
        generalize ordN.getD j 0 = y at *
        have c0 := HSW.out.src.c0
        have c1 := HSW.out.src.c1
        have he : (((L, en, p5).2.1 : Nat) : Int) = (en : Int) := rfl
        rw [he] at c1
        clear he
        have hqr := HSW.out.src.lt
        by_cases hc : j < 4 + c
        · have hci : (j : Int) < ((4 + c : Nat) : Int) := by omega
          by_cases h0 : en = 0
          · subst h0
            have HK2 : Hid (codeK N T c (j + 1) (Z, st4) = (L.set y (xb N T 3 (0, p5)).1, (xb N T 3 (0, p5)).2)) := Lib.hid (by rw [HST.out]; exact if_pos ⟨hc, rfl⟩)
            have HBC := Lib.hid (HB4.out wr (0, p5) HSW.out)
            generalize xb N T 3 (0, p5) = r at *
            obtain ⟨x, st6⟩ := r
            clear HST HB4
            have hd : Hd wr (some ⟨gc, 0, none⟩) 19 19 gc 0 := ⟨fun _ => rfl, Nat.le_refl _, by decide, by decide, fun _ => hgcw⟩
            have hixk := fun W : World => index_any (P := Tryz.prog) 35 3 Tryz.underlying35 (by kernel_rfl) hd W .i64 (y : Int) (by omega) (by omega)
            simp only [Nat.zero_add, Int.toNat_natCast] at hixk
            have HSL : Hid ((ints (nls L)).set y (.int .i64 (x : Nat)) = ints (nls (L.set y x))) := Lib.hid (by rw [ints_set', nls_set])
            clear hd
            go_wp2_with (go_at_call 55; (with_reducible refine HBC.out.mono ?_); rintro e w6 ⟨rfl, hb1, hb2⟩; (have HS6 := Lib.hid hb1; have HF6 := Lib.hid (HFW.out.trans (Three.of2 hb2)); have HH6 := Lib.hid (HHW.out.fx hb2 (fun e => e.elim (fun e => hq e.symm) (fun e => hg e.symm))); have HO6 := Lib.hid (hb2.ownB HOW.out (fun k hk => hk.elim (fun e => by omega) (fun e => by omega))); have hf6 := HO6.out.free y; have hgc6 := (HO6.out.lt gc rfl).2; have HSET := Lib.hid (HO6.out.store y (.int .i64 (x : Nat))); have hcc6 := HO6.out.cell (i := y) (by rw [ints_nls_len]; show y < L.length; rw [HLL.out]; exact hy); clear hb1 hb2))
            go_roundg (20 - (j + 1))
            case measure => omega
            case rel =>
              have hset := HSET.out
              rw [HSL.out] at hset
              refine ⟨j + 1, by omega, by go_num, ?_, ?_, ?_, ?_, rfl⟩
              · rw [HK2.out]; exact hset.1
              · rw [HK2.out]
                exact ⟨HS6.out.src.keep hset.2 (fun e => by injection e with e; omega), HS6.out.box.stay hset.2 (fun e => by injection e with e; omega), HS6.out.ne, HS6.out.le, HS6.out.err⟩
              · exact HF6.out.grown hset.2 (fun k e => .inr (by injection e with e; omega))
              · exact HH6.out.stay hset.2 (fun e => by injection e with e; omega)
          · have h0' : ((en : Int) == 0) = false := by simp; omega
            have HK2 : Hid (codeK N T c (j + 1) (Z, st4) = (L, en, p5)) := Lib.hid (by rw [HST.out]; exact if_neg (fun z => h0 z.2))
            clear HST HB4 h0
            go_wp2
            go_roundg (20 - (j + 1))
            case measure => omega
            case rel => exact ⟨j + 1, by omega, by go_num, by rw [HK2.out]; exact HOW.out, by rw [HK2.out]; exact HSW.out, HFW.out, HHW.out, rfl⟩
        · have hci : ¬ (j : Int) < ((4 + c : Nat) : Int) := by omega
          have HK2 : Hid (codeK N T c (j + 1) (Z, st4) = (L, en, p5)) := Lib.hid (by rw [HST.out]; exact if_neg (fun z => hc z.1))
          clear HST HB4
          go_wp2
          go_roundg (20 - (j + 1))
          case measure => omega
          case rel => exact ⟨j + 1, by omega, by go_num, by rw [HK2.out]; exact HOW.out, by rw [HK2.out]; exact HSW.out, HFW.out, HHW.out, rfl⟩
      · obtain rfl : j = 19 := by omega
        clear hlt HSTEP HB4 HO hst
        generalize codeK N T c 19 (Z, st4) = K at *
        obtain ⟨L, en, p5⟩ := K
        have hcl' : L.length = 19 := by rw [← HZ.out]; exact hcl
        have HLL := Lib.hid hcl'
        have c0 := HSW.out.src.c0
        have c1 := HSW.out.src.c1
        have he : (((L, en, p5).2.1 : Nat) : Int) = (en : Int) := rfl
        rw [he] at c1
        have hqr := HSW.out.src.lt
        have HLT : Hid (wr.cell? ⟨q, 1, none⟩ = wr.cell? ⟨q, 1, none⟩) := Lib.hid rfl
        clear he hcl hcl' HLT HCL HZ H4
        by_cases h0 : en = 0
        · subst h0
          have HI := Lib.hid (show IntsAt wr (.slice (some ⟨gc, 0, none⟩) 19 19) (nls L) from HOW.out.sl)
          have HFI := Lib.hid (fun (W : World) (hb : Below wr.heap.size wr W) => fitsP (.slice (some ⟨gc, 0, none⟩) 19 19) (nls L) false W (HI.out.up hb))
          have HNW := Lib.hid (newP (.slice (some ⟨gc, 0, none⟩) 19 19) (nls L) wr HI.out)
          unfold RetTab at HNW
          have HFE := Lib.hid (fun h => fitsE_bad (l := nls L) false h)
          have HFL := Lib.hid (fitsE_le (nls L) false)
          have HEL := Lib.hid (fun h => errI_list (l := nls L) h)
          have hhd := HD.out
          unfold dynL at hhd
          dsimp only at hhd
          have hen0 : ¬ ((0 : Nat) ≠ 0) := fun h => h rfl
          rw [if_neg hen0] at hhd
          have HD2 := Lib.hid hhd
          clear HD hhd hen0
          generalize fitsE (nls L) false = F at *
          generalize errI (nls L) = E at *
          by_cases hF : F = 0
          · subst hF
            have hE : E = 0 := by
              apply Classical.byContradiction; intro hn
              exact hn (HFE.out hn).symm
            subst hE
            have HD3 : Hid (D = if (rowN N T L (257 + a + (1 + d)) (257 + a + (1 + d) + 1) [] (0, p5)).2.1 ≠ 0 then ([], [], (rowN N T L (257 + a + (1 + d)) (257 + a + (1 + d) + 1) [] (0, p5)).2) else ((rowN N T L (257 + a + (1 + d)) (257 + a + (1 + d) + 1) [] (0, p5)).1.take (257 + a), (rowN N T L (257 + a + (1 + d)) (257 + a + (1 + d) + 1) [] (0, p5)).1.drop (257 + a), fits2 ((rowN N T L (257 + a + (1 + d)) (257 + a + (1 + d) + 1) [] (0, p5)).1.take (257 + a)) ((rowN N T L (257 + a + (1 + d)) (257 + a + (1 + d) + 1) [] (0, p5)).1.drop (257 + a)), (rowN N T L (257 + a + (1 + d)) (257 + a + (1 + d) + 1) [] (0, p5)).2.2)) := Lib.hid (by rw [HD2.out, if_neg (fun h => h rfl)])
            have hla := HLA.out
            have hlb := HLB.out
            rw [← hla, ← hlb] at HD3
            clear hla hlb HD2
            obtain ⟨L', hL', -, h15, -⟩ := HEL.out rfl
            have hLL' : L' = L := by
              have := congrArg (List.map Int.toNat) hL'
              rw [nls_toNat, nls_toNat] at this
              exact this.symm
            subst hLL'
            clear hL' HEL HFE
            have hnn := HNN.out
            have htt := HTT.out
            subst hnn htt
            have HN : Hid (Calls Tryz.prog 38 #[.slice (some ⟨gc, 0, none⟩) 19 19] wr fun e w' => ∃ gt, e = .returned (.tuple #[.pointer (some ⟨gt, 0, none⟩), .int .i64 0]) ∧ TabAt w' wr.heap.size gt L' ∧ Below wr.heap.size wr w') := Lib.hid (HNW.out.mono fun e w' ⟨hb, h⟩ => by
              rcases h with ⟨-, gt, he, hT⟩ | ⟨hne, -⟩
              · rw [nls_toNat] at hT; exact ⟨gt, he, hT, hb⟩
              · exact absurd rfl hne)
            have H15 := Lib.hid h15
            clear HNW h15
            obtain ⟨r, hr⟩ : ∃ r, r = rowN (numS s) (8 * s.size) L' (la + lb) (la + lb + 1) [] (0, p5) := ⟨_, rfl⟩
            have HRL : Hid (r.2.1 = 0 → r.1.length = la + lb) := Lib.hid (fun h => by rw [hr] at h ⊢; exact rowN_len _ _ _ _ _ _ _ (Nat.zero_le _) (by simp) h)
            have hq2 := HSW.out.src.lt
            have hg2 := HSW.out.box.lt
            have HROW : Hid (∀ (W : World) (gt : Nat), SrcT W q g s (0, p5) → TabAt W wr.heap.size gt L' → Calls Tryz.prog 81 #[.pointer (some ⟨q, 0, none⟩), .pointer (some ⟨gt, 0, none⟩), .int .i64 ((la : Int) + (lb : Int))] W fun e w' => ∃ v, e = .returned v ∧ Own w' W.heap.size 3 v (ints (nls r.1)) ∧ SrcT w' q g s r.2 ∧ Two q g W w') := Lib.hid (fun W gt hW hT => by
              have := HRS.out W gt (0, p5) hW (la + lb) (by omega) L' (by rw [HLL.out]; decide) (fun W' p' hf hb hp => HRP.out W' wr.heap.size gt p' L' (hT.fx hf (fun k hk => hk.elim (fun e => by omega) (fun e => by omega))) H15.out hb hp)
              rw [← hr, Int.natCast_add] at this
              exact this)
            rw [← hr] at HD3
            clear hr HRS HRP
            obtain ⟨R, en6, p6⟩ := r
            dsimp only at HD3 HRL HROW
            by_cases h6 : en6 = 0
            · subst h6
              have HRL2 : Hid (R.length = la + lb) := Lib.hid (HRL.out rfl)
              have HDX : Hid (D = (R.take la, R.drop la, fits2 (R.take la) (R.drop la), p6)) := Lib.hid (by rw [HD3.out]; exact if_neg (fun h => h rfl))
              have HTB : Hid (∀ {w7 w8 : World} {gt : Nat}, TabAt w7 wr.heap.size gt L' → Below w7.heap.size w7 w8 → TabAt w8 wr.heap.size gt L') := Lib.hid (fun h hb => h.fx (S := fun _ => False) (fx_below hb) (fun k hk => hk.elim))
              clear HD3 HRL
              go_wp2_with (first | (go_at_call 38; (with_reducible refine HN.out.mono ?_); rintro e w7 ⟨gt, rfl, hT7, hb7⟩; (have HT7 := Lib.hid hT7; have HB7 := Lib.hid hb7; have HFC := Lib.hid (HFI.out w7 hb7); clear hT7 hb7)) | (go_at_call 80; (with_reducible refine HFC.out.mono ?_); rintro e w8 ⟨rfl, hb8⟩; (have HB8 := Lib.hid (below_up HB7.out hb8); have HS8 := Lib.hid (HSW.out.up (below_up HB7.out hb8)); have HT8 := Lib.hid (HTB.out HT7.out hb8); have HRC := Lib.hid (HROW.out w8 gt HS8.out HT8.out); clear hb8)) | (go_at_call 81; (with_reducible refine HRC.out.mono ?_); rintro e w9 ⟨v9, rfl, hb9, hc9, hd9⟩; (have HR9 := Lib.hid hb9; have HS9 := Lib.hid hc9; have HF9 := Lib.hid hd9; have cc9 := hc9.src.c1; have cq9 := hc9.src.lt; have hee : (((0, p6) : Nat × Nat).1 : Int) = (0 : Int) := rfl; rw [hee] at cc9; clear hb9 hc9 hd9 hee)))
              have HF9W : Hid (Three q g b w w9) := Lib.hid ((HFW.out.trans (fx_below HB8.out)).trans (Three.of2 HF9.out))
              have HH9 := Lib.hid ((HHW.out.up HB8.out).fx HF9.out (fun e => e.elim (fun e => hq e.symm) (fun e => hg e.symm)))
              have hrl := HRL2.out
              obtain ⟨u1, hu1, hsl1⟩ := HR9.out.sl.low (P := Tryz.prog) 35 3 Tryz.underlying35 (by kernel_rfl) la (by rw [ints_nls_len]; omega)
              obtain ⟨u2, hu2, hsl2⟩ := HR9.out.sl.high (P := Tryz.prog) 35 3 Tryz.underlying35 (by kernel_rfl) la (by rw [ints_nls_len]; omega)
              rw [ints_take] at hsl1
              rw [ints_drop] at hsl2
              have HL1 := Lib.hid hsl1
              have HL2 := Lib.hid hsl2
              have HN1 : Hid ((ints (nls (R.take la))).length ≤ 4294967296 ∧ (ints (nls (R.drop la))).length ≤ 4294967296) := Lib.hid (by simp [ints, nls]; omega)
              have HZ0 : Hid (w.heap.size ≤ w9.heap.size) := Lib.hid HF9W.out.size
              clear hsl1 hsl2 hrl HSW HFW HHW HOW HFI HN HROW HB7 HFC HB8 HS8 HT8 HT7 HRC HF9 HTB HI c0 c1
              refine wp_region_scr (C := fun w' => ∃ x, w' = chg w9 (some b) x) (.q 0 (.q 1 (.q 2 (.q 3 (.q 4 (.q 6 (.q 7 (.q 8 (.br 5 (.br 9 (.br 10 (.br 11 (.br 12 (.br 13 (.br 14 (.br 15 .done .no) .no) .no) .no) .no) .no) .no) .no))))))))) (by kernel_rfl) (by kernel_rfl) (ex_chg (grown_drew _ _)) ?_
              have HB10 : Hid (Below w9.heap.size w9 w9.drew) := Lib.hid (b_drew1 (Below.refl _ _))
              generalize w9.drew = w10 at *
              have HR10 := Lib.hid HB10.out.size
              (repeat ((unfold wpScr; simp only [pick, List.map_cons, List.map_nil, List.getD_cons_zero, List.getD_cons_succ]); go_big_quiet_step (fail); refine wpQuiet_nil ?_))
              ((unfold wpScr; simp only [pick, List.map_cons, List.map_nil, List.getD_cons_zero, List.getD_cons_succ]); refine ⟨?_, by unfold wpScr; trivial⟩; unfold wpAct)
              go_wp2_with (at_builtin; refine wpList_app rfl (.const (.slice none 0 0)) (.tmp 91) 35 rfl w.heap.size 3 (.int .i64 0) 8 Tryz.underlying35 (by kernel_rfl) rfl (by decide) (.slice none 0 0) [] rfl (Own.nil _ _ _) u1 (ints (nls (R.take la))) rfl (HL1.out.up HB10.out) (ints_cell _) (by have := HN1.out.1; simpa using this) (Nat.le_trans HZ0.out HR10.out) ?_; intro v1 w11 hown1 hg1 hk1; (have HO11 := Lib.hid hown1; have HG11 := Lib.hid hg1; clear hown1 hg1 hk1))
              have HB11 : Hid (Below w9.heap.size w9 w11) := Lib.hid (HB10.out.grown HG11.out HR10.out (fun k hk => by cases hk))
              refine ⟨ex_chg (grown_below HB11.out _), ?_⟩
              unfold wpAct
              ((unfold wpScr; simp only [pick, List.map_cons, List.map_nil, List.getD_cons_zero, List.getD_cons_succ]); refine ⟨?_, by unfold wpScr; trivial⟩; unfold wpAct)
              go_wp2_with (at_builtin; refine wpList_app rfl (.const (.slice none 0 0)) (.tmp 95) 35 rfl w.heap.size 3 (.int .i64 0) 8 Tryz.underlying35 (by kernel_rfl) rfl (by decide) (.slice none 0 0) [] rfl (Own.nil _ _ _) u2 (ints (nls (R.drop la))) rfl (HL2.out.up HB11.out) (ints_cell _) (by have := HN1.out.2; simpa using this) (Nat.le_trans HZ0.out HB11.out.size) ?_; intro v2 w12 hown1 hg1 hk1; (have HO12 := Lib.hid hown1; have HG12 := Lib.hid hg1; clear hown1 hg1 hk1))
              have HB12 : Hid (Below w9.heap.size w9 w12) := Lib.hid (HB11.out.grown HG12.out HB11.out.size (fun k hk => by cases hk))
              refine ⟨ex_chg (grown_below HB12.out _), ?_⟩
              unfold wpAct
              have HO13 := Lib.hid (HO11.out.keep HG12.out (ne_of_row (fun k hk e => by cases e)))
              rw [List.nil_append] at HO12 HO13
              obtain ⟨o1, c1', g1, hv1, -⟩ := HO13.out.cases
              obtain ⟨o2, c2', g2, hv2, -⟩ := HO12.out.cases
              subst hv1 hv2
              generalize (ints (nls (R.take la))).length = n1 at *
              generalize (ints (nls (R.drop la))).length = n2 at *
              have HH12 := Lib.hid (HH9.out.up HB12.out)
              have hb12 := HH12.out.lt
              have hf12 := HH12.out.free 3
              have hc12 := HH12.out.c3
              have HST := Lib.hid (HH12.out.set3 (.slice o1 n1 c1'))
              clear HO11 HG11 HG12 HB11 HB10 HL1 HL2
              (((unfold wpScr; simp only [pick, List.map_cons, List.map_nil, List.getD_cons_zero, List.getD_cons_succ]); refine ⟨?_, by unfold wpScr; trivial⟩; unfold wpAct); go_wp2; refine ⟨ex_chg (grown_below HB12.out _), ?_⟩)
              unfold wpAct
              (((unfold wpScr; simp only [pick, List.map_cons, List.map_nil, List.getD_cons_zero, List.getD_cons_succ]); refine ⟨?_, by unfold wpScr; trivial⟩; unfold wpAct); go_wp2; refine ⟨ex_chg (grown_below HB12.out _), ?_⟩)
              unfold wpAct
              (((unfold wpScr; simp only [pick, List.map_cons, List.map_nil, List.getD_cons_zero, List.getD_cons_succ]); refine ⟨?_, by unfold wpScr; trivial⟩; unfold wpAct); go_wp2; refine ⟨ex_chg (grown_trans (grown_below HB12.out _) HST.out.2), ?_⟩)
              unfold wpAct
              have HH13 := Lib.hid HST.out.1
              have hb13 := HH13.out.lt
              have hf13 := HH13.out.free 4
              have hc13 := HH13.out.c4
              have HST2 := Lib.hid (HH13.out.set4 (.slice o2 n2 c2'))
              have HG13 := Lib.hid (grown_trans (grown_below HB12.out (some b)) HST.out.2)
              have HO14 := Lib.hid (HO13.out.keep HST.out.2 (ne_of_row (fun k hk e => by have := (HO13.out.lt k hk).1; injection e with e; omega)))
              have HP14 := Lib.hid (HO12.out.keep HST.out.2 (ne_of_row (fun k hk e => by have := (HO12.out.lt k hk).1; injection e with e; omega)))
              clear hb12 hf12 hc12 HST HH12 HB12 HO13 HO12
              generalize w12.setCell ⟨b, 3, none⟩ (.slice o1 n1 c1') = w13 at *
              (((unfold wpScr; simp only [pick, List.map_cons, List.map_nil, List.getD_cons_zero, List.getD_cons_succ]); refine ⟨?_, by unfold wpScr; trivial⟩; unfold wpAct); go_wp2; refine ⟨ex_chg HG13.out, ?_⟩)
              unfold wpAct
              (((unfold wpScr; simp only [pick, List.map_cons, List.map_nil, List.getD_cons_zero, List.getD_cons_succ]); refine ⟨?_, by unfold wpScr; trivial⟩; unfold wpAct); go_wp2; refine ⟨ex_chg HG13.out, ?_⟩)
              unfold wpAct
              (((unfold wpScr; simp only [pick, List.map_cons, List.map_nil, List.getD_cons_zero, List.getD_cons_succ]); refine ⟨?_, by unfold wpScr; trivial⟩; unfold wpAct); go_wp2; refine ⟨ex_chg (grown_trans HG13.out HST2.out.2), ?_⟩)
              unfold wpAct
              unfold wpScr
              first | (intro _ hqq; clear hqq) | (intro hqq; clear hqq)
              have HG14 := Lib.hid (grown_trans HG13.out HST2.out.2)
              have HH14 := Lib.hid HST2.out.1
              have HO15 := Lib.hid (HO14.out.keep HST2.out.2 (ne_of_row (fun k hk e => by have := (HO14.out.lt k hk).1; injection e with e; omega)))
              have HP15 := Lib.hid (HP14.out.keep HST2.out.2 (ne_of_row (fun k hk e => by have := (HP14.out.lt k hk).1; injection e with e; omega)))
              clear HST2 hb13 hf13 hc13 HH13 HG13 HO14 HP14
              generalize w13.setCell ⟨b, 4, none⟩ (.slice o2 n2 c2') = w14 at *
              have HS14 : Hid (SrcT w14 q g s (0, p6)) := Lib.hid (HS9.out.kept HG14.out (fun e => hq (by injection e with e; exact e.symm)) (fun e => hg (by injection e with e; exact e.symm)))
              have HF14 : Hid (Three q g b w w14) := Lib.hid (HF9W.out.trans (Three.ofb HG14.out))
              clear HG14 HF9W HS9 HH9 cc9
              have cb3 := HH14.out.c3
              have cb4 := HH14.out.c4
              have hb14 := HH14.out.lt
              have HLE := Lib.hid (fits2_le (R.take la) (R.drop la))
              have HLT : Hid (256 < (R.take la).length) := Lib.hid (by have := HRL2.out; have := HLA.out; simp; omega)
              have HFT : Hid (∀ W, Below w14.heap.size w14 W → Calls Tryz.prog 82 #[.slice o1 n1 c1', .slice o2 n2 c2'] W fun e w' => e = .returned (.int .i64 (fits2 (R.take la) (R.drop la) : Nat)) ∧ Below W.heap.size W w') := Lib.hid (fun W hb => fits2P _ _ _ _ W (show IntsAt W _ _ from HO15.out.sl.up hb) (show IntsAt W _ _ from HP15.out.sl.up hb) HLT.out)
              have HFG := Lib.hid (fun (W : World) (hb : Below w14.heap.size w14 W) => HFA.out W (0, p6) (fits2 (R.take la) (R.drop la)) HLE.out (HS14.out.up hb))
              clear HRL2 HLE HLT
              generalize fits2 (R.take la) (R.drop la) = fe at *
              have HXF : Hid (xf fe (0, p6) = (fe, p6)) := Lib.hid rfl
              rw [HXF.out] at HFG
              go_wp2
              refine wp_region_tailg [0,1,2,3,4,5,6,7,8] [9] [10] (by kernel_rfl) (by kernel_rfl) ?_
              simp only [pick, List.map_cons, List.map_nil, List.getD_cons_zero, List.getD_cons_succ]
              repeat (go_big_quiet_step (fail))
              refine wpQuiet_nil ?_
              have HB15 : Hid (Below w14.heap.size w14 w14.drew) := Lib.hid (b_drew1 (Below.refl _ _))
              generalize w14.drew = w15 at *
              unfold wpAct
              go_wp2_with (go_at_call 82; (with_reducible refine (HFT.out _ HB15.out).mono ?_); rintro e w16 ⟨rfl, hb16⟩; (have HB16 := Lib.hid (HB15.out.trans (hb16.mono HB15.out.size)); clear hb16))
              refine ⟨ex_ext HB16.out, ?_⟩
              unfold wpAct
              unfold wpAct
              go_wp2_with (go_at_call 60; (with_reducible refine (HFG.out _ HB16.out).mono ?_); rintro e w17 ⟨rfl, hs17, hf17⟩; (have HS17 := Lib.hid hs17; have HF17 := Lib.hid hf17; clear hs17 hf17))
              refine ⟨trivial, ?_⟩
              unfold wpAct
              go_wp2
              go_end0
              rw [HDX.out]
              have hwb : w.heap.size ≤ w14.heap.size := HF14.out.size
              exact ⟨rfl, HS17.out, (HF14.out.trans (fx_below HB16.out)).trans (Three.of2 HF17.out), _, _, (HH14.out.up HB16.out).fx HF17.out (fun e => e.elim (fun e => hq e.symm) (fun e => hg e.symm)), fun _ => ⟨HF17.out.ownB (HO15.out.up HB16.out) (fun k hk => hk.elim (fun e => by omega) (fun e => by omega)), HF17.out.ownB (HP15.out.up HB16.out) (fun k hk => hk.elim (fun e => by omega) (fun e => by omega))⟩⟩
            · have h6' : ((en6 : Int) != 0) = true := by simpa using h6
              have HDX : Hid (D = ([], [], (en6, p6))) := Lib.hid (by rw [HD3.out]; exact if_pos h6)
              have HTB : Hid (∀ {w7 w8 : World} {gt : Nat}, TabAt w7 wr.heap.size gt L' → Below w7.heap.size w7 w8 → TabAt w8 wr.heap.size gt L') := Lib.hid (fun h hb => h.fx (S := fun _ => False) (fx_below hb) (fun k hk => hk.elim))
              clear HD3 h6 HRL
              go_wp2_with (first | (go_at_call 38; (with_reducible refine HN.out.mono ?_); rintro e w7 ⟨gt, rfl, hT7, hb7⟩; (have HT7 := Lib.hid hT7; have HB7 := Lib.hid hb7; have HFC := Lib.hid (HFI.out w7 hb7); clear hT7 hb7)) | (go_at_call 80; (with_reducible refine HFC.out.mono ?_); rintro e w8 ⟨rfl, hb8⟩; (have HB8 := Lib.hid (below_up HB7.out hb8); have HS8 := Lib.hid (HSW.out.up (below_up HB7.out hb8)); have HT8 := Lib.hid (HTB.out HT7.out hb8); have HRC := Lib.hid (HROW.out w8 gt HS8.out HT8.out); clear hb8)) | (go_at_call 81; (with_reducible refine HRC.out.mono ?_); rintro e w9 ⟨v9, rfl, hb9, hc9, hd9⟩; (have HR9 := Lib.hid hb9; have HS9 := Lib.hid hc9; have HF9 := Lib.hid hd9; have cc9 := hc9.src.c1; have cq9 := hc9.src.lt; have hee : (((en6, p6).1 : Nat) : Int) = (en6 : Int) := rfl; rw [hee] at cc9; clear hb9 hc9 hd9 hee)))
              ((try simp only [Exit.inBlock, Exit.then]); refine bodyPost_ret (results_none rfl _ _ _) rfl ?_)
              rw [HDX.out]
              have h6 : en6 ≠ 0 := by simpa using h6'
              exact ⟨rfl, HS9.out, (HFW.out.trans (fx_below HB8.out)).trans (Three.of2 HF9.out), _, _, (HHW.out.up HB8.out).fx HF9.out (fun e => e.elim (fun e => hq e.symm) (fun e => hg e.symm)), fun h => absurd h h6⟩
          · have HDX : Hid (D = ([], [], (F, p5))) := Lib.hid (by rw [HD2.out]; exact if_pos hF)
            have HXF : Hid (xf F (0, p5) = (F, p5)) := Lib.hid rfl
            have hFi : ((F : Int) != 0) = true := by simpa using hF
            clear HD2 HRS HRP HEL
            by_cases hE : E = 0
            · subst hE
              have HN : Hid (Calls Tryz.prog 38 #[.slice (some ⟨gc, 0, none⟩) 19 19] wr fun e w' => ∃ gt, e = .returned (.tuple #[.pointer (some ⟨gt, 0, none⟩), .int .i64 0]) ∧ Below wr.heap.size wr w') := Lib.hid (HNW.out.mono fun e w' ⟨hb, h⟩ => by
                rcases h with ⟨-, gt, he, -⟩ | ⟨hne, -⟩
                · exact ⟨gt, he, hb⟩
                · exact absurd rfl hne)
              have hmx : (F : Int) > 0 := by omega
              clear HNW
              go_wp2_with (first | (go_at_call 38; (with_reducible refine HN.out.mono ?_); rintro e w7 ⟨gt, rfl, hb7⟩; (have HB7 := Lib.hid hb7; have HFC := Lib.hid (HFI.out w7 hb7); clear hb7)) | (go_at_call 80; (with_reducible refine HFC.out.mono ?_); rintro e w8 ⟨rfl, hb8⟩; (have HB8 := Lib.hid (below_up HB7.out hb8); have HS8 := Lib.hid (HSW.out.up (below_up HB7.out hb8)); have HFAC := Lib.hid (HFA.out w8 (0, p5) F HFL.out HS8.out); clear hb8)) | (go_at_call 60; (with_reducible refine HFAC.out.mono ?_); rintro e w9 ⟨rfl, hb9, hc9⟩; (have HS9 := Lib.hid hb9; have HF9 := Lib.hid hc9; clear hb9 hc9)))
              ((try simp only [Exit.inBlock, Exit.then]); refine bodyPost_ret (results_none rfl _ _ _) rfl ?_)
              rw [HXF.out] at HS9
              rw [HDX.out]
              exact ⟨rfl, HS9.out, (HFW.out.trans (fx_below HB8.out)).trans (Three.of2 HF9.out), _, _, (HHW.out.up HB8.out).fx HF9.out (fun e => e.elim (fun e => hq e.symm) (fun e => hg e.symm)), fun h => absurd h hF⟩
            · have HN : Hid (Calls Tryz.prog 38 #[.slice (some ⟨gc, 0, none⟩) 19 19] wr fun e w' => e = .returned (.tuple #[.pointer none, .int .i64 (F : Nat)]) ∧ Below wr.heap.size wr w') := Lib.hid (HNW.out.mono fun e w' ⟨hb, h⟩ => by
                rcases h with ⟨he, -⟩ | ⟨hne, he⟩
                · exact absurd he hE
                · rw [HFE.out hE]; exact ⟨he, hb⟩)
              clear HNW hF hE HFE
              go_wp2_with (first | (go_at_call 38; (with_reducible refine HN.out.mono ?_); rintro e w7 ⟨rfl, hb7⟩; (have HB7 := Lib.hid hb7; have HFC := Lib.hid (HFI.out w7 hb7); clear hb7)) | (go_at_call 80; (with_reducible refine HFC.out.mono ?_); rintro e w8 ⟨rfl, hb8⟩; (have HB8 := Lib.hid (below_up HB7.out hb8); have HS8 := Lib.hid (HSW.out.up (below_up HB7.out hb8)); have HFAC := Lib.hid (HFA.out w8 (0, p5) F HFL.out HS8.out); clear hb8)) | (go_at_call 60; (with_reducible refine HFAC.out.mono ?_); rintro e w9 ⟨rfl, hb9, hc9⟩; (have HS9 := Lib.hid hb9; have HF9 := Lib.hid hc9; clear hb9 hc9)))
              ((try simp only [Exit.inBlock, Exit.then]); refine bodyPost_ret (results_none rfl _ _ _) rfl ?_)
              rw [HXF.out] at HS9
              rw [HDX.out]
              have hF : F ≠ 0 := by simpa using hFi
              exact ⟨rfl, HS9.out, (HFW.out.trans (fx_below HB8.out)).trans (Three.of2 HF9.out), _, _, (HHW.out.up HB8.out).fx HF9.out (fun e => e.elim (fun e => hq e.symm) (fun e => hg e.symm)), fun h => absurd h hF⟩
        · have h0' : ((en : Int) != 0) = true := by simpa using h0
          have HDX : Hid (D = ([], [], (en, p5))) := Lib.hid (by rw [HD.out]; unfold dynL; exact if_pos h0)
          have HS9 := Lib.hid HSW.out
          clear HD
          go_wp2
          ((try simp only [Exit.inBlock, Exit.then]); refine bodyPost_ret (results_none rfl _ _ _) rfl ?_)
          rw [HDX.out]
          exact ⟨rfl, HSW.out, HFW.out, _, _, HHW.out, fun h => absurd h h0⟩
end Go.Cm

/- The document's times: a row and n more of x. Conditions: the argument reads as a list. -/
namespace Go.Cm
open Go.RowKit Go.Proofs

theorem timesR (v : Value) (l : List Nat) (n x : Nat) (w : World) (h : Sl w v (ints (nls l))) (hl : l.length + n ≤ 1000000) :
    Calls Tryz.prog 68 #[v, .int .i64 n, .int .i64 x] w fun e w' => ∃ v', e = .returned v' ∧ Own w' w.heap.size 3 v' (ints (nls (l ++ List.replicate n x))) ∧ Below w.heap.size w w' := by
  have HSL := Lib.hid h
  have HL : Hid (∀ k, k < n → (ints (nls (l ++ List.replicate k x))).length + 1 ≤ 4294967296) := Lib.hid (fun k hk => by simp [ints, nls]; omega)
  have HL0 : Hid ((ints (nls l)).length ≤ 4294967296) := Lib.hid (by simp [ints, nls]; omega)
  have HAP := Lib.hid (fun k => row_app l k x)
  have H0 : Hid (ints (nls l) = ints (nls (l ++ List.replicate 0 x))) := Lib.hid (by simp)
  clear h
  go_enter Tryz.func68, Tryz.ntmps68
  go_wp2_with (at_builtin; refine wpList_app rfl (.tmp 9) (.tmp 10) 35 rfl w.heap.size 3 (.int .i64 0) 8 Tryz.underlying35 (by kernel_rfl) rfl (by decide) (.slice none 0 0) [] rfl (Own.nil _ _ _) v (ints (nls l)) rfl HSL.out (ints_cell _) (by have := HL0.out; simpa using this) (Nat.le_refl _) ?_; intro v1 w1 hown1 hg1 hk1; (have HO1 := Lib.hid hown1; have HG1 := Lib.hid hg1; clear hown1 hg1 hk1))
  go_loopg [7, 8] n (fun gk r i wr => ∃ k : Nat, k ≤ n ∧ i = .int .i64 k ∧ Own wr w.heap.size 3 r (ints (nls (l ++ List.replicate k x))) ∧ Below w.heap.size w wr ∧ gk = n - k)
  case atStart => exact ⟨0, Nat.zero_le _, rfl, by rw [← H0.out]; exact HO1.out, (Below.refl _ _).grown HG1.out (Nat.le_refl _) (fun k hk => by cases hk), rfl⟩
  case round =>
    obtain ⟨k, hk, rfl, ho, hb, hgk⟩ := hrel
    have HOW := Lib.hid ho
    have HB := Lib.hid hb
    have hsz := hb.size
    clear ho hb
    by_cases hlt : k < n
    · have HLK := Lib.hid (HL.out k hlt)
      have hki : (k : Int) < (n : Int) := by omega
      go_wp2_with (at_builtin; refine wpList_app rfl (.tmp 17) (.tmp 19) 35 rfl w.heap.size 3 (.int .i64 0) 8 Tryz.underlying35 (by kernel_rfl) rfl (by decide) u7 (ints (nls (l ++ List.replicate k x))) rfl (HOW.out.up (below_alloc _ _)) (.slice (some ⟨wr.heap.size, 0, none⟩) 1 1) (ints (nls [x])) rfl (by simpa [ints, nls] using sl_lit wr #[.int .i64 (x : Int)] 3 (by simp)) (ints_cell _) (by have := HLK.out; simpa [ints, nls] using this) (Nat.le_trans hsz (by simp)) ?_; intro v' w2 hown1 hg1 hk1; (have HO2 := Lib.hid hown1; have HG2 := Lib.hid hg1; clear hown1 hg1 hk1))
      go_roundg (n - (k + 1))
      case measure => omega
      case rel => exact ⟨k + 1, by omega, by go_num, by rw [HAP.out]; exact HO2.out, below_grown (B := w.heap.size) (HB.out.alloc hsz _) (by simp; omega) (HOW.out.up (below_alloc _ _)) HG2.out, rfl⟩
    · obtain rfl : k = n := by omega
      have hki : ¬ (k : Int) < (k : Int) := by omega
      go_wp2
      go_ret
      exact ⟨_, rfl, HOW.out, HB.out⟩
end Go.Cm

/- The lengths of a fixed block, the program's and the document's. Conditions: none. -/
namespace Go.Cm
open Go.RowKit Go.Proofs

theorem growB (v : Value) (l : List Nat) (n x : Nat) (w : World) (B : Nat) (h : Own w B 3 v (ints (nls l))) (hB : B ≤ w.heap.size) (hl : l.length + n ≤ 1000000) :
    Calls Tryz.prog 78 #[v, .int .i64 n, .int .i64 x] w fun e w' => ∃ v', e = .returned v' ∧ Own w' B 3 v' (ints (nls (l ++ List.replicate n x))) ∧ Below B w w' :=
  (growP v l n x w B h hB hl).mono fun _ _ ⟨v', h1, h2, h3, _⟩ => ⟨v', h1, h2, h3.below (Below.refl _ _) hB (fun k hk => (h.lt k hk).1)⟩
theorem timesB (v : Value) (l : List Nat) (n x : Nat) (w : World) (B : Nat) (h : Own w B 3 v (ints (nls l))) (hB : B ≤ w.heap.size) (hl : l.length + n ≤ 1000000) :
    Calls Tryz.prog 68 #[v, .int .i64 n, .int .i64 x] w fun e w' => ∃ v', e = .returned v' ∧ Own w' B 3 v' (ints (nls (l ++ List.replicate n x))) ∧ Below B w w' :=
  (timesR v l n x w h.sl hl).mono fun _ _ ⟨v', h1, h2, h3⟩ => ⟨v', h1, h2.mono hB, h3.mono hB⟩
def RetRow (l : List Nat) (w : World) (e : Ending) (w' : World) : Prop := ∃ v, e = .returned v ∧ Own w' w.heap.size 3 v (ints (nls l)) ∧ Below w.heap.size w w'
theorem fixL_eq : (((([] ++ List.replicate 144 8) ++ List.replicate 112 9) ++ List.replicate 24 7) ++ List.replicate 8 8 : List Nat) = fixL := by unfold fixL; rw [List.nil_append]
theorem fixD_eq : ([] ++ List.replicate 32 5 : List Nat) = fixD := by unfold fixD; rw [List.nil_append]
theorem fixLP (w : World) : Calls Tryz.prog 57 #[] w (RetRow fixL w) := by
  obtain ⟨a1, h1⟩ : ∃ a, a = ([] ++ List.replicate 144 8 : List Nat) := ⟨_, rfl⟩
  obtain ⟨a2, h2⟩ : ∃ a, a = a1 ++ List.replicate 112 9 := ⟨_, rfl⟩
  obtain ⟨a3, h3⟩ : ∃ a, a = a2 ++ List.replicate 24 7 := ⟨_, rfl⟩
  have h4 : fixL = a3 ++ List.replicate 8 8 := by rw [h3, h2, h1]; exact fixL_eq.symm
  have l1 : a1.length = 144 := by rw [h1]; simp
  have l2 : a2.length = 256 := by rw [h2]; simp [l1]
  have l3 : a3.length = 280 := by rw [h3]; simp [l2]
  have C1 : Hid (Calls Tryz.prog 78 #[.slice none 0 0, .int .i64 144, .int .i64 8] w fun e w' => ∃ v', e = .returned v' ∧ Own w' w.heap.size 3 v' (ints (nls a1)) ∧ Below w.heap.size w w') := Lib.hid (by rw [h1]; exact growB (.slice none 0 0) [] 144 8 w w.heap.size (Own.nil _ _ _) (Nat.le_refl _) (by simp))
  have C2 : Hid (∀ (W : World) (v : Value), Own W w.heap.size 3 v (ints (nls a1)) → w.heap.size ≤ W.heap.size → Calls Tryz.prog 78 #[v, .int .i64 112, .int .i64 9] W fun e w' => ∃ v', e = .returned v' ∧ Own w' w.heap.size 3 v' (ints (nls a2)) ∧ Below w.heap.size W w') := Lib.hid (fun W v h hB => by rw [h2]; exact growB v a1 112 9 W w.heap.size h hB (by omega))
  have C3 : Hid (∀ (W : World) (v : Value), Own W w.heap.size 3 v (ints (nls a2)) → w.heap.size ≤ W.heap.size → Calls Tryz.prog 78 #[v, .int .i64 24, .int .i64 7] W fun e w' => ∃ v', e = .returned v' ∧ Own w' w.heap.size 3 v' (ints (nls a3)) ∧ Below w.heap.size W w') := Lib.hid (fun W v h hB => by rw [h3]; exact growB v a2 24 7 W w.heap.size h hB (by omega))
  have C4 : Hid (∀ (W : World) (v : Value), Own W w.heap.size 3 v (ints (nls a3)) → w.heap.size ≤ W.heap.size → Calls Tryz.prog 78 #[v, .int .i64 8, .int .i64 8] W fun e w' => ∃ v', e = .returned v' ∧ Own w' w.heap.size 3 v' (ints (nls fixL)) ∧ Below w.heap.size W w') := Lib.hid (fun W v h hB => by rw [h4]; exact growB v a3 8 8 W w.heap.size h hB (by omega))
  clear h1 h2 h3 h4 l1 l2 l3
  generalize fixL = L at *
  go_enter Tryz.func57, Tryz.ntmps57
  go_wp2_with (go_at_call 78; first | ((with_reducible refine C1.out.mono ?_); rintro e w1 ⟨v1, rfl, ho, hb⟩; (have HO1 := Lib.hid ho; have HB1 := Lib.hid hb; clear ho hb C1)) | ((with_reducible refine (C2.out _ _ HO1.out HB1.out.size).mono ?_); rintro e w2 ⟨v2, rfl, ho, hb⟩; (have HO2 := Lib.hid ho; have HB2 := Lib.hid (HB1.out.trans hb); clear ho hb C2)) | ((with_reducible refine (C3.out _ _ HO2.out HB2.out.size).mono ?_); rintro e w3 ⟨v3, rfl, ho, hb⟩; (have HO3 := Lib.hid ho; have HB3 := Lib.hid (HB2.out.trans hb); clear ho hb C3)) | ((with_reducible refine (C4.out _ _ HO3.out HB3.out.size).mono ?_); rintro e w4 ⟨v4, rfl, ho, hb⟩; (have HO4 := Lib.hid ho; have HB4 := Lib.hid (HB3.out.trans hb); clear ho hb C4)))
  go_ret
  exact ⟨_, rfl, HO4.out, HB4.out⟩
theorem fixDP (w : World) : Calls Tryz.prog 58 #[] w (RetRow fixD w) := by
  have C1 : Hid (Calls Tryz.prog 78 #[.slice none 0 0, .int .i64 32, .int .i64 5] w fun e w' => ∃ v', e = .returned v' ∧ Own w' w.heap.size 3 v' (ints (nls fixD)) ∧ Below w.heap.size w w') := Lib.hid (by rw [← fixD_eq]; exact growB (.slice none 0 0) [] 32 5 w w.heap.size (Own.nil _ _ _) (Nat.le_refl _) (by simp))
  generalize fixD = L at *
  go_enter Tryz.func58, Tryz.ntmps58
  go_wp2_with (go_at_call 78; (with_reducible refine C1.out.mono ?_); rintro e w1 ⟨v1, rfl, ho, hb⟩; (have HO1 := Lib.hid ho; have HB1 := Lib.hid hb; clear ho hb C1))
  go_ret
  exact ⟨_, rfl, HO1.out, HB1.out⟩
theorem fixLR (w : World) : Calls Tryz.prog 43 #[] w (RetRow fixL w) := by
  obtain ⟨a1, h1⟩ : ∃ a, a = ([] ++ List.replicate 144 8 : List Nat) := ⟨_, rfl⟩
  obtain ⟨a2, h2⟩ : ∃ a, a = a1 ++ List.replicate 112 9 := ⟨_, rfl⟩
  obtain ⟨a3, h3⟩ : ∃ a, a = a2 ++ List.replicate 24 7 := ⟨_, rfl⟩
  have h4 : fixL = a3 ++ List.replicate 8 8 := by rw [h3, h2, h1]; exact fixL_eq.symm
  have l1 : a1.length = 144 := by rw [h1]; simp
  have l2 : a2.length = 256 := by rw [h2]; simp [l1]
  have l3 : a3.length = 280 := by rw [h3]; simp [l2]
  have C1 : Hid (Calls Tryz.prog 68 #[.slice none 0 0, .int .i64 144, .int .i64 8] w fun e w' => ∃ v', e = .returned v' ∧ Own w' w.heap.size 3 v' (ints (nls a1)) ∧ Below w.heap.size w w') := Lib.hid (by rw [h1]; exact timesB (.slice none 0 0) [] 144 8 w w.heap.size (Own.nil _ _ _) (Nat.le_refl _) (by simp))
  have C2 : Hid (∀ (W : World) (v : Value), Own W w.heap.size 3 v (ints (nls a1)) → w.heap.size ≤ W.heap.size → Calls Tryz.prog 68 #[v, .int .i64 112, .int .i64 9] W fun e w' => ∃ v', e = .returned v' ∧ Own w' w.heap.size 3 v' (ints (nls a2)) ∧ Below w.heap.size W w') := Lib.hid (fun W v h hB => by rw [h2]; exact timesB v a1 112 9 W w.heap.size h hB (by omega))
  have C3 : Hid (∀ (W : World) (v : Value), Own W w.heap.size 3 v (ints (nls a2)) → w.heap.size ≤ W.heap.size → Calls Tryz.prog 68 #[v, .int .i64 24, .int .i64 7] W fun e w' => ∃ v', e = .returned v' ∧ Own w' w.heap.size 3 v' (ints (nls a3)) ∧ Below w.heap.size W w') := Lib.hid (fun W v h hB => by rw [h3]; exact timesB v a2 24 7 W w.heap.size h hB (by omega))
  have C4 : Hid (∀ (W : World) (v : Value), Own W w.heap.size 3 v (ints (nls a3)) → w.heap.size ≤ W.heap.size → Calls Tryz.prog 68 #[v, .int .i64 8, .int .i64 8] W fun e w' => ∃ v', e = .returned v' ∧ Own w' w.heap.size 3 v' (ints (nls fixL)) ∧ Below w.heap.size W w') := Lib.hid (fun W v h hB => by rw [h4]; exact timesB v a3 8 8 W w.heap.size h hB (by omega))
  clear h1 h2 h3 h4 l1 l2 l3
  generalize fixL = L at *
  go_enter Tryz.func43, Tryz.ntmps43
  go_wp2_with (go_at_call 68; first | ((with_reducible refine C1.out.mono ?_); rintro e w1 ⟨v1, rfl, ho, hb⟩; (have HO1 := Lib.hid ho; have HB1 := Lib.hid hb; clear ho hb C1)) | ((with_reducible refine (C2.out _ _ HO1.out HB1.out.size).mono ?_); rintro e w2 ⟨v2, rfl, ho, hb⟩; (have HO2 := Lib.hid ho; have HB2 := Lib.hid (HB1.out.trans hb); clear ho hb C2)) | ((with_reducible refine (C3.out _ _ HO2.out HB2.out.size).mono ?_); rintro e w3 ⟨v3, rfl, ho, hb⟩; (have HO3 := Lib.hid ho; have HB3 := Lib.hid (HB2.out.trans hb); clear ho hb C3)) | ((with_reducible refine (C4.out _ _ HO3.out HB3.out.size).mono ?_); rintro e w4 ⟨v4, rfl, ho, hb⟩; (have HO4 := Lib.hid ho; have HB4 := Lib.hid (HB3.out.trans hb); clear ho hb C4)))
  go_ret
  exact ⟨_, rfl, HO4.out, HB4.out⟩
theorem fixDR (w : World) : Calls Tryz.prog 44 #[] w (RetRow fixD w) := by
  have C1 : Hid (Calls Tryz.prog 68 #[.slice none 0 0, .int .i64 32, .int .i64 5] w fun e w' => ∃ v', e = .returned v' ∧ Own w' w.heap.size 3 v' (ints (nls fixD)) ∧ Below w.heap.size w w') := Lib.hid (by rw [← fixD_eq]; exact timesB (.slice none 0 0) [] 32 5 w w.heap.size (Own.nil _ _ _) (Nat.le_refl _) (by simp))
  generalize fixD = L at *
  go_enter Tryz.func44, Tryz.ntmps44
  go_wp2_with (go_at_call 68; (with_reducible refine C1.out.mono ?_); rintro e w1 ⟨v1, rfl, ho, hb⟩; (have HO1 := Lib.hid ho; have HB1 := Lib.hid hb; clear ho hb C1))
  go_ret
  exact ⟨_, rfl, HO1.out, HB1.out⟩
end Go.Cm

/- The walk of the program's Read of a head. Conditions: the reader is there. -/
namespace Go.Cm
open Go.RowKit Go.Proofs

set_option maxRecDepth 100000 in
theorem copyS2 {w : World} {g p : Nat} {s : ByteArray} (h : BoxS w g s p) : Calls Tryz.prog 26 #[.pointer (some ⟨g, 0, none⟩)] w fun e w' => ∃ b, e = .returned (.pointer (some ⟨b, 0, none⟩)) ∧ BoxS w' b s p ∧ w.heap.size ≤ b ∧ Below w.heap.size w w' := by
  have HB := Lib.hid h
  have hg := h.lt
  obtain ⟨A, hA, hAs, hAl⟩ := h.own.whole
  have hA1 : ∀ u ∈ A.toList, u.oneCell' = true := by
    rw [hAl]; intro u hu; simp at hu; rcases hu with rfl | rfl | rfl <;> rfl
  have hz := zero_rd
  obtain ⟨Z, hZ⟩ : ∃ Z, Z = zR := ⟨_, rfl⟩
  have hZl : Z.toList.length = 3 := by rw [hZ]; rfl
  have hZs : Z.size = 3 := by rw [hZ]; rfl
  rw [← hZ] at hz
  have HAL := Lib.hid hAl
  clear hZ hAl h
  have ho := own_lit w w.heap.size Z 86 (by omega) (Nat.le_refl _)
  rw [hZs] at ho
  have HO := Lib.hid ho
  clear ho
  go_enter Tryz.func26, Tryz.ntmps26
  go_wp2_with (first | (go_at_call 39; refine (thereS HB.out).mono ?_; rintro e w' ⟨rfl, hw'⟩; rw [hw']; clear hw') | (refine load_box rfl 86 3 _ rfl g rfl A hAs hA _ Tryz.underlying86 rfl (by kernel_rfl) ?_) | (refine wpList_store_agg rfl 86 _ _ rfl w.heap.size 86 w.heap.size 3 3 rfl A rfl (by rw [hAs]; kernel_rfl) Z.toList HO.out (by omega) hA1 ?_; intro w2 hown2 hg2; have HG2 := Lib.hid hg2; have HW2 := Lib.hid hown2; clear hown2 hg2))
  go_ret
  have hw2 := HW2.out
  rw [HAL.out, hAs, List.drop_of_length_le (by omega), List.append_nil] at hw2
  exact ⟨_, rfl, ⟨hw2⟩, Nat.le_refl _, (below_alloc w _).grown HG2.out (by simp) (fun k hk => by cases hk; exact Nat.le_refl _)⟩
theorem grown_new {w w1 w2 : World} {row : Option Nat} {r : Nat} (h : w.grownBy w1 row) (hg : w1.grownBy w2 (some r)) (hr : w.heap.size ≤ r) : w.grownBy w2 row :=
  ⟨hg.os.trans h.os, hg.tape.trans h.tape, hg.output.trans h.output, Nat.le_trans h.size hg.size, fun k hk hne => by rw [hg.block k (Nat.lt_of_lt_of_le hk h.size) (fun e => by injection e with e; omega), h.block k hk hne]⟩
def zH : Array Value := #[Value.bool false, .int .i64 0, .int .i64 0, .slice none 0 0, .slice none 0 0]
theorem zH_one : ∀ u ∈ zH.toList, u.oneCell' = true := by
  intro u hu
  simp [zH] at hu
  rcases hu with rfl | rfl | rfl <;> rfl
theorem head_one (f : Bool) (k z : Int) (o1 o2 : Option Addr) (n1 n2 c1 c2 : Nat) : ∀ u ∈ (#[Value.bool f, .int .i64 k, .int .i64 z, .slice o1 n1 c1, .slice o2 n2 c2] : Array Value).toList, u.oneCell' = true := by
  intro u hu
  simp at hu
  rcases hu with rfl | rfl | rfl | rfl | rfl <;> rfl
def RetHead (Bx : World → Nat → ByteArray → Nat → Prop) (s : ByteArray) (p g : Nat) (w : World) (e : Ending) (w' : World) : Prop :=
  ∃ v1 v2, e = .returned (.tuple #[.agg #[.bool (headF (numS s) (8 * s.size) p).1.fin, .int .i64 ((headF (numS s) (8 * s.size) p).1.kind : Nat), .int .i64 ((headF (numS s) (8 * s.size) p).1.size : Nat), v1, v2], .int .i64 ((headF (numS s) (8 * s.size) p).2.1 : Nat)]) ∧
    Own w' w.heap.size 3 v1 (ints (nls (headF (numS s) (8 * s.size) p).1.lits)) ∧ Own w' w.heap.size 3 v2 (ints (nls (headF (numS s) (8 * s.size) p).1.dists)) ∧ Bx w' g s (headF (numS s) (8 * s.size) p).2.2 ∧ w.grownBy w' (some g)
set_option maxRecDepth 100000 in
set_option maxHeartbeats 4000000 in
theorem readHP {w : World} {g p : Nat} {s : ByteArray} (h : BoxS w g s p) (hs : s.size ≤ 4294967296) (hp : p ≤ 8 * s.size) :
    Calls Tryz.prog 36 #[.pointer (some ⟨g, 0, none⟩)] w (RetHead BoxS s p g w) := by
  have HB := Lib.hid h
  have hg := h.lt
  have HCP := Lib.hid (fun (W : World) (hb : Below w.heap.size w W) => copyS2 (h.up hb))
  have HSB := Lib.hid (fun (W : World) (q c : Nat) (st : Nat × Nat) (n : Nat) (hn : n ≤ 32) (h : SrcT W q c s st) => srcBits h hs n hn)
  have hx1 := xb_lt (numS s) (8 * s.size) 1 (0, p)
  have hx2 := xb_lt (numS s) (8 * s.size) 2 (xb (numS s) (8 * s.size) 1 (0, p)).2
  unfold RetHead
  obtain ⟨D, hD⟩ : ∃ D, D = headF (numS s) (8 * s.size) p := ⟨_, rfl⟩
  rw [← hD]
  unfold headF at hD
  have HB1 : Hid (∀ (W : World) (q c : Nat), SrcT W q c s (0, p) → Calls Tryz.prog 55 #[.pointer (some ⟨q, 0, none⟩), .int .i64 1] W fun e w' => e = .returned (.int .i64 ((xb (numS s) (8 * s.size) 1 (0, p)).1 : Nat)) ∧ SrcT w' q c s (xb (numS s) (8 * s.size) 1 (0, p)).2 ∧ Two q c W w') := Lib.hid (fun W q c h => HSB.out W q c (0, p) 1 (by omega) h)
  obtain ⟨r1, h1⟩ : ∃ r1, r1 = xb (numS s) (8 * s.size) 1 (0, p) := ⟨_, rfl⟩
  rw [← h1] at hD HB1 hx1 hx2
  have HB2 : Hid (∀ (W : World) (q c : Nat), SrcT W q c s r1.2 → Calls Tryz.prog 55 #[.pointer (some ⟨q, 0, none⟩), .int .i64 2] W fun e w' => e = .returned (.int .i64 ((xb (numS s) (8 * s.size) 2 r1.2).1 : Nat)) ∧ SrcT w' q c s (xb (numS s) (8 * s.size) 2 r1.2).2 ∧ Two q c W w') := Lib.hid (fun W q c h => HSB.out W q c r1.2 2 (by omega) h)
  obtain ⟨r2, h2⟩ : ∃ r2, r2 = xb (numS s) (8 * s.size) 2 r1.2 := ⟨_, rfl⟩
  rw [← h2] at hD HB2 hx2
  clear h1 h2 HSB
  obtain ⟨a, s1⟩ := r1
  obtain ⟨k, s2⟩ := r2
  simp only at hx1 hx2 hD
  have HD := Lib.hid hD
  clear hD h
  have hfe : ((a : Int) == 1) = decide (a = 1) := by
    by_cases h : a = 1
    · subst h; rfl
    · rw [decide_eq_false h]; simp; omega
  generalize decide (a = 1) = fn at *
  go_enter Tryz.func36, Tryz.ntmps36
  go_upto_block 0 with (first | (go_at_call 26; (with_reducible refine (HCP.out _ (by repeat (first | exact Below.refl _ _ | assumption | refine b_drewN ?_ _ | refine Below.drew ?_ | refine b_ext' ?_ _ | refine b_alloc' ?_ _))).mono ?_); rintro e w1 ⟨c, rfl, hb1, hc1, hd1⟩; (have hq1 := hb1.lt; have HR1 : Hid (BoxH w1 w.heap.size false 0 0 (.slice none 0 0) (.slice none 0 0)) := Lib.hid ⟨(own_lit w w.heap.size #[Value.bool false, Value.int .i64 0, Value.int .i64 0, Value.slice none 0 0, Value.slice none 0 0] 90 (by simp) (Nat.le_refl _)).up hd1⟩; have HW1 : Hid (Below w.heap.size w w1) := Lib.hid (below_up (below_alloc _ _) hd1); have hc2 : w.heap.size < c := Nat.lt_of_lt_of_le (by simp) hc1; have HS2 : Hid (SrcT (w1.alloc (.cells #[Value.pointer (some ⟨c, 0, none⟩), Value.int .i64 0] 108)) w1.heap.size c s (0, p)) := Lib.hid ⟨⟨own_lit w1 w1.heap.size #[Value.pointer (some ⟨c, 0, none⟩), Value.int .i64 0] 108 (by simp) (Nat.le_refl _)⟩, hb1.up (below_alloc _ _), by omega, hp, by simp⟩; clear hb1 hc1 hd1 HCP)) | (go_at_call 55; first | ((with_reducible refine (HB1.out _ _ _ HS2.out).mono ?_); rintro e w3 ⟨rfl, hs3, hf3⟩; (have HS3 := Lib.hid hs3; have HF3 := Lib.hid hf3; have hsz3 := hf3.size; clear hs3 hf3 HB1)) | ((with_reducible refine (HB2.out _ _ _ (HS3.out.up (below_alloc _ _))).mono ?_); rintro e w5 ⟨rfl, hs5, hf5⟩; (have HH4 : Hid (BoxH (w3.alloc (.cells #[Value.bool fn, Value.int .i64 0, Value.int .i64 0, Value.slice none 0 0, Value.slice none 0 0] 90)) w3.heap.size fn 0 0 (.slice none 0 0) (.slice none 0 0)) := Lib.hid ⟨own_lit w3 w3.heap.size #[Value.bool fn, Value.int .i64 0, Value.int .i64 0, Value.slice none 0 0, Value.slice none 0 0] 90 (by simp) (Nat.le_refl _)⟩; have hqq := HS3.out.src.lt; have hcc := HS3.out.box.lt; have HH5 := Lib.hid (HH4.out.fx hf5 (fun e => e.elim (fun e => by omega) (fun e => by omega))); have hqw := HW1.out.size; have HR5 := Lib.hid (((((HR1.out.up (below_alloc _ _)).fx HF3.out (fun e => e.elim (fun e => by omega) (fun e => by omega))).up (below_alloc _ _)).fx hf5 (fun e => e.elim (fun e => by omega) (fun e => by omega)))); have hb5 := HH5.out.lt; have cc5 := HH5.out.c1; have ff5 := HH5.out.free 1; have HST := Lib.hid (HH5.out.set1 k); have HS5 := Lib.hid hs5; have HF5 := Lib.hid hf5; clear hs5 hf5 HB2 HH4))))
  have HS6 : Hid (SrcT (w5.setCell ⟨w3.heap.size, 1, none⟩ (.int .i64 (k : Int))) w1.heap.size c s s2) := Lib.hid (HS5.out.kept HST.out.2 (fun e => by injection e with e; omega) (fun e => by injection e with e; omega))
  have HH6 := Lib.hid HST.out.1
  have HR6 := Lib.hid (HR5.out.stay HST.out.2 (fun e => by injection e with e; omega))
  have HW5 : Hid (Below w.heap.size w w5) := Lib.hid (by
    have h2 : Below w.heap.size w (w1.alloc (.cells #[Value.pointer (some ⟨c, 0, none⟩), Value.int .i64 0] 108)) := HW1.out.alloc HW1.out.size _
    have h3 : Below w.heap.size w w3 := HF3.out.below h2 h2.size (fun k hk => hk.elim (fun e => by omega) (fun e => by omega))
    have h4 : Below w.heap.size w (w3.alloc (.cells #[Value.bool fn, Value.int .i64 0, Value.int .i64 0, Value.slice none 0 0, Value.slice none 0 0] 90)) := h3.alloc h3.size _
    exact HF5.out.below h4 h4.size (fun k hk => hk.elim (fun e => by omega) (fun e => by omega)))
  have HW6 : Hid (Below w.heap.size w (w5.setCell ⟨w3.heap.size, 1, none⟩ (.int .i64 (k : Int)))) := Lib.hid (HW5.out.grown HST.out.2 HW5.out.size (fun k e => by injection e with e; omega))
  have hb6 := HH6.out.lt
  clear HST HS5 HH5 HR5 HW5 HF5 HF3 HS3 HS2 HW1 HR1 hb5 cc5 ff5 hsz3 hcc
  have hrc : w.heap.size < w1.heap.size := by omega
  generalize w5.setCell ⟨w3.heap.size, 1, none⟩ (.int .i64 (k : Int)) = w6 at *
  generalize w1.heap.size = q at *
  generalize w3.heap.size = b at *
  go_cut [] (fun wx => ∃ kk z v1 v2 en p', SrcT wx q c s (en, p') ∧ BoxH wx b fn kk z v1 v2 ∧ BoxH wx w.heap.size false 0 0 (.slice none 0 0) (.slice none 0 0) ∧ Below w.heap.size w wx ∧ Hid ((en ≠ 0 → D = (HeadN.zero, en, p)) ∧ (en = 0 → ∃ L1 L2, D = (⟨fn, kk, z, L1, L2⟩, 0, p') ∧ Own wx w6.heap.size 3 v1 (ints (nls L1)) ∧ Own wx w6.heap.size 3 v2 (ints (nls L2)))))
  case first =>
    clear hfe hx1
    obtain ⟨en, p2⟩ := s2
    have c1 := HS6.out.src.c1
    have hee : (((en, p2).1 : Nat) : Int) = (en : Int) := rfl
    rw [hee] at c1
    clear hee
    have cq := HH6.out.c1
    have hq6 := HS6.out.src.lt
    have hle : p2 ≤ 8 * s.size := HS6.out.le
    have hnb : q ≠ b := by omega
    have hcb : c ≠ b := by omega
    have HTR : Hid (∀ {w7 : World}, Three q c b w6 w7 → BoxH w7 w.heap.size false 0 0 (.slice none 0 0) (.slice none 0 0) ∧ Below w.heap.size w w7) := Lib.hid (fun hf => ⟨HR6.out.fx hf (fun e => e.elim (fun e => by omega) (fun e => e.elim (fun e => by omega) (fun e => by omega))), hf.below HW6.out HW6.out.size (fun k hk => hk.elim (fun e => by omega) (fun e => e.elim (fun e => by omega) (fun e => by omega)))⟩)
    by_cases h0 : en = 0
    · subst h0
      have hd := HD.out
      unfold kindN at hd
      rw [if_neg (fun h => h rfl)] at hd
      by_cases hk0 : k = 0
      · subst hk0
        rw [if_pos rfl] at hd
        have HD2 := Lib.hid hd
        have HST := Lib.hid (storedS HS6.out HH6.out hnb hcb hs)
        clear hd HD
        generalize storedN (numS s) (8 * s.size) (0, p2) = r at *
        obtain ⟨sz, e2, p3⟩ := r
        go_wp2_with (go_at_call 56; (with_reducible refine HST.out.mono ?_); rintro e w7 ⟨rfl, h1, h2, h3⟩; (have H1 := Lib.hid h1; have H2 := Lib.hid h2; have H3 := Lib.hid h3; clear h1 h2 h3))
        go_meet
        case rel =>
          obtain ⟨hr, hw⟩ := HTR.out H3.out
          refine ⟨0, sz, _, _, e2, p3, H1.out, H2.out, hr, hw, Lib.hid ⟨fun h => by rw [HD2.out]; exact if_pos h, fun h => ⟨[], [], by rw [HD2.out]; subst h; rfl, Own.nil _ _ _, Own.nil _ _ _⟩⟩⟩
      · rw [if_neg hk0] at hd
        have hki : ((k : Int) == 0) = false := by simpa using hk0
        by_cases hk1 : k = 1
        · subst hk1
          rw [if_pos rfl] at hd
          have HD2 := Lib.hid hd
          clear hd HD
          have HFL := Lib.hid (fixLP w6)
          have HFD := Lib.hid (fun W => fixDP W)
          unfold RetRow at HFL HFD
          generalize fixL = L1 at *
          generalize fixD = L2 at *
          go_wp2_with (first | (go_at_call 57; (with_reducible refine HFL.out.mono ?_); rintro e w7 ⟨v1, rfl, ho1, hb1⟩; (have HO1 := Lib.hid ho1; have HB1 := Lib.hid hb1; have hs1 := hb1.size; clear ho1 hb1)) | (go_at_call 58; (with_reducible refine (HFD.out w7).mono ?_); rintro e w8 ⟨v2, rfl, ho2, hb2⟩; (have HO2 := Lib.hid (ho2.mono hs1); have HO1' := Lib.hid (HO1.out.up hb2); have HB2 := Lib.hid (below_up HB1.out hb2); obtain ⟨o1, e1, g1, hv1, -⟩ := HO1.out.cases; obtain ⟨o2, e2, g2, hv2, -⟩ := ho2.cases; subst hv1 hv2; generalize (ints (nls L1)).length = n1 at *; generalize (ints (nls L2)).length = n2 at *; have HH8 := Lib.hid (HH6.out.up HB2.out); have hb8 := HH8.out.lt; have hf83 := HH8.out.free 3; have hc83 := HH8.out.c3; have HS3 := Lib.hid (HH8.out.set3 (.slice o1 n1 e1)); have hb9 := HS3.out.1.lt; have hf94 := HS3.out.1.free 4; have hc94 := HS3.out.1.c4; have HS4 := Lib.hid (HS3.out.1.set4 (.slice o2 n2 e2)); clear ho2 hb2)))
          go_meet
          case rel =>
            have hg := grown_trans HS3.out.2 HS4.out.2
            have hf : Three q c b w6 _ := (fx_below HB2.out).trans (Three.ofb hg)
            obtain ⟨hr, hw⟩ := HTR.out hf
            refine ⟨1, 0, _, _, 0, p2, (HS6.out.up HB2.out).kept hg (fun e => by injection e with e; omega) (fun e => by injection e with e; omega), HS4.out.1, hr, hw, Lib.hid ⟨fun h => absurd rfl h, fun _ => ⟨L1, L2, by rw [HD2.out], HO1'.out.keep hg (ne_of_row (fun k hk e => by have := (HO1'.out.lt k hk).1; injection e with e; omega)), HO2.out.keep hg (ne_of_row (fun k hk e => by have := (HO2.out.lt k hk).1; injection e with e; omega))⟩⟩⟩
        · rw [if_neg hk1] at hd
          have hki1 : ((k : Int) == 1) = false := by simp; omega
          by_cases hk2 : k = 2
          · subst hk2
            rw [if_pos rfl] at hd
            have HD2 := Lib.hid hd
            have HST := Lib.hid (dynamicS HS6.out HH6.out hnb hcb hs)
            clear hd HD
            generalize dynN (numS s) (8 * s.size) (0, p2) = r at *
            obtain ⟨L1, L2, e2, p3⟩ := r
            go_wp2_with (go_at_call 59; (with_reducible refine HST.out.mono ?_); rintro e w7 ⟨rfl, h1, h2, v1, v2, h3, h4⟩; (have H1 := Lib.hid h1; have H2 := Lib.hid h2; have H3 := Lib.hid h3; have H4 := Lib.hid h4; clear h1 h2 h3 h4))
            go_meet
            case rel =>
              obtain ⟨hr, hw⟩ := HTR.out H2.out
              refine ⟨2, 0, v1, v2, e2, p3, H1.out, H3.out, hr, hw, Lib.hid ⟨fun h => by rw [HD2.out]; exact if_pos h, fun h => ⟨L1, L2, by rw [HD2.out]; subst h; rfl, (H4.out h).1, (H4.out h).2⟩⟩⟩
          · rw [if_neg hk2] at hd
            have hki2 : ((k : Int) == 2) = false := by simp; omega
            have HD2 := Lib.hid hd
            have HFA := Lib.hid (failS HS6.out 11 (by omega))
            rw [show ((11 : Nat) : Int) = 11 from rfl] at HFA
            clear hd HD
            go_wp2_with (go_at_call 60; (with_reducible refine HFA.out.mono ?_); rintro e w7 ⟨rfl, h1, h2⟩; (have H1 := Lib.hid h1; have H2 := Lib.hid (Three.of2 (b := b) h2); have H3 := Lib.hid (HH6.out.fx h2 (fun e => e.elim (fun e => by omega) (fun e => by omega))); clear h1 h2))
            go_meet
            case rel =>
              obtain ⟨hr, hw⟩ := HTR.out H2.out
              refine ⟨k, 0, _, _, 11, p2, H1.out, H3.out, hr, hw, Lib.hid ⟨fun _ => HD2.out, fun h => by cases h⟩⟩
    · have h0' : ((en : Int) != 0) = true := by simpa using h0
      have HD2 : Hid (D = (HeadN.zero, en, p)) := Lib.hid (by rw [HD.out]; unfold kindN; exact if_pos h0)
      clear HD
      go_wp2
      go_meet
      case rel => exact ⟨k, 0, _, _, en, p2, HS6.out, HH6.out, HR6.out, HW6.out, Lib.hid ⟨fun _ => HD2.out, fun h => absurd h h0⟩⟩
  case rest =>
    obtain ⟨kk, z, v1, v2, en, p', hs7, hh7, hr7, hw7, HE⟩ := hcut
    have HS7 := Lib.hid hs7
    have HH7 := Lib.hid hh7
    have HR7 := Lib.hid hr7
    have HW7 := Lib.hid hw7
    have c1 := hs7.src.c1
    have hq7 := hs7.src.lt
    have hee : (((en, p').1 : Nat) : Int) = (en : Int) := rfl
    rw [hee] at c1
    clear hs7 hh7 hr7 hw7 hee HS6 HH6 HR6 HW6
    by_cases h0 : en = 0
    · subst h0
      obtain ⟨L1, L2, hd, ho1, ho2⟩ := HE.out.2 rfl
      obtain ⟨o1, e1, g1, hv1, -⟩ := ho1.cases
      obtain ⟨o2, e2, g2, hv2, -⟩ := ho2.cases
      have HDX := Lib.hid hd
      have HO1 := Lib.hid ho1
      have HO2 := Lib.hid ho2
      subst hv1 hv2
      clear HE hd ho1 ho2
      generalize (ints (nls L1)).length = n1 at *
      generalize (ints (nls L2)).length = n2 at *
      obtain ⟨A, hA, hAs, hAl⟩ := HS7.out.box.own.whole
      have hA1 : ∀ u ∈ A.toList, u.oneCell' = true := by
        rw [hAl]; intro u hu; simp at hu; rcases hu with rfl | rfl | rfl <;> rfl
      have HAL := Lib.hid hAl
      have HB7 := Lib.hid (HB.out.up HW7.out)
      clear hAl
      go_wp2_with (first | (refine load_box rfl 86 3 _ rfl c rfl A hAs hA _ Tryz.underlying86 rfl (by kernel_rfl) ?_) | (refine wpList_store_agg rfl 86 _ _ rfl g 86 g 3 3 rfl A rfl (by rw [hAs]; kernel_rfl) _ HB7.out.own (by rw [hAs]; simp) hA1 ?_; intro w8 hown8 hg8; (have HG8 := Lib.hid hg8; have HB8 := Lib.hid hown8; have HH8 := Lib.hid (HH7.out.stay hg8 (fun e => by injection e with e; omega)); have HR8 := Lib.hid (HR7.out.stay hg8 (fun e => by injection e with e; omega)); obtain ⟨A5, hA5, hAs5, hAl5⟩ := HH8.out.own.whole; have HAL5 := Lib.hid hAl5; have hA51 : ∀ u ∈ A5.toList, u.oneCell' = true := (by rw [hAl5]; exact head_one fn kk z o1 o2 n1 n2 e1 e2); clear hown8 hg8 hAl5)) | (refine load_box rfl 90 5 _ rfl b rfl A5 hAs5 hA5 _ Tryz.underlying90 rfl (by kernel_rfl) ?_) | (refine wpList_store_agg rfl 90 _ _ rfl w.heap.size 90 w.heap.size 5 5 rfl A5 rfl (by rw [hAs5]; kernel_rfl) _ HR8.out.own (by rw [hAs5]; simp) hA51 ?_; intro w9 hown9 hg9; (have HG9 := Lib.hid hg9; have HR9 := Lib.hid hown9; clear hown9 hg9)))
      have hr9 := HR9.out
      rw [hAs5, List.drop_of_length_le (by simp), List.append_nil] at hr9
      have hb8 := HB8.out
      rw [hAs, List.drop_of_length_le (by simp), List.append_nil, HAL.out] at hb8
      have HR10 := Lib.hid hr9
      have HB10 := Lib.hid hb8
      clear hr9 hb8
      refine ret_cell_tmp (s := 2) (b := 3) (ad := ⟨w.heap.size, 0, none⟩) (x := .agg A5) (y := .int .i64 0) rfl rfl rfl rfl (load_whole (n := 5) HR10.out _ Tryz.underlying90 rfl (by kernel_rfl)) ?_
      have hA5e : A5 = #[.bool fn, .int .i64 (kk : Nat), .int .i64 (z : Nat), .slice o1 n1 e1, .slice o2 n2 e2] := by
        rw [← Array.toArray_toList (xs := A5), HAL5.out]
      have hw67 : ∀ {v : Value} {xs : List Value}, Own wc w6.heap.size 3 v xs → Own w9 w.heap.size 3 v xs := fun ho =>
        ((ho.keep HG8.out (ne_of_row (fun k hk e => by have := (ho.lt k hk).1; injection e with e; omega))).keep HG9.out (ne_of_row (fun k hk e => by have := (ho.lt k hk).1; injection e with e; omega))).mono (by omega)
      rw [HDX.out, hA5e]
      exact ⟨_, _, rfl, hw67 HO1.out, hw67 HO2.out, ⟨HB10.out.keep HG9.out (.inr (fun e => by have e2 : some g = some w.heap.size := e; injection e2 with e2; omega))⟩, grown_new (grown_trans (grown_below HW7.out _) HG8.out) HG9.out (Nat.le_refl _)⟩
    · have h0' : ((en : Int) != 0) = true := by simpa using h0
      have HDX := Lib.hid (HE.out.1 h0)
      clear HE h0
      go_wp2
      refine wp_region_scr (C := fun w' => ∃ x, w' = chg wc (some w.heap.size) x) (.q 0 (.q 1 (.q 2 (.q 3 (.q 4 (.br 5 (.q 6 .done) .no)))))) (by kernel_rfl) (by kernel_rfl) (ex_chg (grown_drew _ _)) ?_
      have HG8 : Hid (wc.grownBy wc.drew (some w.heap.size)) := Lib.hid (grown_drew _ _)
      have HR8 : Hid (BoxH wc.drew w.heap.size false 0 0 (.slice none 0 0) (.slice none 0 0)) := Lib.hid (HR7.out.up (b_drew1 (Below.refl _ _)))
      have hqr : some q ≠ some w.heap.size := fun e => by injection e with e; omega
      generalize wc.drew = w8 at *
      (repeat ((unfold wpScr; simp only [pick, List.map_cons, List.map_nil, List.getD_cons_zero, List.getD_cons_succ]); go_big_quiet_step (fail); refine wpQuiet_nil ?_))
      ((unfold wpScr; simp only [pick, List.map_cons, List.map_nil, List.getD_cons_zero, List.getD_cons_succ]); refine ⟨?_, by unfold wpScr; trivial⟩; unfold wpAct)
      go_wp2_with (refine wpList_store_agg rfl 90 _ _ rfl w.heap.size 90 w.heap.size 5 5 rfl zH rfl (by kernel_rfl) _ HR8.out.own (by simp [zH]) zH_one ?_; intro w9 hown9 hg9; (have HG9 := Lib.hid (grown_trans HG8.out hg9); have HR9 : Hid (Own w9 w.heap.size 90 (.slice (some ⟨w.heap.size, 0, none⟩) 5 5) zH.toList) := Lib.hid hown9; clear hown9 hg9))
      refine ⟨ex_chg HG9.out, ?_⟩
      unfold wpAct
      (repeat ((unfold wpScr; simp only [pick, List.map_cons, List.map_nil, List.getD_cons_zero, List.getD_cons_succ]); go_big_quiet_step (fail); refine wpQuiet_nil ?_))
      unfold wpScr
      first | (intro _ hqq; clear hqq) | (intro hqq; clear hqq)
      go_wp2
      refine ret_cell_tmp (s := 2) (b := 3) (ad := ⟨w.heap.size, 0, none⟩) (x := .agg zH) (y := .int .i64 (en : Nat)) rfl rfl rfl rfl (load_whole (n := 5) HR9.out _ Tryz.underlying90 rfl (by kernel_rfl)) ?_
      rw [HDX.out]
      exact ⟨_, _, rfl, Own.nil _ _ _, Own.nil _ _ _, (HB.out.up HW7.out).stay HG9.out (fun e => by injection e with e; omega), grown_new (grown_below HW7.out _) HG9.out (Nat.le_refl _)⟩
end Go.Cm

/- The walk of the document's row of lengths. Conditions: the reader is there, the code is right. -/
namespace Go.Cm
open Go.RowKit Go.Proofs

theorem grown_far {w w1 w2 : World} {row row' : Option Nat} (h : w.grownBy w1 row) (hg : w1.grownBy w2 row') (hr : ∀ k, row' = some k → w.heap.size ≤ k) : w.grownBy w2 row :=
  ⟨hg.os.trans h.os, hg.tape.trans h.tape, hg.output.trans h.output, Nat.le_trans h.size hg.size, fun k hk hne => by rw [hg.block k (Nat.lt_of_lt_of_le hk h.size) (fun e => by have := hr k e.symm; omega), h.block k hk hne]⟩
def nbOf (a : Nat) : Nat := if a = 16 then 2 else if a = 17 then 3 else 7
def nlOf (a : Nat) : Nat := if a = 18 then 11 else 3
def nvOf (a : Nat) (l : List Nat) : Nat := if a = 16 then l.getD (l.length - 1) 0 else 0
theorem nbOf_le (a : Nat) : nbOf a ≤ 7 := by
  unfold nbOf
  split
  · omega
  · split <;> omega
theorem nlOf_le (a : Nat) : 3 ≤ nlOf a ∧ nlOf a ≤ 11 := by
  unfold nlOf
  split <;> omega
theorem repN_eq {N T a : Nat} {l : List Nat} {p : Nat} (ha : a = 16 ∨ a = 17 ∨ a = 18) (h : ¬ (a = 16 ∧ l = [])) :
    repN N T a l (0, p) = (nlOf a + (bitsA N T p (nbOf a)).1, nvOf a l, (bitsA N T p (nbOf a)).2.1, (bitsA N T p (nbOf a)).2.2) := by
  rcases ha with rfl | rfl | rfl
  · have hl : l ≠ [] := fun e => h ⟨rfl, e⟩
    unfold repN; rw [if_neg (by decide), if_pos rfl, if_neg hl]; rfl
  · rfl
  · rfl
theorem bitsA_lt {N T p n : Nat} : (bitsA N T p n).1 < 2 ^ n := by
  unfold bitsA; split
  · exact Nat.mod_lt _ (Nat.two_pow_pos n)
  · exact Nat.two_pow_pos n
/-- what the document's row answers -/
def RetRowR (R : List Nat × (Nat × Nat)) (s : ByteArray) (g : Nat) (w : World) (e : Ending) (w' : World) : Prop :=
  ∃ v' p', e = .returned (.tuple #[v', .int .i64 (R.2.1 : Nat)]) ∧ (R.2.1 = 0 → Own w' w.heap.size 3 v' (ints (nls R.1)) ∧ p' = R.2.2) ∧ BoxT w' g s p' ∧ p' ≤ 8 * s.size ∧ w.grownBy w' (some g)
set_option maxRecDepth 100000 in
set_option maxHeartbeats 4000000 in
theorem rowRR {w : World} {B g p n : Nat} {s : ByteArray} {v : Value} {L : List Nat} (h : BoxT w g s p) (hv : Own w B 3 v (ints (nls L))) (hB : g < B) (hL : errI (nls L) = 0) (hl19 : L.length ≤ 19) (hn : n ≤ 1000) (hs : s.size ≤ 4294967296) (hp : p ≤ 8 * s.size) :
    Calls Tryz.prog 71 #[.pointer (some ⟨g, 0, none⟩), v, .int .i64 n] w (RetRowR (rowN (numS s) (8 * s.size) L n (n + 1) [] (0, p)) s g w) := by
  obtain ⟨L', hL', hlen, h15, hk⟩ := errI_list hL
  have hLL' : L' = L := by
    have := congrArg (List.map Int.toNat) hL'
    rw [nls_toNat, nls_toNat] at this
    exact this.symm
  subst hLL'
  clear hL' hL
  have HH := Lib.hid h
  have hgw := h.lt
  have HRD : Hid (∀ W p, w.grownBy W (some g) → BoxT W g s p → p ≤ 8 * s.size → Calls Tryz.prog 33 #[.pointer (some ⟨g, 0, none⟩), v] W fun e w' => e = .returned (.tuple #[.int .i64 ((readF L' (numS s / 2 ^ p) (8 * s.size - p)).1 : Nat), .int .i64 ((readF L' (numS s / 2 ^ p) (8 * s.size - p)).2.1 : Nat)]) ∧ BoxT w' g s (p + (readF L' (numS s / 2 ^ p) (8 * s.size - p)).2.2) ∧ W.grownBy w' (some g)) := Lib.hid (fun W p hg hb hp => (readR0 v L' (show IntsAt W v (nls L') from (hv.keep hg (ne_of_row (fun k hk e => by have := (hv.lt k hk).1; injection e with e; omega))).sl) (Below.refl _ _) hb hlen h15 hk hs hp).mono fun e w' ⟨a, er, d, he, hr, hb, hg⟩ => by
    have := readF_of hr
    rw [this]
    exact ⟨he, hb, hg⟩)
  have HBT : Hid (∀ (W : World) (p n : Nat), n ≤ 32 → BoxT W g s p → p ≤ 8 * s.size → Calls Tryz.prog 31 #[.pointer (some ⟨g, 0, none⟩), .int .i64 n] W (RetBits BoxT s p n g W)) := Lib.hid (fun W p n hn hb hp => bitsT hb hs n hn hp)
  obtain ⟨R, hR⟩ : ∃ R, R = rowN (numS s) (8 * s.size) L' n (n + 1) [] (0, p) := ⟨_, rfl⟩
  rw [← hR]
  have HR := Lib.hid hR.symm
  have HSTOP := Lib.hid (rowN_stop (numS s) (8 * s.size) L' n)
  have HSTEP := Lib.hid (rowN_step (numS s) (8 * s.size) L' n)
  obtain ⟨oc, cc, gc, hvc, -⟩ := hv.cases
  generalize (ints (nls L')).length = nL at hvc
  subst hvc
  clear hR h hv h15 hk hlen
  unfold RetRowR
  go_enter Tryz.func71, Tryz.ntmps71
  go_wp2
  go_loopg [8] (n + 1) (fun gk r wr => ∃ l p, Own wr w.heap.size 3 r (ints (nls l)) ∧ BoxT wr g s p ∧ p ≤ 8 * s.size ∧ w.grownBy wr (some g) ∧ Hid (rowN (numS s) (8 * s.size) L' n gk l (0, p) = R) ∧ l.length ≤ n ∧ n - l.length < gk)
  case atStart => exact ⟨[], p, Own.nil _ _ _, HH.out, hp, grown_refl _ _, HR, Nat.zero_le _, by simp⟩
  case round =>
    obtain ⟨l, p, ho, hbx, hple, hgr, HRN, hll, hf⟩ := hrel
    have HO := Lib.hid ho
    have HX := Lib.hid hbx
    have HG := Lib.hid hgr
    have hsz := hgr.size
    have hlen : (ints (nls l)).length = l.length := by simp [ints, nls]
    obtain ⟨oa, cap, b, hv, hd, -, hc, -, -⟩ := ho.cases
    rw [hlen] at hv hd hc
    subst hv
    have HLEN := Lib.hid hlen
    have HC := Lib.hid hc
    have HD := Lib.hid hd
    clear ho hbx hgr hlen hc hd
    by_cases hlt : l.length < n
    · have hlti : (l.length : Int) < (n : Int) := by omega
      obtain ⟨f, rfl⟩ : ∃ f, gk = f + 1 := ⟨gk - 1, by omega⟩
      have HE := Lib.hid (HSTEP.out f l p hlt)
      rw [HRN.out] at HE
      have hcall := HRD.out wr p HG.out HX.out hple
      have hfa := readF_facts L' (numS s / 2 ^ p) (8 * s.size - p)
      generalize readF L' (numS s / 2 ^ p) (8 * s.size - p) = rd at *
      obtain ⟨a, er, d⟩ := rd
      obtain ⟨hf1, hf2, hf3, hf4⟩ := hfa
      have HCALL := Lib.hid hcall
      have hpd : p + d ≤ 8 * s.size := by simp at hf2 hple; omega
      clear hcall HRN HSTEP HSTOP hf2
      by_cases hz : er = 0
      · subst hz
        have haL := hf4 rfl
        simp at haL
        clear hf1 hf3 hf4
        by_cases ha : a < 16
        · have hai : (a : Int) < 16 := by omega
          have HST2 : Hid (R = rowN (numS s) (8 * s.size) L' n f (l ++ [a]) (0, p + d)) := Lib.hid (by rw [HE.out]; unfold rowStep; rw [if_neg (by simp), if_pos ha])
          have HAPP : Hid (ints (nls (l ++ [a])) = ints (nls l) ++ ints (nls [a])) := Lib.hid (by simp [ints, nls])
          clear ha HE
          have HLL : Hid ((ints (nls l)).length + 1 ≤ 4294967296) := Lib.hid (by rw [HLEN.out]; omega)
          go_wp2_with (first | (go_at_call 33; (with_reducible refine HCALL.out.mono ?_); rintro e w4 ⟨rfl, hb1, hb2⟩; (have HX4 := Lib.hid hb1; have HG4 := Lib.hid (grown_trans HG.out hb2); have hs4 := hb2.size; have HO4 := Lib.hid (HO.out.keep hb2 (ne_of_row (fun k hk e => by have := (HO.out.lt k hk).1; injection e with e; omega))); clear hb1 hb2)) | (at_builtin; refine wpList_app rfl (.tmp 31) (.tmp 33) 35 rfl w.heap.size 3 (.int .i64 0) 8 Tryz.underlying35 (by kernel_rfl) rfl (by decide) (.slice oa l.length cap) (ints (nls l)) rfl (HO4.out.up (below_alloc _ _)) (.slice (some ⟨w4.heap.size, 0, none⟩) 1 1) (ints (nls [a])) rfl (by simpa [ints, nls] using sl_lit w4 #[.int .i64 (a : Int)] 3 (by simp)) (ints_cell _) (by have := HLL.out; simpa [ints, nls] using this) (Nat.le_trans hsz (Nat.le_trans hs4 (by simp))) ?_; intro v' w5 hown1 hg1 hk1; (have HO5 := Lib.hid hown1; have HG5 := Lib.hid hg1; clear hown1 hg1 hk1)))
          go_roundg f
          case measure => omega
          case rel =>
            have hr2 : (Value.slice oa l.length cap).ownBlock ≠ some g := fun e => by have := (HO4.out.lt g e).1; omega
            exact ⟨l ++ [a], p + d, by rw [HAPP.out]; exact HO5.out, (HX4.out.up (below_alloc w4 _)).stay HG5.out hr2, hpd, grown_far (grown_trans HG4.out (grown_below (below_alloc w4 _) _)) HG5.out (fun k hk => (HO4.out.lt k hk).1), Lib.hid HST2.out.symm, by simp; omega, by simp; omega⟩
        · have hai : ¬ (a : Int) < 16 := by omega
          have hsym : a = 16 ∨ a = 17 ∨ a = 18 := by omega
          have HST2 : Hid (R = if n < l.length + (repN (numS s) (8 * s.size) a l (0, p + d)).1 then ([], xf 3 (repN (numS s) (8 * s.size) a l (0, p + d)).2.2) else rowN (numS s) (8 * s.size) L' n f (l ++ List.replicate (repN (numS s) (8 * s.size) a l (0, p + d)).1 (repN (numS s) (8 * s.size) a l (0, p + d)).2.1) (repN (numS s) (8 * s.size) a l (0, p + d)).2.2) := Lib.hid (by rw [HE.out]; unfold rowStep; rw [if_neg (by simp), if_neg ha])
          clear ha HE haL
          by_cases hsp : a = 16 ∧ l = []
          · obtain ⟨rfl, rfl⟩ := hsp
            have hr : repN (numS s) (8 * s.size) 16 [] (0, p + d) = (0, 0, 4, p + d) := rfl
            have HST3 : Hid (R.2.1 = 4) := Lib.hid (by rw [HST2.out, hr, if_neg (by simp), rowN_stop _ _ _ _ _ _ _ (fun h => by cases h.1)])
            clear hr HST2
            go_wp2_with (go_at_call 33; (with_reducible refine HCALL.out.mono ?_); rintro e w4 ⟨rfl, hb1, hb2⟩; (have HX4 := Lib.hid hb1; have HG4 := Lib.hid (grown_trans HG.out hb2); have hs4 := hb2.size; have HO4 := Lib.hid (HO.out.keep hb2 (ne_of_row (fun k hk e => by have := (HO.out.lt k hk).1; injection e with e; omega))); clear hb1 hb2))
            go_ret2
            exact ⟨_, p + d, (by rw [HST3.out]; rfl), fun h => absurd (HST3.out.symm.trans h) (by decide), HX4.out, hpd, HG4.out⟩
          · have hrep := repN_eq (N := numS s) (T := 8 * s.size) (p := p + d) hsym hsp
            rw [hrep] at HST2
            have hml := bitsA_lt (N := numS s) (T := 8 * s.size) (p := p + d) (n := nbOf a)
            have hp2 := (bitsA_le (N := numS s) (n := nbOf a) hpd).1
            have hbo := nbOf_le a
            have hlo := nlOf_le a
            have HBTC := Lib.hid (fun W h => HBT.out W (p + d) (nbOf a) (by omega) h hpd)
            unfold RetBits at HBTC
            clear hrep HBT HRD
            generalize bitsA (numS s) (8 * s.size) (p + d) (nbOf a) = r2 at *
            obtain ⟨m, e2, p2⟩ := r2
            go_upto_block 2 with (go_at_call 33; (with_reducible refine HCALL.out.mono ?_); rintro e w4 ⟨rfl, hb1, hb2⟩; (have HX4 := Lib.hid hb1; have HG4 := Lib.hid (grown_trans HG.out hb2); have hs4 := hb2.size; have HO4 := Lib.hid (HO.out.keep hb2 (ne_of_row (fun k hk e => by have := (HO.out.lt k hk).1; injection e with e; omega))); clear hb1 hb2))
            go_cut [11, 12, 13] from 16 to 77 (fun x11 x12 x13 wx => x11 = .int .i64 (nbOf a : Nat) ∧ x12 = .int .i64 (nlOf a : Nat) ∧ x13 = .int .i64 (nvOf a l : Nat) ∧ wx = w4)
            case first =>
              rcases hsym with rfl | rfl | rfl
              · have hln0 : l ≠ [] := fun e => hsp ⟨rfl, e⟩
                have hln : 0 < l.length := List.length_pos_iff.2 hln0
                obtain ⟨oa2, cap2, b2, hv2, hd2, -, hc2, -, -⟩ := HO4.out.cases
                rw [HLEN.out] at hv2 hd2 hc2
                injection hv2 with q1 q2 q3
                subst q1 q3
                have hix := index_any (P := Tryz.prog) 35 3 Tryz.underlying35 (by kernel_rfl) hd2
                have hbb := hd2.hblk hln
                have hcell := hc2 (l.length - 1) (by omega)
                rw [last_cell l hln0] at hcell
                have hm := hd2.len
                have HVO : Hid (nvOf 16 l = l.getD (l.length - 1) 0) := Lib.hid rfl
                have hpred : (l.length : Int) - 1 = ((l.length - 1 : Nat) : Int) := by omega
                have hplt : l.length - 1 < l.length := by omega
                have hl0 : ((l.length : Int) == 0) = false := by simp; omega
                clear hd2 hc2 hln0 hsp HST2 HBTC HC HD
                generalize hyy : l.getD (l.length - 1) 0 = y at *
                generalize l.length - 1 = j at *
                generalize l.length = nl at *
                go_wp2
                go_meet
                case rel => exact ⟨rfl, rfl, by rw [HVO.out], rfl⟩
              · clear HST2 HBTC hsp
                go_wp2
                go_meet
                case rel => exact ⟨rfl, rfl, rfl, rfl⟩
              · clear HST2 HBTC hsp
                go_wp2
                go_meet
                case rel => exact ⟨rfl, rfl, rfl, rfl⟩
            case rest =>
              obtain ⟨rfl, rfl, rfl, hwc⟩ := hcut
              subst hwc
              have HC5 := Lib.hid (HBTC.out _ HX4.out)
              have hszw := HG4.out.size
              clear HBTC hsp hsym HC HD
              generalize nbOf a = bo at *
              generalize nlOf a = lo at *
              generalize nvOf a l = vo at *
              have hb7 : 2 ^ bo ≤ 2 ^ 7 := Nat.pow_le_pow_right (by decide) hbo
              try simp only at hml
              have hm : m ≤ 128 := by omega
              clear hml hb7
              have hlo1 := hlo.1
              have hlo2 := hlo.2
              try simp only at hp2 HST2
              by_cases he2 : e2 = 0
              · subst he2
                by_cases hbig : n < l.length + (lo + m)
                · have hbi : (l.length : Int) + (lo : Int) + (m : Int) > (n : Int) := by omega
                  have HST3 : Hid (R = ([], (3, p2))) := Lib.hid (by rw [HST2.out]; exact if_pos hbig)
                  clear hbig HST2
                  go_wp2_with (go_at_call 31; (with_reducible refine HC5.out.mono ?_); rintro e w5 ⟨rfl, hb1, hb2⟩; (have HX5 := Lib.hid hb1; have HG5 := Lib.hid (grown_trans HG4.out hb2); clear hb1 hb2))
                  go_ret2
                  rw [HST3.out]
                  exact ⟨_, p2, rfl, (fun h => by cases h), HX5.out, hp2, HG5.out⟩
                · have hbi : ¬ (l.length : Int) + (lo : Int) + (m : Int) > (n : Int) := by omega
                  have HST3 : Hid (R = rowN (numS s) (8 * s.size) L' n f (l ++ List.replicate (lo + m) vo) (0, p2)) := Lib.hid (by rw [HST2.out]; exact if_neg hbig)
                  have HTM : Hid (∀ W, Own W w.heap.size 3 (.slice oa l.length cap) (ints (nls l)) → w.heap.size ≤ W.heap.size → Calls Tryz.prog 68 #[.slice oa l.length cap, .int .i64 ((lo : Int) + (m : Int)), .int .i64 (vo : Nat)] W fun e w' => ∃ v', e = .returned v' ∧ Own w' w.heap.size 3 v' (ints (nls (l ++ List.replicate (lo + m) vo))) ∧ Below w.heap.size W w') := Lib.hid (fun W ho hB => by
                    have := timesB (.slice oa l.length cap) l (lo + m) vo W w.heap.size ho hB (by omega)
                    rw [Int.natCast_add] at this
                    exact this)
                  clear HST2
                  go_wp2_with (first | (go_at_call 31; (with_reducible refine HC5.out.mono ?_); rintro e w5 ⟨rfl, hb1, hb2⟩; (have HX5 := Lib.hid hb1; have HG5 := Lib.hid (grown_trans HG4.out hb2); have HO5 := Lib.hid (HO4.out.keep hb2 (ne_of_row (fun k hk e => by have := (HO4.out.lt k hk).1; injection e with e; omega))); clear hb1 hb2)) | (go_at_call 68; (with_reducible refine (HTM.out _ HO5.out HG5.out.size).mono ?_); rintro e w6 ⟨v6, rfl, hb1, hb2⟩; (have HO6 := Lib.hid hb1; have HB6 := Lib.hid hb2; clear hb1 hb2)))
                  go_roundg f
                  case measure => omega
                  case rel =>
                    have hbelow : w.grownBy w6 (some g) := ⟨HB6.out.os.trans HG5.out.os, HB6.out.tape.trans HG5.out.tape, HB6.out.output.trans HG5.out.output, Nat.le_trans HG5.out.size HB6.out.size, fun k hk hne => by rw [HB6.out.block k hk, HG5.out.block k hk hne]⟩
                    have hbx : BoxT w6 g s p2 := ⟨HX5.out.own.of_blk (fun k hk => HB6.out.block k (by have e2 : some g = some k := hk; injection e2 with e2; omega))⟩
                    exact ⟨l ++ List.replicate (lo + m) vo, p2, HO6.out, hbx, hp2, hbelow, Lib.hid HST3.out.symm, by simp; omega, by simp; omega⟩
              · have he2i : ((e2 : Int) != 0) = true := by simpa using he2
                have HST3 : Hid (R.2.1 = e2) := Lib.hid (by
                  rw [HST2.out]
                  by_cases hbig : n < l.length + (lo + m)
                  · rw [if_pos hbig]; show (xf 3 (e2, p2)).1 = e2; rw [xf_of (by exact he2)]
                  · rw [if_neg hbig, rowN_stop _ _ _ _ _ _ _ (fun h => he2 h.1)])
                have HNE := Lib.hid he2
                clear HST2 he2
                go_wp2_with (go_at_call 31; (with_reducible refine HC5.out.mono ?_); rintro e w5 ⟨rfl, hb1, hb2⟩; (have HX5 := Lib.hid hb1; have HG5 := Lib.hid (grown_trans HG4.out hb2); clear hb1 hb2))
                go_ret2
                rw [HST3.out]
                exact ⟨_, p2, rfl, fun h => absurd h HNE.out, HX5.out, hp2, HG5.out⟩
      · have hz' : ((er : Int) != 0) = true := by simpa using hz
        have hd0 := hf3 hz
        have HST2 : Hid (R = (l, er, p)) := Lib.hid (by rw [HE.out]; unfold rowStep; exact if_pos hz)
        simp at hd0
        subst hd0
        have HNE := Lib.hid hz
        clear hf3 hf4 HE hz HC HD
        go_wp2_with (go_at_call 33; (with_reducible refine HCALL.out.mono ?_); rintro e w4 ⟨rfl, hb1, hb2⟩; (have HX4 := Lib.hid hb1; have HG4 := Lib.hid (grown_trans HG.out hb2); have hs4 := hb2.size; have HO4 := Lib.hid (HO.out.keep hb2 (ne_of_row (fun k hk e => by have := (HO.out.lt k hk).1; injection e with e; omega))); clear hb1 hb2))
        go_ret2
        rw [HST2.out]
        exact ⟨_, p + 0, rfl, fun h => absurd h HNE.out, HX4.out, hpd, HG4.out⟩
    · have hlti : ¬ (l.length : Int) < (n : Int) := by omega
      have HE := Lib.hid (HSTOP.out gk l (0, p) (fun h => hlt h.2))
      rw [HRN.out] at HE
      clear hlt hf HC HD
      go_wp2
      go_ret2
      rw [HE.out]
      first | exact ⟨_, p, rfl, fun _ => ⟨HO.out, rfl⟩, HX.out, hple, HG.out⟩ | exact ⟨_, rfl, p, fun _ => ⟨HO.out, rfl⟩, HX.out, hple, HG.out⟩
end Go.Cm

/- The walk of the document's stored head. Conditions: the reader is there. -/
namespace Go.Cm
open Go.RowKit Go.Proofs

theorem Own.keepN {w w' : World} {B E b n cap : Nat} {xs : List Value} {row : Option Nat} (h : Own w B E (.slice (some ⟨b, 0, none⟩) n cap) xs) (hg : w.grownBy w' row) (hne : row ≠ some b) : Own w' B E (.slice (some ⟨b, 0, none⟩) n cap) xs := h.keep hg (.inr (fun e => hne e.symm))
theorem bitsA_two {N T p n : Nat} (h : (bitsA N T p n).2.1 ≠ 0) : (bitsA N T p n).2.1 = 2 := by
  unfold bitsA at h ⊢
  split
  · rename_i hc
    rw [if_pos hc] at h
    exact absurd rfl h
  · rfl
theorem xb_zero (N T n p : Nat) : xb N T n (0, p) = bitsA N T p n := rfl
theorem xb_bad {N T n e p : Nat} (h : e ≠ 0) : xb N T n (e, p) = (0, (e, p)) := if_neg h
/-- what a function of the document's that reads a head answers -/
def RetHR (H : HeadN) (er pf : Nat) (s : ByteArray) (g : Nat) (w : World) (e : Ending) (w' : World) : Prop :=
  ∃ v1 v2 p', e = .returned (.tuple #[.agg #[.bool H.fin, .int .i64 (H.kind : Nat), .int .i64 (H.size : Nat), v1, v2], .int .i64 (er : Nat)]) ∧ Own w' w.heap.size 3 v1 (ints (nls H.lits)) ∧ Own w' w.heap.size 3 v2 (ints (nls H.dists)) ∧ BoxT w' g s p' ∧ p' ≤ 8 * s.size ∧ (er = 0 → p' = pf) ∧ w.grownBy w' (some g)
set_option maxRecDepth 100000 in
set_option maxHeartbeats 1000000 in
theorem storedRR {w : World} {g p k : Nat} {s : ByteArray} {fin : Bool} (h : BoxT w g s p) (hs : s.size ≤ 4294967296) (hp : p ≤ 8 * s.size) :
    Calls Tryz.prog 42 #[.pointer (some ⟨g, 0, none⟩), .agg #[.bool fin, .int .i64 (k : Nat), .int .i64 0, .slice none 0 0, .slice none 0 0]] w
      (RetHR (if (storedN (numS s) (8 * s.size) (0, p)).2.1 = 0 then ⟨fin, k, (storedN (numS s) (8 * s.size) (0, p)).1, [], []⟩ else HeadN.zero) (storedN (numS s) (8 * s.size) (0, p)).2.1 (storedN (numS s) (8 * s.size) (0, p)).2.2 s g w) := by
  have HB := Lib.hid h
  have hgw := h.lt
  have hp8 : alignN p ≤ 8 * s.size := by unfold alignN; omega
  have HAL := Lib.hid (fun (W : World) (h : BoxT W g s p) => alignT h hs hp)
  have HBT : Hid (∀ (W : World) (p : Nat), BoxT W g s p → p ≤ 8 * s.size → Calls Tryz.prog 31 #[.pointer (some ⟨g, 0, none⟩), .int .i64 16] W (RetBits BoxT s p 16 g W)) := Lib.hid (fun W p hb hp => bitsT hb hs 16 (by omega) hp)
  have HP1 := Lib.hid (bitsA_le (N := numS s) (n := 16) hp8).1
  have HB1 := Lib.hid (fun W h => HBT.out W (alignN p) h hp8)
  have ht1 := bitsA_two (N := numS s) (T := 8 * s.size) (p := alignN p) (n := 16)
  have hl1 := bitsA_lt (N := numS s) (T := 8 * s.size) (p := alignN p) (n := 16)
  obtain ⟨D, hD⟩ : ∃ D, D = storedN (numS s) (8 * s.size) (0, p) := ⟨_, rfl⟩
  rw [← hD]
  obtain ⟨H, hH⟩ : ∃ H, H = if D.2.1 = 0 then (⟨fin, k, D.1, [], []⟩ : HeadN) else HeadN.zero := ⟨_, rfl⟩
  rw [← hH]
  have HHD := Lib.hid hH
  clear hH
  unfold storedN at hD
  dsimp only at hD
  rw [xb_zero] at hD
  unfold RetBits at HB1
  obtain ⟨r1, h1⟩ : ∃ r1, r1 = bitsA (numS s) (8 * s.size) (alignN p) 16 := ⟨_, rfl⟩
  rw [← h1] at hD HB1 HP1 ht1 hl1
  clear h1
  obtain ⟨n, e1, p1⟩ := r1
  have HP1' := HP1.out
  have HB2 := Lib.hid (fun W h => HBT.out W p1 h HP1')
  have HP2 := Lib.hid (bitsA_le (N := numS s) (n := 16) HP1').1
  have ht2 := bitsA_two (N := numS s) (T := 8 * s.size) (p := p1) (n := 16)
  have hl2 := bitsA_lt (N := numS s) (T := 8 * s.size) (p := p1) (n := 16)
  have HX2 : Hid (e1 = 0 → xb (numS s) (8 * s.size) 16 (e1, p1) = bitsA (numS s) (8 * s.size) p1 16) := Lib.hid (fun h => by rw [h]; rfl)
  unfold RetBits at HB2
  generalize bitsA (numS s) (8 * s.size) p1 16 = r2 at *
  obtain ⟨m, e2, p2⟩ := r2
  simp only at hl1 hl2 ht1 ht2 hD
  have HD := Lib.hid hD
  have HR0 : Hid (∀ w1 : World, (w.alloc (.cells #[Value.bool fin, .int .i64 (k : Nat), .int .i64 0, .slice none 0 0, .slice none 0 0] 60)).alloc (.cells #[Value.bool false, .int .i64 0, .int .i64 0, .slice none 0 0, .slice none 0 0] 60) = w1 → Own w1 (w.heap.size + 1) 60 (.slice (some ⟨w.heap.size + 1, 0, none⟩) 5 5) zH.toList ∧ Own w1 w.heap.size 60 (.slice (some ⟨w.heap.size, 0, none⟩) 5 5) [Value.bool fin, .int .i64 (k : Nat), .int .i64 (0 : Nat), .slice none 0 0, .slice none 0 0] ∧ BoxT w1 g s p ∧ Below w.heap.size w w1) := Lib.hid (fun w1 e => by
    subst e
    have h1 := own_lit (w.alloc (.cells #[Value.bool fin, .int .i64 (k : Nat), .int .i64 0, .slice none 0 0, .slice none 0 0] 60)) (w.heap.size + 1) zH 60 (by simp [zH]) (by simp)
    have h2 := (own_lit w w.heap.size #[Value.bool fin, .int .i64 (k : Nat), .int .i64 0, .slice none 0 0, .slice none 0 0] 60 (by simp) (Nat.le_refl _)).up (below_alloc _ (.cells zH 60))
    refine ⟨by simpa [zH] using h1, by simpa [zH] using h2, HB.out.up (by repeat (first | exact Below.refl _ _ | assumption | refine b_drewN ?_ _ | refine Below.drew ?_ | refine b_ext' ?_ _ | refine b_alloc' ?_ _)), (by repeat (first | exact Below.refl _ _ | assumption | refine b_drewN ?_ _ | refine Below.drew ?_ | refine b_ext' ?_ _ | refine b_alloc' ?_ _))⟩)
  clear hD h HBT hp8 HP1'
  unfold RetHR
  go_enter Tryz.func42, Tryz.ntmps42
  go_upto_region 4 with (first | (go_at_call 67; (obtain ⟨hr0, hh0, hx0, hbl0⟩ := HR0.out _ rfl); (with_reducible refine (HAL.out _ hx0).mono ?_); rintro e w2 ⟨rfl, hb1, hg1⟩; (have hne1 := hbl0.size; have HR2 := Lib.hid (hr0.keepN hg1 (fun e => by injection e with e; omega)); have HH2 := Lib.hid (hh0.keepN hg1 (fun e => by injection e with e; omega)); have HG2 := Lib.hid (grown_trans (grown_below hbl0 (some g)) hg1); have HX2' := Lib.hid hb1; have HC2 := Lib.hid (HB1.out w2 hb1); clear hr0 hh0 hx0 hbl0 hb1 hg1 HR0 HAL HB1)) | (go_at_call 31; first | ((with_reducible refine HC2.out.mono ?_); rintro e w3 ⟨rfl, hb1, hg1⟩; (have HR3 := Lib.hid (HR2.out.keepN hg1 (fun e => by injection e with e; omega)); have HH3 := Lib.hid (HH2.out.keepN hg1 (fun e => by injection e with e; omega)); have HG3 := Lib.hid (grown_trans HG2.out hg1); have HC3 := Lib.hid (HB2.out w3 hb1); clear hb1 hg1 HC2 HB2 HR2 HH2 HG2)) | ((with_reducible refine HC3.out.mono ?_); rintro e w4 ⟨rfl, hb1, hg1⟩; (have HR4 := Lib.hid (HR3.out.keepN hg1 (fun e => by injection e with e; omega)); have HH4 := Lib.hid (HH3.out.keepN hg1 (fun e => by injection e with e; omega)); have HG4 := Lib.hid (grown_trans HG3.out hg1); have HX4 := Lib.hid hb1; clear hb1 hg1 HC3 HR3 HH3 HG3))))
  by_cases h1 : e1 = 0
  · subst h1
    have HDB := Lib.hid HD.out
    rw [HX2.out rfl] at HDB
    by_cases h2 : e2 = 0
    · subst h2
      by_cases hc : m + n = 65535
      · have hci : ((n : Int) + (m : Int) != 65535) = false := by simp; omega
        have HDE : Hid (D = (n, (0, p2))) := Lib.hid (by rw [HDB.out]; exact congrArg (Prod.mk n) (if_pos hc))
        have hhz : H = ⟨fin, k, n, [], []⟩ := by rw [HHD.out, HDE.out]; rfl
        have HHZ := Lib.hid hhz
        clear hc hhz HD HDB HHD HX2
        have hf4 := HH4.out.free 2
        have hc4 := HH4.out.cell (i := 2) (by simp)
        have hb4 := HH4.out.blk.2
        have hst := HH4.out.store 2 (.int .i64 (n : Nat))
        have HST := Lib.hid hst.1
        have HSG := Lib.hid hst.2
        have HR5 := Lib.hid (HR4.out.keepN hst.2 (fun e => by injection e with e; omega))
        obtain ⟨A, hA, hAs, hAl⟩ := hst.1.whole
        have hA1 : ∀ u ∈ A.toList, u.oneCell' = true := by
          rw [hAl]; exact head_one fin k n none none 0 0 0 0
        have HAL := Lib.hid hAl
        clear hst hAl
        go_wp2_with (first | (refine load_box rfl 60 5 _ rfl w.heap.size rfl A hAs hA _ Tryz.underlying60 rfl (by kernel_rfl) ?_) | (refine wpList_store_agg rfl 60 _ _ rfl (w.heap.size + 1) 60 (w.heap.size + 1) 5 5 rfl A rfl (by rw [hAs]; kernel_rfl) _ HR5.out (by rw [hAs]; simp [zH]) hA1 ?_; intro w9 hown9 hg9; (have HG9 := Lib.hid hg9; have HR9 := Lib.hid hown9; clear hown9 hg9)))
        have hr9 := HR9.out
        rw [hAs, List.drop_of_length_le (by simp [zH]), List.append_nil] at hr9
        refine ret_cell_tmp (s := 4) (b := 5) (ad := ⟨w.heap.size + 1, 0, none⟩) (x := .agg A) (y := .int .i64 0) rfl rfl rfl rfl (load_whole (n := 5) hr9 _ Tryz.underlying60 rfl (by kernel_rfl)) ?_
        have hAe : A = #[.bool fin, .int .i64 (k : Nat), .int .i64 (n : Nat), .slice none 0 0, .slice none 0 0] := by
          rw [← Array.toArray_toList (xs := A), HAL.out]; rfl
        rw [HHZ.out, HDE.out, hAe]
        exact ⟨_, _, p2, rfl, Own.nil _ _ _, Own.nil _ _ _, (HX4.out.stay HSG.out (fun e => by injection e with e; omega)).stay HG9.out (fun e => by injection e with e; omega), HP2.out, fun _ => rfl, grown_new (grown_new HG4.out HSG.out (Nat.le_refl _)) HG9.out (by omega)⟩
      · have hci : ((n : Int) + (m : Int) != 65535) = true := by simp; omega
        have HDE : Hid (D = (n, (6, p2))) := Lib.hid (by rw [HDB.out]; exact congrArg (Prod.mk n) (if_neg hc))
        clear hc HD HDB HX2
        go_wp2_with (refine wpList_store_agg rfl 60 _ _ rfl (w.heap.size + 1) 60 (w.heap.size + 1) 5 5 rfl zH rfl (by kernel_rfl) _ HR4.out (by simp [zH]) zH_one ?_; intro w9 hown9 hg9; (have HG9 := Lib.hid hg9; have HR9 : Hid (Own w9 (w.heap.size + 1) 60 (.slice (some ⟨w.heap.size + 1, 0, none⟩) 5 5) zH.toList) := Lib.hid hown9; clear hown9 hg9))
        refine ret_cell_tmp (s := 4) (b := 5) (ad := ⟨w.heap.size + 1, 0, none⟩) (x := .agg zH) (y := .int .i64 6) rfl rfl rfl rfl (load_whole (n := 5) HR9.out _ Tryz.underlying60 rfl (by kernel_rfl)) ?_
        have hhz : H = HeadN.zero := by rw [HHD.out, HDE.out]; rfl
        rw [hhz, HDE.out]
        exact ⟨_, _, p2, rfl, Own.nil _ _ _, Own.nil _ _ _, HX4.out.stay HG9.out (fun e => by injection e with e; omega), HP2.out, (fun h => by cases h), grown_new HG4.out HG9.out (by omega)⟩
    · have h2i : ((e2 : Int) != 0) = true := by simpa using h2
      have HDE : Hid (D = (n, (2, p2))) := Lib.hid (by
        rw [HDB.out]
        refine congrArg (Prod.mk n) ?_
        have e := ht2 h2
        show (if m + n = 65535 then (e2, p2) else xf 6 (e2, p2)) = _
        rw [xf_of (by exact h2), e]
        split <;> rfl)
      clear h2 HD HDB HX2 ht2
      go_wp2_with (refine wpList_store_agg rfl 60 _ _ rfl (w.heap.size + 1) 60 (w.heap.size + 1) 5 5 rfl zH rfl (by kernel_rfl) _ HR4.out (by simp [zH]) zH_one ?_; intro w9 hown9 hg9; (have HG9 := Lib.hid hg9; have HR9 : Hid (Own w9 (w.heap.size + 1) 60 (.slice (some ⟨w.heap.size + 1, 0, none⟩) 5 5) zH.toList) := Lib.hid hown9; clear hown9 hg9))
      refine ret_cell_tmp (s := 4) (b := 5) (ad := ⟨w.heap.size + 1, 0, none⟩) (x := .agg zH) (y := .int .i64 2) rfl rfl rfl rfl (load_whole (n := 5) HR9.out _ Tryz.underlying60 rfl (by kernel_rfl)) ?_
      have hhz : H = HeadN.zero := by rw [HHD.out, HDE.out]; rfl
      rw [hhz, HDE.out]
      exact ⟨_, _, p2, rfl, Own.nil _ _ _, Own.nil _ _ _, HX4.out.stay HG9.out (fun e => by injection e with e; omega), HP2.out, (fun h => by cases h), grown_new HG4.out HG9.out (by omega)⟩
  · have h1i : ((e1 : Int) != 0) = true := by simpa using h1
    have HDE : Hid (D = (n, (2, p1))) := Lib.hid (by
      rw [HD.out]
      refine congrArg (Prod.mk n) ?_
      have e := ht1 h1
      rw [xb_bad h1, xf_of (by exact h1), e]
      split <;> rfl)
    clear h1 HD HX2 ht1
    go_wp2_with (refine wpList_store_agg rfl 60 _ _ rfl (w.heap.size + 1) 60 (w.heap.size + 1) 5 5 rfl zH rfl (by kernel_rfl) _ HR4.out (by simp [zH]) zH_one ?_; intro w9 hown9 hg9; (have HG9 := Lib.hid hg9; have HR9 : Hid (Own w9 (w.heap.size + 1) 60 (.slice (some ⟨w.heap.size + 1, 0, none⟩) 5 5) zH.toList) := Lib.hid hown9; clear hown9 hg9))
    refine ret_cell_tmp (s := 4) (b := 5) (ad := ⟨w.heap.size + 1, 0, none⟩) (x := .agg zH) (y := .int .i64 2) rfl rfl rfl rfl (load_whole (n := 5) HR9.out _ Tryz.underlying60 rfl (by kernel_rfl)) ?_
    have hhz : H = HeadN.zero := by rw [HHD.out, HDE.out]; rfl
    rw [hhz, HDE.out]
    exact ⟨_, _, p2, rfl, Own.nil _ _ _, Own.nil _ _ _, HX4.out.stay HG9.out (fun e => by injection e with e; omega), HP2.out, (fun h => by cases h), grown_new HG4.out HG9.out (by omega)⟩
end Go.Cm
