/- Texts of this claim, joined: walks of small functions and plain facts about them. Conditions: as each says. -/
import Derived.Test.YtmophmeiemfikaaRows
import Derived.WalkKit
import Derived.WalkSpells
import Derived.WalkLawsBesides
import Derived.Deep.QuietTactic
import Derived.BigQuiet
import Derived.Lib.Hide
import Derived.Laws.Small
import Derived.Deep.LoopGhost
import Derived.Laws.BitsLemmas
import Derived.Deep.DeepCutAuto
import Derived.Laws.IdiomStrings
import Derived.Deep.CutBlock
import Derived.Deep.CutRange
import Derived.Test.YtmophmeiemfikaaMH
import Derived.SizedLaws
import Derived.ProofKit
import Derived.OpenShut
import Derived.Deep.Slices
import Derived.ChangeSlices
import Derived.WideKeyArgs
/- The walks of what tells whether parts are few. Conditions: the parts read as a list. -/
namespace Go.Cm
open Go.RowKit Go.Proofs

structure FewP (p : PtN) : Prop where
  t : p.text.size ≤ 70000
  o : p.ops.length ≤ 400
  l : p.lits.length ≤ 400
  d : p.dists.length ≤ 400
def FewL (l : List PtN) : Prop := l.length ≤ 30 ∧ ∀ i, i < l.length → FewP (l.getD i zPt)
set_option maxRecDepth 100000 in
set_option maxHeartbeats 4000000 in
theorem bytesPk {w : World} {v : Value} {l : List PtN} (h : PartsAt w v l) : Calls Try.prog 39 #[v] w fun e w' => ∃ n : Int, e = .returned (.int .i64 n) ∧ (0 ≤ n → FewL l) ∧ ∃ x, w' = ext w x := by
  obtain ⟨oa, cap, bl, off, rfl, hd, hco⟩ := h.open
  have HCO := Lib.hid hco
  have HD := Lib.hid hd
  have hm := hd.len
  clear h hd hco
  by_cases hbig : 30 < l.length
  · have hbi : (l.length : Int) > 30 := by omega
    clear hbig
    go_enter Try.func39, Try.ntmps39
    go_wp2
    go_ret
    exact ⟨-1, rfl, fun h => absurd h (by decide), (ex_ext (by repeat (first | exact Below.refl _ _ | assumption | refine b_drewN ?_ _ | refine Below.drew ?_ | refine b_ext' ?_ _ | refine b_alloc' ?_ _)))⟩
  · have hbi : ¬ (l.length : Int) > 30 := by omega
    go_enter Try.func39, Try.ntmps39
    go_wp2
    go_loopg [3, 4] (l.length + 1) (fun gk nv iv wr => ∃ (k : Nat) (n : Int), nv = .int .i64 n ∧ iv = .int .i64 k ∧ k ≤ l.length ∧ Hid (∀ i, i < k → FewP (l.getD i zPt)) ∧ Below w.heap.size w wr ∧ gk = l.length + 1 - k)
    case atStart => exact ⟨0, 0, rfl, rfl, Nat.zero_le _, Lib.hid (fun i hi => absurd hi (Nat.not_lt_zero i)), Below.refl _ _, rfl⟩
    case round =>
      obtain ⟨k, n, rfl, rfl, hk, HF, hbl, rfl⟩ := hrel
      have HBL := Lib.hid hbl
      generalize wr = wo at *
      clear hbl
      by_cases hlt : k < l.length
      · have hlti : decide (k < l.length) = true := by rw [decide_eq_true_iff]; omega
        have hix := index_anyK (P := Try.prog) 5 22 80 Try.underlying22 (by kernel_rfl) HD.out
        have hix2 := fun W kd => hix W kd (k : Int) (by omega) (by omega)
        simp only [Int.toNat_natCast] at hix2
        obtain ⟨oo, oc, o1, c1, o2, c2, hcc, hs, hi1, hi2⟩ := HCO.out k hlt
        have hbb := HD.out.hblk (by omega)
        have hc5 : ∀ c, c < 5 → wo.cell? ⟨bl, off + k * 5 + c, none⟩ = some ((#[.int .i64 (l.getD k zPt).kind, .string (l.getD k zPt).text, .slice oo (l.getD k zPt).ops.length oc, .slice o1 (l.getD k zPt).lits.length c1, .slice o2 (l.getD k zPt).dists.length c2] : Array Value).getD c undef) := fun c hc => (HBL.out.cell (p := ⟨bl, off + k * 5 + c, none⟩) hbb).trans (hcc c hc)
        obtain ⟨p, hp⟩ : ∃ p, p = l.getD k zPt := ⟨_, rfl⟩
        rw [← hp] at hc5 hs hi1 hi2
        have HP := Lib.hid hp
        have e1 : wo.cell? ⟨bl, off + k * 5 + 1, none⟩ = some (.string p.text) := hc5 1 (by decide)
        have e2 : wo.cell? ⟨bl, off + k * 5 + 2, none⟩ = some (.slice oo p.ops.length oc) := hc5 2 (by decide)
        have e3 : wo.cell? ⟨bl, off + k * 5 + 3, none⟩ = some (.slice o1 p.lits.length c1) := hc5 3 (by decide)
        have e4 : wo.cell? ⟨bl, off + k * 5 + 4, none⟩ = some (.slice o2 p.dists.length c2) := hc5 4 (by decide)
        have hblo : bl < wo.heap.size := by have := HBL.out.size; omega
        have HS := Lib.hid (fun (W : World) (hb : Below wo.heap.size wo W) => hs.up (HBL.out.trans (hb.mono HBL.out.size)))
        clear hcc hs hi1 hi2 hix hc5 hp
        by_cases hf : FewP p
        · obtain ⟨ht, ho, hl, hdd⟩ := hf
          have ht1 : decide ((p.text.size : Int) > 70000) = false := by rw [decide_eq_false_iff_not]; omega
          have ho1 : decide ((p.ops.length : Int) > 400) = false := by rw [decide_eq_false_iff_not]; omega
          have hl1 : decide ((p.lits.length : Int) > 400) = false := by rw [decide_eq_false_iff_not]; omega
          have hd1 : decide ((p.dists.length : Int) > 400) = false := by rw [decide_eq_false_iff_not]; omega
          have HF2 : Hid (∀ i, i < k + 1 → FewP (l.getD i zPt)) := Lib.hid (fun i hi => by
            rcases Nat.lt_succ_iff_lt_or_eq.1 hi with h | rfl
            · exact HF.out i h
            · rw [← HP.out]; exact ⟨ht, ho, hl, hdd⟩)
          clear HP
          go_wp2
          go_loopg [3, 5] (p.ops.length + 1) (fun gk nv jv wr => ∃ (j : Nat) (m : Int), nv = .int .i64 m ∧ jv = .int .i64 j ∧ j ≤ p.ops.length ∧ Below wo.heap.size wo wr ∧ gk = p.ops.length + 1 - j)
          case atStart => exact ⟨0, _, rfl, rfl, Nat.zero_le _, Below.refl _ _, rfl⟩
          case round =>
            obtain ⟨j, m, rfl, rfl, hj, hbw, rfl⟩ := hrel
            have HBW := Lib.hid hbw
            have g2 : wr.cell? ⟨bl, off + k * 5 + 2, none⟩ = some (.slice oo p.ops.length oc) := (hbw.cell (p := ⟨bl, off + k * 5 + 2, none⟩) hblo).trans e2
            have hblr : bl < wr.heap.size := Nat.lt_of_lt_of_le hblo hbw.size
            clear hbw
            by_cases hlt2 : j < p.ops.length
            · have hltj : decide (j < p.ops.length) = true := by rw [decide_eq_true_iff]; omega
              obtain ⟨oo', oc', ob', off', hv', hdo, hco⟩ := ops_open (HS.out wr HBW.out)
              obtain ⟨rfl, rfl⟩ : oo = oo' ∧ oc = oc' := by
                injection hv' with e1 e2 e3; exact ⟨e1, e3⟩
              have hix := index_anyK (P := Try.prog) 3 32 75 Try.underlying32 (by kernel_rfl) hdo
              have hix3 := fun W kd => hix W kd (j : Int) (by omega) (by omega)
              simp only [Int.toNat_natCast] at hix3
              have hc1 : wr.cell? ⟨ob', off' + j * 3 + 1, none⟩ = some (.int .i64 p.ops[j].len) := hco j hlt2 1 (by decide)
              have hbo := hdo.hblk (by omega)
              generalize p.ops[j].len = on at *
              have hor : decide (on > 0) = false ∨ (decide (on > 0) = true ∧ decide (on < 300) = false) ∨ (decide (on > 0) = true ∧ decide (on < 300) = true) := by
                simp only [decide_eq_true_eq, decide_eq_false_iff_not]; omega
              clear hco hix hdo hv'
              rcases hor with h1 | ⟨h1, h2⟩ | ⟨h1, h2⟩ <;>
              · go_wp2
                go_roundg (p.ops.length + 1 - (j + 1))
                case measure => omega
                case rel => exact ⟨j + 1, _, rfl, by go_num, by omega, HBW.out, rfl⟩
            · have hltj : decide (j < p.ops.length) = false := by rw [decide_eq_false_iff_not]; omega
              go_wp2
              go_roundg (l.length + 1 - (k + 1))
              case measure => omega
              case rel => exact ⟨k + 1, m, rfl, by go_num, by omega, HF2, HBL.out.trans (HBW.out.mono HBL.out.size), rfl⟩
        · have hor : decide ((p.text.size : Int) > 70000) = true ∨ (decide ((p.text.size : Int) > 70000) = false ∧ decide ((p.ops.length : Int) > 400) = true) ∨ (decide ((p.text.size : Int) > 70000) = false ∧ decide ((p.ops.length : Int) > 400) = false ∧ decide ((p.lits.length : Int) > 400) = true) ∨ (decide ((p.text.size : Int) > 70000) = false ∧ decide ((p.ops.length : Int) > 400) = false ∧ decide ((p.lits.length : Int) > 400) = false ∧ decide ((p.dists.length : Int) > 400) = true) := by
            simp only [decide_eq_true_eq, decide_eq_false_iff_not]
            apply Classical.byContradiction
            intro hn
            exact hf ⟨by omega, by omega, by omega, by omega⟩
          clear hf
          rcases hor with h1 | ⟨h1, h2⟩ | ⟨h1, h2, h3⟩ | ⟨h1, h2, h3, h4⟩ <;>
          · go_wp2
            go_ret
            exact ⟨-1, rfl, fun h => absurd h (by decide), ex_ext HBL.out⟩
      · have hlti : decide (k < l.length) = false := by rw [decide_eq_false_iff_not]; omega
        go_wp2
        go_ret
        exact ⟨n, rfl, fun _ => ⟨by omega, fun i hi => HF.out i (by omega)⟩, ex_ext HBL.out⟩
theorem fewPk {w : World} {v : Value} {l : List PtN} (h : PartsAt w v l) : Calls Try.prog 12 #[v] w fun e w' => ∃ b : Bool, e = .returned (.bool b) ∧ (b = true → FewL l) ∧ ∃ x, w' = ext w x := by
  have HB := Lib.hid (bytesPk h)
  obtain ⟨oa, cap, bl, off, rfl, hd, -⟩ := h.open
  clear hd h
  go_enter Try.func12, Try.ntmps12
  go_upto_region 2 with (go_at_call 39; (with_reducible refine HB.out.mono ?_); rintro e w1 ⟨n, rfl, hn, x1, rfl⟩; have HN := Lib.hid hn; clear hn)
  have hor : decide (n ≥ 0) = false ∨ (decide (n ≥ 0) = true ∧ decide (n ≤ 100000) = false) ∨ (decide (n ≥ 0) = true ∧ decide (n ≤ 100000) = true) := by
    simp only [decide_eq_true_eq, decide_eq_false_iff_not]; omega
  rcases hor with h1 | ⟨h1, h2⟩ | ⟨h1, h2⟩
  · go_wp2
    go_ret
    exact ⟨false, rfl, fun h => (by cases h), (ex_ext (by repeat (first | exact Below.refl _ _ | assumption | refine b_drewN ?_ _ | refine Below.drew ?_ | refine b_ext' ?_ _ | refine b_alloc' ?_ _)))⟩
  · go_wp2
    go_ret
    exact ⟨false, rfl, fun h => (by cases h), (ex_ext (by repeat (first | exact Below.refl _ _ | assumption | refine b_drewN ?_ _ | refine Below.drew ?_ | refine b_ext' ?_ _ | refine b_alloc' ?_ _)))⟩
  · have h3 : 0 ≤ n := by simpa using h1
    have HN2 := Lib.hid (HN.out h3)
    go_wp2
    go_ret
    exact ⟨true, rfl, fun _ => HN2.out, (ex_ext (by repeat (first | exact Below.refl _ _ | assumption | refine b_drewN ?_ _ | refine Below.drew ?_ | refine b_ext' ?_ _ | refine b_alloc' ?_ _)))⟩
end Go.Cm

/- The walk of PackTexts. Conditions: the parts read as a list, what they hold fits. -/
namespace Go.Cm
open Go.RowKit Go.Proofs

theorem few_mem {l : List PtN} (h : FewL l) : ∀ p ∈ l, FewP p := fun p hp => by
  obtain ⟨i, hi, rfl⟩ := List.getElem_of_mem hp
  have := h.2 i hi
  simpa [List.getD, hi] using this
theorem few_sm {l : List PtN} (h : FewL l) : ∀ p ∈ l, PtSm p := fun p hp => by
  obtain ⟨h1, h2, -, -⟩ := few_mem h p hp
  exact ⟨by omega, by omega⟩
theorem few_sz {l : List PtN} (h : FewL l) : ∀ k, k ≤ l.length → (encK l k).2.2 ≤ 90000000 := fun k hk => by
  have h1 := encK_len (l := l) (M := 580700) (fun p hp => by obtain ⟨h1, h2, -, -⟩ := few_mem h p hp; omega) k hk
  have h2 : k * 580700 ≤ 30 * 580700 := Nat.mul_le_mul_right _ (Nat.le_trans hk h.1)
  omega
theorem pt_row {w : World} {c : List Value} {p : PtN} (h : PtCells w c p) : PtRow c := by
  obtain ⟨vo, vl, vd, rfl, h1, h2, h3⟩ := h
  obtain ⟨oo, oc, ob, of, rfl, -⟩ := ops_open h1
  obtain ⟨o1, c1, b1, f1, rfl, -⟩ := h2.open
  obtain ⟨o2, c2, b2, f2, rfl, -⟩ := h3.open
  exact ⟨_, _, _, _, _, _, _, _, _, _, _, rfl⟩
theorem PartsAt.rows {w : World} {v : Value} {l : List PtN} (h : PartsAt w v l) : ∃ cs, SlK 5 w v cs ∧ cs.length = l.length ∧ (∀ i, i < l.length → PtCells w (cs.getD i []) (l.getD i zPt)) ∧ ∀ c ∈ cs, PtRow c := by
  obtain ⟨cs, h1, h2, h3⟩ := h
  refine ⟨cs, h1, h2, h3, fun c hc => ?_⟩
  obtain ⟨i, hi, rfl⟩ := List.getElem_of_mem hc
  have := h3 i (by omega)
  rw [show cs.getD i [] = cs[i] by simp [List.getD, hi]] at this
  exact pt_row this
theorem givenPt {w : World} {v : Value} {l : List PtN} (h : PartsAt w v l) (hlen : l.length ≤ 100000) : Calls Try.prog 15 #[v] w fun e w' => ∃ v', e = .returned v' ∧ PartsAt w' v' l ∧ Below w.heap.size w w' := by
  obtain ⟨cs, h1, h2, h3, h4⟩ := h.rows
  refine (givenPk h1 h4 (by omega)).mono ?_
  rintro e w' ⟨v', rfl, ho, hb⟩
  exact ⟨v', rfl, ⟨cs, ho.sl, h2, fun i hi => (h3 i hi).up hb⟩, hb⟩
theorem takenPt {w : World} {v : Value} {l : List PtN} (h : PartsAt w v l) (hlen : l.length ≤ 100000) : Calls Try.prog 23 #[v] w fun e w' => ∃ v', e = .returned v' ∧ PartsAt w' v' l ∧ Below w.heap.size w w' := by
  obtain ⟨cs, h1, h2, h3, h4⟩ := h.rows
  refine (takenPk h1 h4 (by omega)).mono ?_
  rintro e w' ⟨v', rfl, ho, hb⟩
  exact ⟨v', rfl, ⟨cs, ho.sl, h2, fun i hi => (h3 i hi).up hb⟩, hb⟩
set_option maxRecDepth 100000 in
set_option maxHeartbeats 4000000 in
theorem packTexts {w : World} {v : Value} {l : List PtN} (h : PartsAt w v l) (hok : ∀ p ∈ l, PtOk p) (hops : ∀ p ∈ l, ∀ o ∈ p.ops, OpOk o) : Calls Try.prog 3 #[v] w fun e w' => e = .returned (.bool true) ∧ ∃ x, w' = ext w x := by
  have HP := Lib.hid h
  have HFW := Lib.hid (fewPk h)
  obtain ⟨oa, cap, bl, off, rfl, -⟩ := h.open
  clear h
  go_enter Try.func3, Try.ntmps3
  go_wp2_with (fail)
  (with_reducible refine HFW.out.mono ?_)
  rintro en w1 ⟨b, rfl, hfew, x1, rfl⟩
  have HB1 := Lib.hid (ext_below w x1)
  generalize ext w x1 = w1 at *
  cases b with
  | false =>
    go_wp2_with ((with_reducible go_at_call 13); (with_reducible refine known11.mono ?_); rintro en w2 ⟨rfl, x2, rfl⟩)
    go_ret
    exact ⟨rfl, ex_ext (HB1.out.trans ((ext_below w1 x2).mono HB1.out.size))⟩
  | true =>
    have hf := hfew rfl
    have HP1 := Lib.hid (HP.out.up HB1.out)
    have HSM := Lib.hid (few_sm hf)
    have HSZ := Lib.hid (few_sz hf)
    have HLN : Hid (l.length ≤ 100000) := Lib.hid (by have := hf.1; omega)
    have HG := Lib.hid (fun (W : World) (hb : Below w1.heap.size w1 W) => givenPt (HP1.out.up hb) HLN.out)
    have HTR := Lib.hid (fun (W : World) (hb : Below w1.heap.size w1 W) => textRk (HP1.out.up hb) hok)
    have HER := Lib.hid (fun (W : World) (hb : Below w1.heap.size w1 W) => encodeRk (HP1.out.up hb) hok hops HSM.out HSZ.out)
    have HTP := Lib.hid (fun (W : World) (u : Value) (hu : PartsAt W u l) => textPk hu hok)
    have HEP := Lib.hid (fun (W : World) (u : Value) (hu : PartsAt W u l) => encodePk hu hok hops HSM.out HSZ.out)
    unfold RetTextN at HTR HER HTP HEP
    clear hf hfew HFW hok hops
    generalize textOf 10 17 l = T at *
    generalize encR l = E at *
    generalize l.length = ln at *
    obtain ⟨t2, t1⟩ := T
    obtain ⟨e2, e1⟩ := E
    simp only at HTR HER HTP HEP
    go_wp2_with (fail)
    (with_reducible refine (HG.out _ (Below.refl _ _)).mono ?_)
    rintro en w2 ⟨u2, rfl, hp2, hb2⟩
    have HT2 := Lib.hid (HTP.out w2 u2 hp2)
    have HB2 := Lib.hid hb2
    clear hp2 hb2
    go_wp2_with (fail)
    (with_reducible refine HT2.out.mono ?_)
    rintro en w3 ⟨rfl, x3, rfl⟩
    have HB3 := Lib.hid (HB2.out.trans ((ext_below w2 x3).mono HB2.out.size))
    generalize ext w2 x3 = w3 at *
    clear HT2
    go_wp2_with (fail)
    (with_reducible refine (HTR.out _ HB3.out).mono ?_)
    rintro en w4 ⟨rfl, x4, rfl⟩
    have HB4 := Lib.hid (HB3.out.trans ((ext_below w3 x4).mono HB3.out.size))
    generalize ext w3 x4 = w4 at *
    go_wp2_with (fail)
    (with_reducible refine (HG.out _ HB4.out).mono ?_)
    rintro en w5 ⟨u5, rfl, hp5, hb5⟩
    have HE5 := Lib.hid (HEP.out w5 u5 hp5)
    have HB5 := Lib.hid (HB4.out.trans (hb5.mono HB4.out.size))
    clear hp5 hb5
    go_wp2_with (fail)
    (with_reducible refine HE5.out.mono ?_)
    rintro en w6 ⟨rfl, x6, rfl⟩
    have HB6 := Lib.hid (HB5.out.trans ((ext_below w5 x6).mono HB5.out.size))
    generalize ext w5 x6 = w6 at *
    clear HE5
    go_wp2_with (fail)
    (with_reducible refine (HER.out _ HB6.out).mono ?_)
    rintro en w7 ⟨rfl, x7, rfl⟩
    have HB7 := Lib.hid (HB6.out.trans ((ext_below w6 x7).mono HB6.out.size))
    generalize ext w6 x7 = w7 at *
    clear HTR HER HTP HEP HG HB2 HB3 HB4 HB5 HB6
    go_wp2_with ((with_reducible go_at_call 13); (with_reducible refine known11.mono ?_); rintro en w8 ⟨rfl, x8, rfl⟩)
    go_ret
    exact ⟨rfl, ex_ext (HB1.out.trans ((HB7.out.trans ((ext_below w7 x8).mono HB7.out.size)).mono HB1.out.size))⟩
end Go.Cm

/- Arguments that a law is handed, as data: lists of ints, texts. Conditions: none. -/
namespace Go.Cm
open Go.RowKit Go.Proofs Go.WideShapes Go.ChangeShapes Go.Deep

section
variable {H : Type} {enc : TypeId × Value → H} {P : Program}
theorem post_of_below {f : Func} {s : ChangeSpec} {apart fresh handsOn again : Bool} {W W' : World} {args : Array Value} {v : Value} {ds gs : List (DataW H)} {before pa pv : List MemPlace}
    (hW : DataW.Whole enc P f.params.toList s.vars apart W args.toList ds gs before)
    (hres : ∀ (b : Nat) (sp : Nat → Bool) (hd : Bool), DataW.TrodAll enc P W' b sp hd f.resultTypes.toList (v.resultList f.resultTypes.size) (s.fn H (ds ++ gs)).results [])
    (hargs : ∀ sp : Nat → Bool, (∀ p ∈ before, sp p.block = true) → DataW.TrodAll enc P W' 0 sp true f.params.toList args.toList (s.fn H (ds ++ gs)).args pa)
    (hvars : ∀ sp : Nat → Bool, (∀ p ∈ before, sp p.block = true) → DataW.TrodVars enc P W' sp s.vars (s.fn H (ds ++ gs)).vars pv)
    (hps : before = pa ++ pv) (hb : Below W.heap.size W W')
    (hok : ∀ (j : Nat) (t : TypeId) (r : Value), f.resultTypes[j]? = some t → (v.resultList f.resultTypes.size)[j]? = some r → Value.okWide P W' .any 0 t r) :
    s.post enc P f apart fresh handsOn again W args v W' := by
  have hlt : ∀ p ∈ before, p.block < W.heap.size := fun p hp => hW.lt p hp
  have hold : ∀ p ∈ before, (fun b => decide (b < W.heap.size)) p.block = true := fun p hp => by simpa using hlt p hp
  refine ⟨ds, gs, before, [], pa, pv, hW, hres _ _ _, hargs _ hold, hvars _ hold, World.keptBut_mono (fun p hp => ⟨hp, ?_⟩) (hb.frame (· ∈ before)), fun _ => ?_⟩
  · rw [hps, List.mem_append] at hp
    exact Or.inr hp
  · obtain ⟨_, _, _, _, _, hz, hn⟩ := hW
    refine ⟨hok, _, _, ([] ++ pa) ++ pv, ⟨[] ++ pa, pv, trodAll_append (hargs _ (fun _ _ => rfl)) (hres _ _ _), hvars _ (fun _ _ => rfl), rfl, ?_, ?_⟩, ?_⟩
    · intro b off hp
      have hin : MemPlace.cell b off ∈ before := by rw [hps]; simpa using hp
      rw [hb.frozen (hlt _ hin)]
      exact hz b off hin
    · intro ha
      have := hn ha
      rw [hps] at this
      simpa using this
    · intro p hp _
      rw [hps]
      simpa using hp
end

section
variable {H : Type} {enc : TypeId × Value → H} {P : Program} {w : World} {base : Nat} {held : Bool}
theorem weights_slice {t e : TypeId} {elems spare : List (DataW H)} (hu : P.underlying t = some (.slice e)) : (DataW.slice elems spare).weights P t = (elems.length + spare.length) * P.bytesOf e :: (DataW.weightsAll P e elems ++ DataW.weightsAll P e spare) := by
  simp [DataW.weights, hu]
theorem weightsAll_mem {e : TypeId} {d : DataW H} : ∀ {l : List (DataW H)}, d ∈ l → ∀ n ∈ d.weights P e, n ∈ DataW.weightsAll P e l
  | a :: l, h, n, hn => by
    simp only [DataW.weightsAll, List.mem_append]
    rcases List.mem_cons.1 h with rfl | h
    · exact .inl hn
    · exact .inr (weightsAll_mem h n hn)
theorem addr_add (b off j : Nat) : (⟨b, off, none⟩ : Addr).add j = ⟨b, off + j, none⟩ := by unfold Addr.add; split <;> simp_all
theorem reach_is : reachBytes = 140737488351232 := rfl
/-- a slice of whatever elements of one cell, opened -/
theorem open_hd {t e : TypeId} {fuel : Nat} {cs : List Value} {x : DataW H × List MemPlace} (ht : P.underlying t = some (.slice e)) (hc : P.cellsOf e = 1) (hb : 1 ≤ P.bytesOf e) (h : DataW.trod enc P w base (fun _ => true) held fuel t cs = some x) (hw : ∀ n ∈ x.1.weights P t, n ≤ reachBytes) :
    ∃ (oa : Option Addr) (len cap b off : Nat) (V : Nat → Value) (D : Nat → DataW H), cs = [.slice oa len cap] ∧ Hd w oa len cap b off ∧ ∀ i, i < len → w.cell? ⟨b, off + i, none⟩ = some (V i) ∧ (∃ n p, DataW.trod enc P w base (fun _ => true) held n e [V i] = some (D i, p)) ∧ ∀ n ∈ (D i).weights P e, n ≤ reachBytes := by
  rcases open_slice1 ht hc h with ⟨rfl, -⟩ | ⟨a, len, cap, m, n, V, D, Pl, rfl, -, hl, hm, hmm, rfl, hx⟩
  · exact ⟨none, 0, 0, 0, 0, fun _ => undef, fun _ => .nil, rfl, ⟨fun h => absurd h (Nat.lt_irrefl 0), Nat.le_refl _, by simp [maxLen], by simp, fun h => absurd h (Nat.lt_irrefl 0)⟩, fun i hi => absurd hi (Nat.not_lt_zero i)⟩
  · simp only [if_true] at hmm
    subst hmm
    have hwt := weights_slice (P := P) (elems := (List.range len).map D) (spare := (List.range (m - len)).map fun j => D (len + j)) ht
    simp only at hw
    rw [hwt] at hw
    have h1 := hw _ (List.mem_cons_self ..)
    simp only [List.length_map, List.length_range] at h1
    have h2 : m * 1 ≤ (len + (m - len)) * P.bytesOf e := Nat.mul_le_mul (by omega) hb
    rw [reach_is] at h1
    obtain ⟨ab, ao, asp⟩ := a
    have hsp : 0 < len → asp = none := fun h0 => by
      have h3 := (hx 0 (by omega)).1
      simpa [Addr.add] using World.cell?_spot h3
    refine ⟨some ⟨ab, ao, asp⟩, len, m, ab, ao, V, D, rfl, ⟨fun h0 => by rw [hsp h0], hl, hm, by omega, fun h0 => ?_⟩, fun i hi => ⟨?_, ⟨n, Pl i, (hx i (by omega)).2⟩, fun k hk => hw k (List.mem_cons_of_mem _ (List.mem_append_left _ (weightsAll_mem (List.mem_map.2 ⟨i, List.mem_range.2 hi, rfl⟩) k hk)))⟩⟩
    · have h3 := (hx 0 (by omega)).1
      have := World.block_lt_of_cell? _ _ h3
      simpa [Addr.add] using this
    · have h3 := (hx i (by omega)).1
      have h4 := hsp (by omega)
      subst h4
      rwa [addr_add] at h3
theorem open_IntsAt {t e : TypeId} {fuel : Nat} {cs : List Value} {x : DataW H × List MemPlace} (ht : P.underlying t = some (.slice e)) (he : P.underlying e = some (.int .i64)) (hc : P.cellsOf e = 1) (hb : 1 ≤ P.bytesOf e)
    (h : DataW.trod enc P w base (fun _ => true) held fuel t cs = some x) (hw : ∀ n ∈ x.1.weights P t, n ≤ reachBytes) : ∃ v l, cs = [v] ∧ IntsAt w v l := by
  obtain ⟨oa, len, cap, b, off, V, D, rfl, hd, hx⟩ := open_hd ht hc hb h hw
  have hV : ∀ i, i < len → ∃ z : Int, V i = .int .i64 z := fun i hi => by
    obtain ⟨-, ⟨n, p, h2⟩, -⟩ := hx i hi
    obtain ⟨k, e1, -, -⟩ := DataW.trod_int he h2
    exact ⟨k, by simpa using e1⟩
  obtain ⟨Z, hZ⟩ := choose_lt hV
  refine ⟨_, (List.range len).map Z, rfl, ?_⟩
  have hl : (ints ((List.range len).map Z)).length = len := by simp
  refine ⟨oa, cap, b, off, by rw [hl], by rw [hl]; exact hd, fun i hi => ?_⟩
  rw [hl] at hi
  rw [(hx i hi).1, hZ i hi, ints_getD _ _ (by simpa using hi)]
  simp [List.getD, hi]
end

section
variable {H : Type} {enc : TypeId × Value → H} {w : World} {base : Nat} {held : Bool}
end
end Go.Cm

/- Arguments that are slices of elements of several cells, opened. Conditions: none. -/
namespace Go.Cm
open Go.RowKit Go.Proofs Go.WideShapes Go.ChangeShapes Go.Deep

section
variable {H : Type} {enc : TypeId × Value → H} {P : Program} {w : World} {base : Nat} {held : Bool}
/-- a slice of elements of k cells, opened -/
theorem open_hdK {t e : TypeId} {fuel : Nat} {cs : List Value} {x : DataW H × List MemPlace} (k : Nat) (hk : 0 < k) (ht : P.underlying t = some (.slice e)) (hc : P.cellsOf e = k) (hb : 1 ≤ P.bytesOf e) (h : DataW.trod enc P w base (fun _ => true) held fuel t cs = some x) (hw : ∀ n ∈ x.1.weights P t, n ≤ reachBytes) :
    ∃ (oa : Option Addr) (len cap b off : Nat) (C : Nat → List Value) (D : Nat → DataW H), cs = [.slice oa len cap] ∧ Hd w oa len cap b off ∧ ∀ i, i < len → (C i).length = k ∧ (∀ c, c < k → w.cell? ⟨b, off + i * k + c, none⟩ = some ((C i).getD c undef)) ∧ (∃ n p, DataW.trod enc P w base (fun _ => true) held n e (C i) = some (D i, p)) ∧ ∀ n ∈ (D i).weights P e, n ≤ reachBytes := by
  rcases open_slice ht h with ⟨rfl, -⟩ | ⟨a, len, cap, m, n, D, Pl, rfl, -, hl, hm, hmm, rfl, hx⟩
  · exact ⟨none, 0, 0, 0, 0, fun _ => [], fun _ => .nil, rfl, ⟨fun h => absurd h (Nat.lt_irrefl 0), Nat.le_refl _, by simp [maxLen], by simp, fun h => absurd h (Nat.lt_irrefl 0)⟩, fun i hi => absurd hi (Nat.not_lt_zero i)⟩
  · simp only [if_true] at hmm
    subst hmm
    rw [hc] at hx
    have hwt := weights_slice (P := P) (elems := (List.range len).map D) (spare := (List.range (m - len)).map fun j => D (len + j)) ht
    simp only at hw
    rw [hwt] at hw
    have h1 := hw _ (List.mem_cons_self ..)
    simp only [List.length_map, List.length_range] at h1
    have h2 : m * 1 ≤ (len + (m - len)) * P.bytesOf e := Nat.mul_le_mul (by omega) hb
    rw [reach_is] at h1
    have hx2 : ∀ i, i < m → ∃ cs', cs'.length = k ∧ (∀ c, c < k → w.cell? ((a.add (i * k)).add c) = some (cs'.getD c undef)) ∧ DataW.trod enc P w base (fun _ => true) held n e cs' = some (D i, Pl i) := fun i hi => by
      obtain ⟨cs', h3, h4⟩ := hx i hi
      obtain ⟨_, hlen, hcell⟩ := World.cells?_some h3
      refine ⟨cs', hlen, fun c hcl => ?_, h4⟩
      rw [hcell c (by omega)]
      simp [List.getD, show c < cs'.length by omega]
    obtain ⟨C, hC⟩ := choose_lt hx2
    obtain ⟨ab, ao, asp⟩ := a
    have hsp : 0 < len → asp = none := fun h0 => by
      have h3 := (hC 0 (by omega)).2.1 0 hk
      rw [Nat.zero_mul] at h3
      simpa [Addr.add] using World.cell?_spot h3
    refine ⟨some ⟨ab, ao, asp⟩, len, m, ab, ao, C, D, rfl, ⟨fun h0 => by rw [hsp h0], hl, hm, by omega, fun h0 => ?_⟩, fun i hi => ⟨(hC i (by omega)).1, fun c hcl => ?_, ⟨n, Pl i, (hC i (by omega)).2.2⟩, fun k hk => hw k (List.mem_cons_of_mem _ (List.mem_append_left _ (weightsAll_mem (List.mem_map.2 ⟨i, List.mem_range.2 hi, rfl⟩) k hk)))⟩⟩
    · have h3 := (hC 0 (by omega)).2.1 0 hk
      have := World.block_lt_of_cell? _ _ h3
      simpa [Addr.add] using this
    · have h3 := (hC i (by omega)).2.1 c hcl
      have h4 := hsp (by omega)
      subst h4
      rw [addr_add, addr_add] at h3
      exact h3
end
theorem list3 {α : Type} {l : List α} (h : l.length = 3) : ∃ a b c, l = [a, b, c] := by
  match l, h with
  | [a, b, c], _ => exact ⟨a, b, c, rfl⟩
theorem list5 {α : Type} {l : List α} (h : l.length = 5) : ∃ a b c d e, l = [a, b, c, d, e] := by
  match l, h with
  | [a, b, c, d, e], _ => exact ⟨a, b, c, d, e, rfl⟩
end Go.Cm

/- Arguments that are parts, opened. Conditions: none. -/
namespace Go.Cm
open Go.RowKit Go.Proofs Go.WideShapes Go.ChangeShapes Go.Deep

section
variable {H : Type} {enc : TypeId × Value → H} {w : World} {base : Nat} {held : Bool}
instance : Inhabited OpN := ⟨⟨0, 0, 0⟩⟩
instance : Inhabited PtN := ⟨zPt⟩
set_option maxRecDepth 10000 in
theorem open_op {fuel : Nat} {cs : List Value} {y : DataW H × List MemPlace} (h : DataW.trod enc Try.prog w base (fun _ => true) held fuel 75 cs = some y) (hl : cs.length = 3) :
    ∃ x : OpN, cs = opV x ∧ OpOk x := by
  obtain ⟨xs, n, -, -, -, hxl, hg⟩ := DataW.trod_struct Try.underlying75 h
  match xs, hxl with
  | [x0, x1, x2], _ =>
    have h0 := hg 0 _ rfl
    have h1 := hg 1 _ rfl
    have h2 := hg 2 _ rfl
    have c3 : Try.prog.cellsOf 3 = 1 := by kernel_rfl
    have cb : Try.prog.cellsOf 5 = 1 := by kernel_rfl
    simp only [List.getElem?_cons_zero, List.getElem?_cons_succ] at h0 h1 h2
    change DataW.trod enc Try.prog w base (fun _ => true) held n 5 ((cs.drop 0).take (Try.prog.cellsOf 5)) = some x0 at h0
    change DataW.trod enc Try.prog w base (fun _ => true) held n 3 ((cs.drop 1).take (Try.prog.cellsOf 3)) = some x1 at h1
    change DataW.trod enc Try.prog w base (fun _ => true) held n 3 ((cs.drop 2).take (Try.prog.cellsOf 3)) = some x2 at h2
    obtain ⟨k0, e0, -, f0⟩ := DataW.trod_int Try.underlying5 h0
    obtain ⟨k1, e1, -, f1⟩ := DataW.trod_int Try.underlying3 h1
    obtain ⟨k2, e2, -, f2⟩ := DataW.trod_int Try.underlying3 h2
    rw [cb] at e0
    rw [c3] at e1 e2
    have g0 : 0 ≤ k0 ∧ k0 ≤ 255 := by simpa [Lit.wf, IntKind.min, IntKind.max, IntKind.signed, IntKind.bits] using f0
    have g1 : -9223372036854775808 ≤ k1 ∧ k1 ≤ 9223372036854775807 := by simpa [Lit.wf, IntKind.min, IntKind.max, IntKind.signed, IntKind.bits] using f1
    have g2 : -9223372036854775808 ≤ k2 ∧ k2 ≤ 9223372036854775807 := by simpa [Lit.wf, IntKind.min, IntKind.max, IntKind.signed, IntKind.bits] using f2
    obtain ⟨q0, q1, q2, rfl⟩ := list3 hl
    simp at e0 e1 e2
    subst e0 e1 e2
    obtain ⟨m, rfl⟩ := Int.eq_ofNat_of_zero_le g0.1
    exact ⟨⟨m, k1, k2⟩, rfl, ⟨by show m < 256; omega, g1.1, g1.2, g2.1, g2.2⟩⟩
set_option maxRecDepth 10000 in
theorem open_ops {fuel : Nat} {cs : List Value} {x : DataW H × List MemPlace} (h : DataW.trod enc Try.prog w base (fun _ => true) held fuel 32 cs = some x) (hw : ∀ n ∈ x.1.weights Try.prog 32, n ≤ reachBytes) : ∃ (v : Value) (l : List OpN), cs = [v] ∧ SlK 3 w v (l.map opV) ∧ ∀ z ∈ l, OpOk z := by
  have c6 : Try.prog.cellsOf 75 = 3 := by kernel_rfl
  have b6 : Try.prog.bytesOf 75 = 24 := by kernel_rfl
  obtain ⟨oa, len, cap, b, off, C, D, rfl, hd, hx⟩ := open_hdK 3 (by decide) Try.underlying32 c6 (by rw [b6]; decide) h hw
  have hN : ∀ i, i < len → ∃ z : OpN, C i = opV z ∧ OpOk z := fun i hi => by
    obtain ⟨hl, -, ⟨n, p, h2⟩, -⟩ := hx i hi
    exact open_op h2 hl
  obtain ⟨Z, hZ⟩ := choose_lt hN
  refine ⟨_, (List.range len).map Z, rfl, ⟨oa, cap, b, off, by simp, by simpa using hd, fun i hi c hcl => ?_⟩, fun z hz => ?_⟩
  · have hi' : i < len := by simpa using hi
    rw [(hx i hi').2.1 c hcl, (hZ i hi').1]
    simp [List.getD, hi']
  · obtain ⟨i, hi, rfl⟩ := List.mem_map.1 hz
    exact (hZ i (List.mem_range.1 hi)).2
set_option maxRecDepth 10000 in
theorem open_part {fuel : Nat} {cs : List Value} {y : DataW H × List MemPlace} (h : DataW.trod enc Try.prog w base (fun _ => true) held fuel 80 cs = some y) (hl : cs.length = 5) (hw : ∀ n ∈ y.1.weights Try.prog 80, n ≤ reachBytes) :
    ∃ p : PtN, PtCells w cs p ∧ PtOk p ∧ ∀ o ∈ p.ops, OpOk o := by
  obtain ⟨xs, n, -, hx, -, hxl, hg⟩ := DataW.trod_struct Try.underlying80 h
  match xs, hxl with
  | [x0, x1, x2, x3, x4], _ =>
    have h0 := hg 0 _ rfl
    have h1 := hg 1 _ rfl
    have h2 := hg 2 _ rfl
    have h3 := hg 3 _ rfl
    have h4 := hg 4 _ rfl
    have c3 : Try.prog.cellsOf 3 = 1 := by kernel_rfl
    have b3 : Try.prog.bytesOf 3 = 8 := by kernel_rfl
    have cS : Try.prog.cellsOf 9 = 1 := by kernel_rfl
    have cO : Try.prog.cellsOf 32 = 1 := by kernel_rfl
    have cI : Try.prog.cellsOf 39 = 1 := by kernel_rfl
    simp only [List.getElem?_cons_zero, List.getElem?_cons_succ] at h0 h1 h2 h3 h4
    change DataW.trod enc Try.prog w base (fun _ => true) held n 3 ((cs.drop 0).take (Try.prog.cellsOf 3)) = some x0 at h0
    change DataW.trod enc Try.prog w base (fun _ => true) held n 9 ((cs.drop 1).take (Try.prog.cellsOf 9)) = some x1 at h1
    change DataW.trod enc Try.prog w base (fun _ => true) held n 32 ((cs.drop 2).take (Try.prog.cellsOf 32)) = some x2 at h2
    change DataW.trod enc Try.prog w base (fun _ => true) held n 39 ((cs.drop 3).take (Try.prog.cellsOf 39)) = some x3 at h3
    change DataW.trod enc Try.prog w base (fun _ => true) held n 39 ((cs.drop 4).take (Try.prog.cellsOf 39)) = some x4 at h4
    have hwx : ∀ n ∈ DataW.weightsEach Try.prog [3, 9, 32, 39, 39] [x0.1, x1.1, x2.1, x3.1, x4.1], n ≤ reachBytes := fun k hk => hw k (by
      rw [hx]
      simpa [DataW.weights, Try.underlying80] using hk)
    have hw1 : ∀ n ∈ x1.1.weights Try.prog 9, n ≤ reachBytes := fun k hk => hwx k (DataW.weights_mem_each (j := 1) rfl rfl k hk)
    have hw2 : ∀ n ∈ x2.1.weights Try.prog 32, n ≤ reachBytes := fun k hk => hwx k (DataW.weights_mem_each (j := 2) rfl rfl k hk)
    have hw3 : ∀ n ∈ x3.1.weights Try.prog 39, n ≤ reachBytes := fun k hk => hwx k (DataW.weights_mem_each (j := 3) rfl rfl k hk)
    have hw4 : ∀ n ∈ x4.1.weights Try.prog 39, n ≤ reachBytes := fun k hk => hwx k (DataW.weights_mem_each (j := 4) rfl rfl k hk)
    obtain ⟨kd, e0, -, -⟩ := DataW.trod_int Try.underlying3 h0
    obtain ⟨s, e1, hs, -⟩ := DataW.trod_string Try.underlying9 h1
    obtain ⟨vo, lo, e2, ho, hok⟩ := open_ops h2 hw2
    obtain ⟨u3, l3, e3, hl3⟩ := open_IntsAt Try.underlying39 Try.underlying3 c3 (by rw [b3]; decide) h3 hw3
    obtain ⟨u4, l4, e4, hl4⟩ := open_IntsAt Try.underlying39 Try.underlying3 c3 (by rw [b3]; decide) h4 hw4
    have hsz : s.size ≤ 140737488351232 := by
      have := hw1 s.size (by rw [hs]; simp [DataW.weights])
      rwa [reach_is] at this
    rw [c3] at e0
    rw [cS] at e1
    rw [cO] at e2
    rw [cI] at e3 e4
    obtain ⟨q0, q1, q2, q3, q4, rfl⟩ := list5 hl
    simp at e0 e1 e2 e3 e4
    subst e0 e1 e2 e3 e4
    exact ⟨⟨kd, s, lo, l3, l4⟩, ⟨_, _, _, rfl, ho, hl3, hl4⟩, ⟨fun o h => (hok o h).lit, hsz⟩, hok⟩
set_option maxRecDepth 10000 in
theorem open_parts {v : Value} {x : DataW H} {p : List MemPlace} {r : Reach} {b0 : Nat} (hv : Value.okWide Try.prog w r b0 22 v) (h : DataW.Trod enc Try.prog w base (fun _ => true) held 22 v x p) (hw : ∀ n ∈ x.weights Try.prog 22, n ≤ reachBytes) :
    ∃ l, PartsAt w v l ∧ (∀ p ∈ l, PtOk p) ∧ ∀ p ∈ l, ∀ o ∈ p.ops, OpOk o := by
  obtain ⟨a0, len0, cap0, rfl⟩ := okWide_slice Try.underlying22 hv
  obtain ⟨fuel, hf⟩ := h
  have c5 : Try.prog.cellsOf 80 = 5 := by kernel_rfl
  have b5 : Try.prog.bytesOf 80 = 96 := by kernel_rfl
  obtain ⟨oa, len, cap, b, off, C, D, hcs, hd, hx⟩ := open_hdK 5 (by decide) Try.underlying22 c5 (by rw [b5]; decide) hf hw
  have hN : ∀ i, i < len → ∃ z : PtN, PtCells w (C i) z ∧ PtOk z ∧ ∀ o ∈ z.ops, OpOk o := fun i hi => by
    obtain ⟨hl, -, ⟨n, p, h2⟩, h3⟩ := hx i hi
    exact open_part h2 hl h3
  obtain ⟨Z, hZ⟩ := choose_lt hN
  have hcs' : Value.slice a0 len0 cap0 = .slice oa len cap := by
    have : [Value.slice a0 len0 cap0] = [.slice oa len cap] := hcs
    injection this
  rw [hcs']
  refine ⟨(List.range len).map Z, ⟨(List.range len).map C, ⟨oa, cap, b, off, by simp, by simpa using hd, fun i hi c hcl => ?_⟩, by simp, fun i hi => ?_⟩, fun z hz => ?_, fun z hz => ?_⟩
  · have hi' : i < len := by simpa using hi
    rw [(hx i hi').2.1 c hcl]
    simp [List.getD, hi']
  · have hi' : i < len := by simpa using hi
    have := (hZ i hi').1
    simpa [List.getD, hi'] using this
  · obtain ⟨i, hi, rfl⟩ := List.mem_map.1 hz
    exact (hZ i (List.mem_range.1 hi)).2.1
  · obtain ⟨i, hi, rfl⟩ := List.mem_map.1 hz
    exact (hZ i (List.mem_range.1 hi)).2.2
end
end Go.Cm

/- The walk of the document's Split. Conditions: the text is not too long. -/
namespace Go.Cm
open Go.RowKit Go.Proofs

/-- ..-/
theorem txt_bys (x : ByteArray) : x = ⟨(bys x).toArray⟩ := by cases x; simp [bys]
theorem extract_to (s : ByteArray) (k : Nat) : bys (s.extract 0 k) = (bys s).take k := by rw [bys_extract]; simp
theorem extract_from (s : ByteArray) (k : Nat) : bys (s.extract k s.size) = (bys s).drop k := by rw [bys_extract, List.take_of_length_le (by rw [List.length_drop, bys_len]; omega)]
theorem take_all (s : ByteArray) : bys s = (bys s).take s.size := by rw [← bys_len, List.take_length]
theorem drop_all (s : ByteArray) : bys ByteArray.empty = (bys s).drop s.size := by rw [← bys_len, List.drop_length]; rfl
theorem pt_evenS {i : Nat} (h : i % 2 = 0) (x : ByteArray) (w : World) (B : Nat) (row : Option Nat) : PtOwn w B row [.int .i64 0, .string x, .slice none 0 0, .slice none 0 0, .slice none 0 0] (ptAt i (bys x)) := by
  have := pt_even h (bys x) w B row
  rwa [← txt_bys] at this
theorem pt_oddS {i : Nat} (h : ¬ i % 2 = 0) {x : ByteArray} {w : World} {B : Nat} {row : Option Nat} {vo : Value} (ho : OwnK 3 w B 75 vo ((opsOf (bys x)).map opV)) (hn : ∀ q, vo.ownBlock = some q → row ≠ some q) : PtOwn w B row [.int .i64 1, .string ⟨#[]⟩, vo, .slice none 0 0, .slice none 0 0] (ptAt i (bys x)) := by
  rw [txt_bys x] at ho
  exact pt_odd h ho hn
set_option maxRecDepth 100000 in
set_option maxHeartbeats 4000000 in
theorem splitRk (s : ByteArray) (n : Int) (hs : s.size ≤ 100000) (w : World) : Calls Try.prog 25 #[.string s, .int .i64 n] w (RetParts 80 (splitN (bys s) n) w) := by
  have HOPS := Lib.hid (fun (t : ByteArray) (ht : t.size ≤ 100000) (W : World) => opsRk t ht W)
  obtain ⟨R, hR⟩ : ∃ R, R = splitN (bys s) n := ⟨_, rfl⟩
  rw [← hR]
  unfold splitN at hR
  obtain ⟨hm1, hm2⟩ := sizeN_pos n
  have hcl : ((decide (n < 1) = true ∨ (decide (n < 1) = false ∧ decide (n > 65535) = true)) ∧ sizeN n = 65535) ∨ (decide (n < 1) = false ∧ decide (n > 65535) = false ∧ n = (sizeN n : Nat)) := by
    unfold sizeN
    by_cases h : n < 1 ∨ 65535 < n
    · rw [if_pos h]
      refine .inl ⟨?_, rfl⟩
      simp only [decide_eq_true_eq, decide_eq_false_iff_not]; omega
    · rw [if_neg h]
      refine .inr ⟨?_, ?_, by omega⟩ <;> · rw [decide_eq_false_iff_not]; omega
  have HR := Lib.hid hR
  have HL := Lib.hid (bys_len s)
  clear hR
  generalize sizeN n = m at *
  have HGO : Hid (∀ (f i : Nat) (t : Byts), t.length < f → (t.drop (min m t.length) = [] → splitFr m f i t = [ptAt i (t.take (min m t.length))]) ∧ (t.drop (min m t.length) ≠ [] → ∃ g, splitFr m f i t = ptAt i (t.take (min m t.length)) :: splitFr m g (i + 1) (t.drop (min m t.length)) ∧ (t.drop (min m t.length)).length < g)) := Lib.hid (fun f i t hf => by
    obtain ⟨g, rfl⟩ : ∃ g, f = g + 1 := ⟨f - 1, by omega⟩
    refine ⟨fun h => splitFr_last h, fun h => ⟨g, splitFr_more h, ?_⟩⟩
    have h2 : (t.drop (min m t.length)).length ≠ 0 := fun e => h (List.length_eq_zero_iff.1 e)
    rw [List.length_drop] at h2 ⊢
    omega)
  have hm65 : ((decide (n < 1) = true ∨ (decide (n < 1) = false ∧ decide (n > 65535) = true)) ∧ (65535 : Int) = (m : Nat)) ∨ (decide (n < 1) = false ∧ decide (n > 65535) = false ∧ n = (m : Nat)) := hcl.imp (fun h => ⟨h.1, by rw [h.2]; rfl⟩) id
  clear hcl
  have fin : ∀ w0 : World, Calls Try.prog 25 #[.string s, .int .i64 n] w0 (RetParts 80 R w0) := by
    intro w
    rcases hm65 with ⟨h1 | ⟨h1, h2⟩, hm5⟩ | ⟨h1, h2, hm5⟩
    · have HM5 := Lib.hid hm5
      clear hm5
      go_enter Try.func25, Try.ntmps25
      go_wp2
      rw [HM5.out]
      go_loopg [0, 5] (s.size + 1) (fun gk sv lv wr => ∃ (sb : ByteArray) (f : Nat) (ps : List PtN), sv = .string sb ∧ PartsOwn wr w.heap.size 80 lv ps ∧ Hid ((bys sb = [] ∧ ps ≠ [] ∧ ps = R) ∨ ((bys sb ≠ [] ∨ ps = []) ∧ ps ++ splitFr m f ps.length (bys sb) = R ∧ (bys sb).length < f)) ∧ ps.length + sb.size ≤ s.size + 1 ∧ Below w.heap.size w wr ∧ gk = sb.size + (if ps = [] then 1 else 0))
      case atStart => exact ⟨s, (bys s).length + 1, [], rfl, PartsOwn.nil _ _ _, Lib.hid (.inr ⟨.inr rfl, by rw [HR.out]; rfl, by omega⟩), by simp, Below.refl _ _, by simp⟩
      case round =>
        obtain ⟨sb, f, ps, rfl, hpo, HCA, hle, hbl, rfl⟩ := hrel
        have HBL := Lib.hid hbl
        have hsz := hbl.size
        have HSB := Lib.hid (bys_len sb)
        have hps := hpo
        obtain ⟨cs, hcs1, hcs2, hcs3⟩ := hpo
        obtain ⟨ol, cl, bL, fL, hvl, hdL, -⟩ := hcs1.sl
        rw [hcs2] at hvl hdL
        have HPO := Lib.hid hps
        have HCS1 := Lib.hid hcs1
        have HCS3 := Lib.hid hcs3
        have HLC : Hid (cs.length + 1 ≤ 1000000000) := Lib.hid (by omega)
        have HLE := Lib.hid hle
        have hlm := hdL.len
        clear hbl hcs1 hcs3 hdL hle hps
        subst hvl
        rcases HCA.out with ⟨c1, c2, c3⟩ | ⟨c1, c2, c3⟩
        · have hz : sb = ByteArray.empty := by rw [txt_bys sb, c1]; rfl
          have hz2 : ((ps.length : Int) == 0) = false := by
            have : ps.length ≠ 0 := fun e => c2 (List.length_eq_zero_iff.1 e)
            simp; omega
          clear c1 c2
          have HC3 := Lib.hid c3
          clear c3
          subst hz
          go_wp2
          go_ret
          rw [← HC3.out]
          exact ⟨_, rfl, HPO.out, HBL.out⟩
        · have HC1 := Lib.hid c1
          have HC2 := Lib.hid c2
          have HGP := HGO.out f ps.length (bys sb) c3
          have hcond : (¬ sb = ByteArray.empty) ∨ (sb = ByteArray.empty ∧ ((ps.length : Int) == 0) = true) := by
            rcases c1 with h | h
            · exact .inl (fun e => h (by rw [e]; rfl))
            · by_cases h0 : sb = ByteArray.empty
              · exact .inr ⟨h0, by rw [h]; rfl⟩
              · exact .inl h0
          obtain ⟨k, hk⟩ : ∃ k, k = min m (bys sb).length := ⟨_, rfl⟩
          have hkl : k ≤ sb.size := by have := HSB.out; omega
          rw [← hk] at HGP
          have HG := Lib.hid HGP
          have hkc : (m < sb.size ∧ k = m) ∨ (¬ m < sb.size ∧ k = sb.size) := by
            have := HSB.out
            omega
          have hpp : (ps.length % 2 = 0 ∧ (ps.length : Int).tmod 2 = 0 ∧ (ps.length : Int) % 2 = 0) ∨ (¬ ps.length % 2 = 0 ∧ (ps.length : Int).tmod 2 = 1 ∧ (ps.length : Int) % 2 = 1) := by
            rw [Int.tmod_eq_emod_of_nonneg (by omega)]; omega
          have HKC := Lib.hid hkc
          have HMK : Hid (1 ≤ k ∨ sb.size = 0) := Lib.hid (by have := HSB.out; omega)
          clear hkl hk HGP c1 c2 c3
          have fin2 : ∀ (sk sd : ByteArray), bys sk = (bys sb).take k → bys sd = (bys sb).drop k → ∀ (c : List Value) (wa w5 : World) (v' : Value), PtOwn wa w.heap.size (Value.slice ol ps.length cl).ownBlock c (ptAt ps.length (bys sk)) → OwnK 5 w5 w.heap.size 80 v' (cs ++ [c]) → Below wr.heap.size wr wa → wa.grownBy w5 (Value.slice ol ps.length cl).ownBlock → (∀ q, v'.ownBlock = some q → (Value.slice ol ps.length cl).ownBlock = some q ∨ wa.heap.size ≤ q) → ∃ (sb' : ByteArray) (f' : Nat) (ps' : List PtN), Value.string sd = .string sb' ∧ PartsOwn w5 w.heap.size 80 v' ps' ∧ Hid ((bys sb' = [] ∧ ps' ≠ [] ∧ ps' = R) ∨ ((bys sb' ≠ [] ∨ ps' = []) ∧ ps' ++ splitFr m f' ps'.length (bys sb') = R ∧ (bys sb').length < f')) ∧ ps'.length + sb'.size ≤ s.size + 1 ∧ Below w.heap.size w w5 ∧ sd.size = sb'.size + (if ps' = [] then 1 else 0) ∧ sd.size < sb.size + (if ps = [] then 1 else 0) := by
            intro sk sd hsk hsd c wa w5 v' hpt hown hba hgr hkq
            have hpo5 := PartsOwn.snoc hcs2 (fun i hi => (HCS3.out i hi).keep (grown_below hba _) (fun q e => .inl e)) hpt hown hgr hkq
            have hbl5 := (HBL.out.trans (hba.mono hsz)).grown hgr (Nat.le_trans hsz hba.size) (fun q e => (HCS1.out.lt q e).1)
            have hne : ps ++ [ptAt ps.length (bys sk)] ≠ [] := by simp
            have hszd : sd.size = sb.size - k := by rw [← bys_len sd, hsd, List.length_drop, bys_len]
            rw [← hsk, ← hsd] at HG
            have hle5 : (ps ++ [ptAt ps.length (bys sk)]).length + sd.size ≤ s.size + 1 := by
              rw [List.length_append, List.length_singleton]
              have h1 := HLE.out
              have h2 := HMK.out
              rcases HC1.out with h3 | h3
              · have : sb.size ≠ 0 := fun e => h3 (List.length_eq_zero_iff.1 (by rw [bys_len]; exact e))
                omega
              · rw [h3] at h1 ⊢; simp at h1 ⊢; omega
            have hmeas : sd.size < sb.size + (if ps = [] then 1 else 0) := by
              have h1 := hszd
              have h2 := HMK.out
              by_cases h0 : ps = []
              · rw [if_pos h0]; omega
              · rw [if_neg h0]
                rcases HC1.out with h3 | h3
                · have : sb.size ≠ 0 := fun e => h3 (List.length_eq_zero_iff.1 (by rw [bys_len]; exact e))
                  omega
                · exact absurd h3 h0
            by_cases hd0 : bys sd = []
            · refine ⟨sd, 0, _, rfl, hpo5, Lib.hid (.inl ⟨hd0, hne, ?_⟩), hle5, hbl5, by rw [if_neg hne]; rfl, hmeas⟩
              rw [← HC2.out, HG.out.1 hd0]
            · obtain ⟨g, hg1, hg2⟩ := HG.out.2 hd0
              refine ⟨sd, g, _, rfl, hpo5, Lib.hid (.inr ⟨.inl hd0, ?_, hg2⟩), hle5, hbl5, by rw [if_neg hne]; rfl, hmeas⟩
              rw [← HC2.out, hg1, List.length_append, List.length_singleton, List.append_assoc]; rfl
          have FIN := Lib.hid fin2
          clear fin2 hkc
          generalize (if ps = [] then 1 else 0) = e01 at *
          rcases hpp with ⟨hpar, hpi, hpe⟩ | ⟨hpar, hpi, hpe⟩
          · have HPAR := Lib.hid hpar
            clear hpar
            rcases HKC.out with ⟨hgt, rfl⟩ | ⟨hgt, rfl⟩
            · obtain hcd : ¬ sb = ByteArray.empty := fun e => by rw [e] at hgt; exact absurd hgt (Nat.not_lt_zero _)
              clear hcond
              go_wp2_with (first | (at_builtin; go_loud (refine wpList_appL 5 rfl (.tmp 31) (.tmp 36) 22 rfl w.heap.size 80 (.agg #[.int .i64 0, .string ⟨#[]⟩, .slice none 0 0, .slice none 0 0, .slice none 0 0]) 96 Try.underlying22 (by kernel_rfl) rfl (by decide) (by decide) (.slice ol ps.length cl) cs rfl (HCS1.out.up (below_alloc wr _)) _ _ rfl (part_lit _ _ 0 _ none 0 0) (part_len 0 _ none 0 0) (part_one 0 _ none 0 0) HLC.out (Nat.le_trans hsz (below_alloc wr _).size) ?_); intro v' w5 hown1 hg1 hk1; have HO5 := Lib.hid hown1; have HG5 := Lib.hid hg1; have HK5 := Lib.hid hk1; clear hown1 hg1 hk1))
              have HF := Lib.hid (FIN.out (sb.extract 0 k) (sb.extract k sb.size) (extract_to _ _) (extract_from _ _) _ _ _ _ (pt_evenS HPAR.out _ _ _ _) HO5.out (below_alloc wr _) HG5.out HK5.out)
              clear FIN
              go_roundg ((sb.extract k sb.size).size)
              case measure => obtain ⟨_, _, _, _, _, _, _, _, _, h⟩ := HF.out; first | exact h | simpa using h
              case rel => obtain ⟨a1, a2, a3, a4, a5, a6, a7, a8, a9, -⟩ := HF.out; exact ⟨a1, a2, a3, a4, a5, a6, a7, a8, a9⟩
            · rcases hcond with hcd | ⟨rfl, hcd2⟩
              · have hpos : 0 < sb.size := Nat.pos_of_ne_zero (fun e => hcd (by rw [txt_bys sb, List.length_eq_zero_iff.1 ((bys_len sb).trans e)]; rfl))
                go_wp2_with (first | (at_builtin; go_loud (refine wpList_appL 5 rfl (.tmp 31) (.tmp 36) 22 rfl w.heap.size 80 (.agg #[.int .i64 0, .string ⟨#[]⟩, .slice none 0 0, .slice none 0 0, .slice none 0 0]) 96 Try.underlying22 (by kernel_rfl) rfl (by decide) (by decide) (.slice ol ps.length cl) cs rfl (HCS1.out.up (below_alloc wr _)) _ _ rfl (part_lit _ _ 0 _ none 0 0) (part_len 0 _ none 0 0) (part_one 0 _ none 0 0) HLC.out (Nat.le_trans hsz (below_alloc wr _).size) ?_); intro v' w5 hown1 hg1 hk1; have HO5 := Lib.hid hown1; have HG5 := Lib.hid hg1; have HK5 := Lib.hid hk1; clear hown1 hg1 hk1))
                have HF := Lib.hid (FIN.out sb ByteArray.empty (take_all _) (drop_all _) _ _ _ _ (pt_evenS HPAR.out _ _ _ _) HO5.out (below_alloc wr _) HG5.out HK5.out)
                clear FIN
                go_roundg (ByteArray.empty.size)
                case measure => obtain ⟨_, _, _, _, _, _, _, _, _, h⟩ := HF.out; first | exact h | simpa using h
                case rel => obtain ⟨a1, a2, a3, a4, a5, a6, a7, a8, a9, -⟩ := HF.out; exact ⟨a1, a2, a3, a4, a5, a6, a7, a8, a9⟩
              · skip
                go_wp2_with (first | (at_builtin; go_loud (refine wpList_appL 5 rfl (.tmp 31) (.tmp 36) 22 rfl w.heap.size 80 (.agg #[.int .i64 0, .string ⟨#[]⟩, .slice none 0 0, .slice none 0 0, .slice none 0 0]) 96 Try.underlying22 (by kernel_rfl) rfl (by decide) (by decide) (.slice ol ps.length cl) cs rfl (HCS1.out.up (below_alloc wr _)) _ _ rfl (part_lit _ _ 0 _ none 0 0) (part_len 0 _ none 0 0) (part_one 0 _ none 0 0) HLC.out (Nat.le_trans hsz (below_alloc wr _).size) ?_); intro v' w5 hown1 hg1 hk1; have HO5 := Lib.hid hown1; have HG5 := Lib.hid hg1; have HK5 := Lib.hid hk1; clear hown1 hg1 hk1))
                have HF := Lib.hid (FIN.out ByteArray.empty ByteArray.empty rfl rfl _ _ _ _ (pt_evenS HPAR.out _ _ _ _) HO5.out (below_alloc wr _) HG5.out HK5.out)
                clear FIN
                go_roundg (ByteArray.empty.size)
                case measure => obtain ⟨_, _, _, _, _, _, _, _, _, h⟩ := HF.out; first | exact h | simpa using h
                case rel => obtain ⟨a1, a2, a3, a4, a5, a6, a7, a8, a9, -⟩ := HF.out; exact ⟨a1, a2, a3, a4, a5, a6, a7, a8, a9⟩
          · have HPAR := Lib.hid hpar
            clear hpar
            rcases HKC.out with ⟨hgt, rfl⟩ | ⟨hgt, rfl⟩
            · obtain hcd : ¬ sb = ByteArray.empty := fun e => by rw [e] at hgt; exact absurd hgt (Nat.not_lt_zero _)
              clear hcond
              go_wp2_with (first | (go_at_call 21; refine (HOPS.out (sb.extract 0 k) (by rw [← bys_len, extract_to, List.length_take, bys_len]; have := HLE.out; omega) wr).mono ?_; rintro e w2 ⟨vo, rfl, ho2, hb2⟩; obtain ⟨oo, co, bo, fo, hvo, hdo, -⟩ := ho2.sl; obtain ⟨nn, hnn⟩ : ∃ nn, nn = ((opsOf (bys (sb.extract 0 k))).map opV).length := ⟨_, rfl⟩; rw [← hnn] at hvo; clear hnn; subst hvo; have HO2 := Lib.hid ho2; have HB2 := Lib.hid hb2; clear ho2 hb2 hdo) | (at_builtin; go_loud (refine wpList_appL 5 rfl (.tmp 38) (.tmp 44) 22 rfl w.heap.size 80 (.agg #[.int .i64 0, .string ⟨#[]⟩, .slice none 0 0, .slice none 0 0, .slice none 0 0]) 96 Try.underlying22 (by kernel_rfl) rfl (by decide) (by decide) (.slice ol ps.length cl) cs rfl ((HCS1.out.up HB2.out).up (below_alloc w2 _)) _ _ rfl (part_lit _ _ 1 ⟨#[]⟩ oo nn co) (part_len 1 ⟨#[]⟩ oo nn co) (part_one 1 ⟨#[]⟩ oo nn co) HLC.out (Nat.le_trans hsz (Nat.le_trans HB2.out.size (below_alloc w2 _).size)) ?_); intro v' w5 hown1 hg1 hk1; have HO5 := Lib.hid hown1; have HG5 := Lib.hid hg1; have HK5 := Lib.hid hk1; clear hown1 hg1 hk1))
              have HF := Lib.hid (FIN.out (sb.extract 0 k) (sb.extract k sb.size) (extract_to _ _) (extract_from _ _) _ _ _ _ (pt_oddS HPAR.out ((HO2.out.mono hsz).up (below_alloc w2 _)) (fun q e e2 => by have h1 := (HO2.out.lt q e).1; have h2 := (HCS1.out.lt q e2).2; omega)) HO5.out (HB2.out.alloc HB2.out.size _) HG5.out HK5.out)
              clear FIN
              go_roundg ((sb.extract k sb.size).size)
              case measure => obtain ⟨_, _, _, _, _, _, _, _, _, h⟩ := HF.out; first | exact h | simpa using h
              case rel => obtain ⟨a1, a2, a3, a4, a5, a6, a7, a8, a9, -⟩ := HF.out; exact ⟨a1, a2, a3, a4, a5, a6, a7, a8, a9⟩
            · rcases hcond with hcd | ⟨rfl, hcd2⟩
              · have hpos : 0 < sb.size := Nat.pos_of_ne_zero (fun e => hcd (by rw [txt_bys sb, List.length_eq_zero_iff.1 ((bys_len sb).trans e)]; rfl))
                go_wp2_with (first | (go_at_call 21; refine (HOPS.out sb (by have := HLE.out; omega) wr).mono ?_; rintro e w2 ⟨vo, rfl, ho2, hb2⟩; obtain ⟨oo, co, bo, fo, hvo, hdo, -⟩ := ho2.sl; obtain ⟨nn, hnn⟩ : ∃ nn, nn = ((opsOf (bys sb)).map opV).length := ⟨_, rfl⟩; rw [← hnn] at hvo; clear hnn; subst hvo; have HO2 := Lib.hid ho2; have HB2 := Lib.hid hb2; clear ho2 hb2 hdo) | (at_builtin; go_loud (refine wpList_appL 5 rfl (.tmp 38) (.tmp 44) 22 rfl w.heap.size 80 (.agg #[.int .i64 0, .string ⟨#[]⟩, .slice none 0 0, .slice none 0 0, .slice none 0 0]) 96 Try.underlying22 (by kernel_rfl) rfl (by decide) (by decide) (.slice ol ps.length cl) cs rfl ((HCS1.out.up HB2.out).up (below_alloc w2 _)) _ _ rfl (part_lit _ _ 1 ⟨#[]⟩ oo nn co) (part_len 1 ⟨#[]⟩ oo nn co) (part_one 1 ⟨#[]⟩ oo nn co) HLC.out (Nat.le_trans hsz (Nat.le_trans HB2.out.size (below_alloc w2 _).size)) ?_); intro v' w5 hown1 hg1 hk1; have HO5 := Lib.hid hown1; have HG5 := Lib.hid hg1; have HK5 := Lib.hid hk1; clear hown1 hg1 hk1))
                have HF := Lib.hid (FIN.out sb ByteArray.empty (take_all _) (drop_all _) _ _ _ _ (pt_oddS HPAR.out ((HO2.out.mono hsz).up (below_alloc w2 _)) (fun q e e2 => by have h1 := (HO2.out.lt q e).1; have h2 := (HCS1.out.lt q e2).2; omega)) HO5.out (HB2.out.alloc HB2.out.size _) HG5.out HK5.out)
                clear FIN
                go_roundg (ByteArray.empty.size)
                case measure => obtain ⟨_, _, _, _, _, _, _, _, _, h⟩ := HF.out; first | exact h | simpa using h
                case rel => obtain ⟨a1, a2, a3, a4, a5, a6, a7, a8, a9, -⟩ := HF.out; exact ⟨a1, a2, a3, a4, a5, a6, a7, a8, a9⟩
              · skip
                go_wp2_with (first | (go_at_call 21; refine (HOPS.out ByteArray.empty (by decide) wr).mono ?_; rintro e w2 ⟨vo, rfl, ho2, hb2⟩; obtain ⟨oo, co, bo, fo, hvo, hdo, -⟩ := ho2.sl; obtain ⟨nn, hnn⟩ : ∃ nn, nn = ((opsOf (bys ByteArray.empty)).map opV).length := ⟨_, rfl⟩; rw [← hnn] at hvo; clear hnn; subst hvo; have HO2 := Lib.hid ho2; have HB2 := Lib.hid hb2; clear ho2 hb2 hdo) | (at_builtin; go_loud (refine wpList_appL 5 rfl (.tmp 38) (.tmp 44) 22 rfl w.heap.size 80 (.agg #[.int .i64 0, .string ⟨#[]⟩, .slice none 0 0, .slice none 0 0, .slice none 0 0]) 96 Try.underlying22 (by kernel_rfl) rfl (by decide) (by decide) (.slice ol ps.length cl) cs rfl ((HCS1.out.up HB2.out).up (below_alloc w2 _)) _ _ rfl (part_lit _ _ 1 ⟨#[]⟩ oo nn co) (part_len 1 ⟨#[]⟩ oo nn co) (part_one 1 ⟨#[]⟩ oo nn co) HLC.out (Nat.le_trans hsz (Nat.le_trans HB2.out.size (below_alloc w2 _).size)) ?_); intro v' w5 hown1 hg1 hk1; have HO5 := Lib.hid hown1; have HG5 := Lib.hid hg1; have HK5 := Lib.hid hk1; clear hown1 hg1 hk1))
                have HF := Lib.hid (FIN.out ByteArray.empty ByteArray.empty rfl rfl _ _ _ _ (pt_oddS HPAR.out ((HO2.out.mono hsz).up (below_alloc w2 _)) (fun q e e2 => by have h1 := (HO2.out.lt q e).1; have h2 := (HCS1.out.lt q e2).2; omega)) HO5.out (HB2.out.alloc HB2.out.size _) HG5.out HK5.out)
                clear FIN
                go_roundg (ByteArray.empty.size)
                case measure => obtain ⟨_, _, _, _, _, _, _, _, _, h⟩ := HF.out; first | exact h | simpa using h
                case rel => obtain ⟨a1, a2, a3, a4, a5, a6, a7, a8, a9, -⟩ := HF.out; exact ⟨a1, a2, a3, a4, a5, a6, a7, a8, a9⟩
    · have HM5 := Lib.hid hm5
      clear hm5
      go_enter Try.func25, Try.ntmps25
      go_wp2
      rw [HM5.out]
      go_loopg [0, 5] (s.size + 1) (fun gk sv lv wr => ∃ (sb : ByteArray) (f : Nat) (ps : List PtN), sv = .string sb ∧ PartsOwn wr w.heap.size 80 lv ps ∧ Hid ((bys sb = [] ∧ ps ≠ [] ∧ ps = R) ∨ ((bys sb ≠ [] ∨ ps = []) ∧ ps ++ splitFr m f ps.length (bys sb) = R ∧ (bys sb).length < f)) ∧ ps.length + sb.size ≤ s.size + 1 ∧ Below w.heap.size w wr ∧ gk = sb.size + (if ps = [] then 1 else 0))
      case atStart => exact ⟨s, (bys s).length + 1, [], rfl, PartsOwn.nil _ _ _, Lib.hid (.inr ⟨.inr rfl, by rw [HR.out]; rfl, by omega⟩), by simp, Below.refl _ _, by simp⟩
      case round =>
        obtain ⟨sb, f, ps, rfl, hpo, HCA, hle, hbl, rfl⟩ := hrel
        have HBL := Lib.hid hbl
        have hsz := hbl.size
        have HSB := Lib.hid (bys_len sb)
        have hps := hpo
        obtain ⟨cs, hcs1, hcs2, hcs3⟩ := hpo
        obtain ⟨ol, cl, bL, fL, hvl, hdL, -⟩ := hcs1.sl
        rw [hcs2] at hvl hdL
        have HPO := Lib.hid hps
        have HCS1 := Lib.hid hcs1
        have HCS3 := Lib.hid hcs3
        have HLC : Hid (cs.length + 1 ≤ 1000000000) := Lib.hid (by omega)
        have HLE := Lib.hid hle
        have hlm := hdL.len
        clear hbl hcs1 hcs3 hdL hle hps
        subst hvl
        rcases HCA.out with ⟨c1, c2, c3⟩ | ⟨c1, c2, c3⟩
        · have hz : sb = ByteArray.empty := by rw [txt_bys sb, c1]; rfl
          have hz2 : ((ps.length : Int) == 0) = false := by
            have : ps.length ≠ 0 := fun e => c2 (List.length_eq_zero_iff.1 e)
            simp; omega
          clear c1 c2
          have HC3 := Lib.hid c3
          clear c3
          subst hz
          go_wp2
          go_ret
          rw [← HC3.out]
          exact ⟨_, rfl, HPO.out, HBL.out⟩
        · have HC1 := Lib.hid c1
          have HC2 := Lib.hid c2
          have HGP := HGO.out f ps.length (bys sb) c3
          have hcond : (¬ sb = ByteArray.empty) ∨ (sb = ByteArray.empty ∧ ((ps.length : Int) == 0) = true) := by
            rcases c1 with h | h
            · exact .inl (fun e => h (by rw [e]; rfl))
            · by_cases h0 : sb = ByteArray.empty
              · exact .inr ⟨h0, by rw [h]; rfl⟩
              · exact .inl h0
          obtain ⟨k, hk⟩ : ∃ k, k = min m (bys sb).length := ⟨_, rfl⟩
          have hkl : k ≤ sb.size := by have := HSB.out; omega
          rw [← hk] at HGP
          have HG := Lib.hid HGP
          have hkc : (m < sb.size ∧ k = m) ∨ (¬ m < sb.size ∧ k = sb.size) := by
            have := HSB.out
            omega
          have hpp : (ps.length % 2 = 0 ∧ (ps.length : Int).tmod 2 = 0 ∧ (ps.length : Int) % 2 = 0) ∨ (¬ ps.length % 2 = 0 ∧ (ps.length : Int).tmod 2 = 1 ∧ (ps.length : Int) % 2 = 1) := by
            rw [Int.tmod_eq_emod_of_nonneg (by omega)]; omega
          have HKC := Lib.hid hkc
          have HMK : Hid (1 ≤ k ∨ sb.size = 0) := Lib.hid (by have := HSB.out; omega)
          clear hkl hk HGP c1 c2 c3
          have fin2 : ∀ (sk sd : ByteArray), bys sk = (bys sb).take k → bys sd = (bys sb).drop k → ∀ (c : List Value) (wa w5 : World) (v' : Value), PtOwn wa w.heap.size (Value.slice ol ps.length cl).ownBlock c (ptAt ps.length (bys sk)) → OwnK 5 w5 w.heap.size 80 v' (cs ++ [c]) → Below wr.heap.size wr wa → wa.grownBy w5 (Value.slice ol ps.length cl).ownBlock → (∀ q, v'.ownBlock = some q → (Value.slice ol ps.length cl).ownBlock = some q ∨ wa.heap.size ≤ q) → ∃ (sb' : ByteArray) (f' : Nat) (ps' : List PtN), Value.string sd = .string sb' ∧ PartsOwn w5 w.heap.size 80 v' ps' ∧ Hid ((bys sb' = [] ∧ ps' ≠ [] ∧ ps' = R) ∨ ((bys sb' ≠ [] ∨ ps' = []) ∧ ps' ++ splitFr m f' ps'.length (bys sb') = R ∧ (bys sb').length < f')) ∧ ps'.length + sb'.size ≤ s.size + 1 ∧ Below w.heap.size w w5 ∧ sd.size = sb'.size + (if ps' = [] then 1 else 0) ∧ sd.size < sb.size + (if ps = [] then 1 else 0) := by
            intro sk sd hsk hsd c wa w5 v' hpt hown hba hgr hkq
            have hpo5 := PartsOwn.snoc hcs2 (fun i hi => (HCS3.out i hi).keep (grown_below hba _) (fun q e => .inl e)) hpt hown hgr hkq
            have hbl5 := (HBL.out.trans (hba.mono hsz)).grown hgr (Nat.le_trans hsz hba.size) (fun q e => (HCS1.out.lt q e).1)
            have hne : ps ++ [ptAt ps.length (bys sk)] ≠ [] := by simp
            have hszd : sd.size = sb.size - k := by rw [← bys_len sd, hsd, List.length_drop, bys_len]
            rw [← hsk, ← hsd] at HG
            have hle5 : (ps ++ [ptAt ps.length (bys sk)]).length + sd.size ≤ s.size + 1 := by
              rw [List.length_append, List.length_singleton]
              have h1 := HLE.out
              have h2 := HMK.out
              rcases HC1.out with h3 | h3
              · have : sb.size ≠ 0 := fun e => h3 (List.length_eq_zero_iff.1 (by rw [bys_len]; exact e))
                omega
              · rw [h3] at h1 ⊢; simp at h1 ⊢; omega
            have hmeas : sd.size < sb.size + (if ps = [] then 1 else 0) := by
              have h1 := hszd
              have h2 := HMK.out
              by_cases h0 : ps = []
              · rw [if_pos h0]; omega
              · rw [if_neg h0]
                rcases HC1.out with h3 | h3
                · have : sb.size ≠ 0 := fun e => h3 (List.length_eq_zero_iff.1 (by rw [bys_len]; exact e))
                  omega
                · exact absurd h3 h0
            by_cases hd0 : bys sd = []
            · refine ⟨sd, 0, _, rfl, hpo5, Lib.hid (.inl ⟨hd0, hne, ?_⟩), hle5, hbl5, by rw [if_neg hne]; rfl, hmeas⟩
              rw [← HC2.out, HG.out.1 hd0]
            · obtain ⟨g, hg1, hg2⟩ := HG.out.2 hd0
              refine ⟨sd, g, _, rfl, hpo5, Lib.hid (.inr ⟨.inl hd0, ?_, hg2⟩), hle5, hbl5, by rw [if_neg hne]; rfl, hmeas⟩
              rw [← HC2.out, hg1, List.length_append, List.length_singleton, List.append_assoc]; rfl
          have FIN := Lib.hid fin2
          clear fin2 hkc
          generalize (if ps = [] then 1 else 0) = e01 at *
          rcases hpp with ⟨hpar, hpi, hpe⟩ | ⟨hpar, hpi, hpe⟩
          · have HPAR := Lib.hid hpar
            clear hpar
            rcases HKC.out with ⟨hgt, rfl⟩ | ⟨hgt, rfl⟩
            · obtain hcd : ¬ sb = ByteArray.empty := fun e => by rw [e] at hgt; exact absurd hgt (Nat.not_lt_zero _)
              clear hcond
              go_wp2_with (first | (at_builtin; go_loud (refine wpList_appL 5 rfl (.tmp 31) (.tmp 36) 22 rfl w.heap.size 80 (.agg #[.int .i64 0, .string ⟨#[]⟩, .slice none 0 0, .slice none 0 0, .slice none 0 0]) 96 Try.underlying22 (by kernel_rfl) rfl (by decide) (by decide) (.slice ol ps.length cl) cs rfl (HCS1.out.up (below_alloc wr _)) _ _ rfl (part_lit _ _ 0 _ none 0 0) (part_len 0 _ none 0 0) (part_one 0 _ none 0 0) HLC.out (Nat.le_trans hsz (below_alloc wr _).size) ?_); intro v' w5 hown1 hg1 hk1; have HO5 := Lib.hid hown1; have HG5 := Lib.hid hg1; have HK5 := Lib.hid hk1; clear hown1 hg1 hk1))
              have HF := Lib.hid (FIN.out (sb.extract 0 k) (sb.extract k sb.size) (extract_to _ _) (extract_from _ _) _ _ _ _ (pt_evenS HPAR.out _ _ _ _) HO5.out (below_alloc wr _) HG5.out HK5.out)
              clear FIN
              go_roundg ((sb.extract k sb.size).size)
              case measure => obtain ⟨_, _, _, _, _, _, _, _, _, h⟩ := HF.out; first | exact h | simpa using h
              case rel => obtain ⟨a1, a2, a3, a4, a5, a6, a7, a8, a9, -⟩ := HF.out; exact ⟨a1, a2, a3, a4, a5, a6, a7, a8, a9⟩
            · rcases hcond with hcd | ⟨rfl, hcd2⟩
              · have hpos : 0 < sb.size := Nat.pos_of_ne_zero (fun e => hcd (by rw [txt_bys sb, List.length_eq_zero_iff.1 ((bys_len sb).trans e)]; rfl))
                go_wp2_with (first | (at_builtin; go_loud (refine wpList_appL 5 rfl (.tmp 31) (.tmp 36) 22 rfl w.heap.size 80 (.agg #[.int .i64 0, .string ⟨#[]⟩, .slice none 0 0, .slice none 0 0, .slice none 0 0]) 96 Try.underlying22 (by kernel_rfl) rfl (by decide) (by decide) (.slice ol ps.length cl) cs rfl (HCS1.out.up (below_alloc wr _)) _ _ rfl (part_lit _ _ 0 _ none 0 0) (part_len 0 _ none 0 0) (part_one 0 _ none 0 0) HLC.out (Nat.le_trans hsz (below_alloc wr _).size) ?_); intro v' w5 hown1 hg1 hk1; have HO5 := Lib.hid hown1; have HG5 := Lib.hid hg1; have HK5 := Lib.hid hk1; clear hown1 hg1 hk1))
                have HF := Lib.hid (FIN.out sb ByteArray.empty (take_all _) (drop_all _) _ _ _ _ (pt_evenS HPAR.out _ _ _ _) HO5.out (below_alloc wr _) HG5.out HK5.out)
                clear FIN
                go_roundg (ByteArray.empty.size)
                case measure => obtain ⟨_, _, _, _, _, _, _, _, _, h⟩ := HF.out; first | exact h | simpa using h
                case rel => obtain ⟨a1, a2, a3, a4, a5, a6, a7, a8, a9, -⟩ := HF.out; exact ⟨a1, a2, a3, a4, a5, a6, a7, a8, a9⟩
              · skip
                go_wp2_with (first | (at_builtin; go_loud (refine wpList_appL 5 rfl (.tmp 31) (.tmp 36) 22 rfl w.heap.size 80 (.agg #[.int .i64 0, .string ⟨#[]⟩, .slice none 0 0, .slice none 0 0, .slice none 0 0]) 96 Try.underlying22 (by kernel_rfl) rfl (by decide) (by decide) (.slice ol ps.length cl) cs rfl (HCS1.out.up (below_alloc wr _)) _ _ rfl (part_lit _ _ 0 _ none 0 0) (part_len 0 _ none 0 0) (part_one 0 _ none 0 0) HLC.out (Nat.le_trans hsz (below_alloc wr _).size) ?_); intro v' w5 hown1 hg1 hk1; have HO5 := Lib.hid hown1; have HG5 := Lib.hid hg1; have HK5 := Lib.hid hk1; clear hown1 hg1 hk1))
                have HF := Lib.hid (FIN.out ByteArray.empty ByteArray.empty rfl rfl _ _ _ _ (pt_evenS HPAR.out _ _ _ _) HO5.out (below_alloc wr _) HG5.out HK5.out)
                clear FIN
                go_roundg (ByteArray.empty.size)
                case measure => obtain ⟨_, _, _, _, _, _, _, _, _, h⟩ := HF.out; first | exact h | simpa using h
                case rel => obtain ⟨a1, a2, a3, a4, a5, a6, a7, a8, a9, -⟩ := HF.out; exact ⟨a1, a2, a3, a4, a5, a6, a7, a8, a9⟩
          · have HPAR := Lib.hid hpar
            clear hpar
            rcases HKC.out with ⟨hgt, rfl⟩ | ⟨hgt, rfl⟩
            · obtain hcd : ¬ sb = ByteArray.empty := fun e => by rw [e] at hgt; exact absurd hgt (Nat.not_lt_zero _)
              clear hcond
              go_wp2_with (first | (go_at_call 21; refine (HOPS.out (sb.extract 0 k) (by rw [← bys_len, extract_to, List.length_take, bys_len]; have := HLE.out; omega) wr).mono ?_; rintro e w2 ⟨vo, rfl, ho2, hb2⟩; obtain ⟨oo, co, bo, fo, hvo, hdo, -⟩ := ho2.sl; obtain ⟨nn, hnn⟩ : ∃ nn, nn = ((opsOf (bys (sb.extract 0 k))).map opV).length := ⟨_, rfl⟩; rw [← hnn] at hvo; clear hnn; subst hvo; have HO2 := Lib.hid ho2; have HB2 := Lib.hid hb2; clear ho2 hb2 hdo) | (at_builtin; go_loud (refine wpList_appL 5 rfl (.tmp 38) (.tmp 44) 22 rfl w.heap.size 80 (.agg #[.int .i64 0, .string ⟨#[]⟩, .slice none 0 0, .slice none 0 0, .slice none 0 0]) 96 Try.underlying22 (by kernel_rfl) rfl (by decide) (by decide) (.slice ol ps.length cl) cs rfl ((HCS1.out.up HB2.out).up (below_alloc w2 _)) _ _ rfl (part_lit _ _ 1 ⟨#[]⟩ oo nn co) (part_len 1 ⟨#[]⟩ oo nn co) (part_one 1 ⟨#[]⟩ oo nn co) HLC.out (Nat.le_trans hsz (Nat.le_trans HB2.out.size (below_alloc w2 _).size)) ?_); intro v' w5 hown1 hg1 hk1; have HO5 := Lib.hid hown1; have HG5 := Lib.hid hg1; have HK5 := Lib.hid hk1; clear hown1 hg1 hk1))
              have HF := Lib.hid (FIN.out (sb.extract 0 k) (sb.extract k sb.size) (extract_to _ _) (extract_from _ _) _ _ _ _ (pt_oddS HPAR.out ((HO2.out.mono hsz).up (below_alloc w2 _)) (fun q e e2 => by have h1 := (HO2.out.lt q e).1; have h2 := (HCS1.out.lt q e2).2; omega)) HO5.out (HB2.out.alloc HB2.out.size _) HG5.out HK5.out)
              clear FIN
              go_roundg ((sb.extract k sb.size).size)
              case measure => obtain ⟨_, _, _, _, _, _, _, _, _, h⟩ := HF.out; first | exact h | simpa using h
              case rel => obtain ⟨a1, a2, a3, a4, a5, a6, a7, a8, a9, -⟩ := HF.out; exact ⟨a1, a2, a3, a4, a5, a6, a7, a8, a9⟩
            · rcases hcond with hcd | ⟨rfl, hcd2⟩
              · have hpos : 0 < sb.size := Nat.pos_of_ne_zero (fun e => hcd (by rw [txt_bys sb, List.length_eq_zero_iff.1 ((bys_len sb).trans e)]; rfl))
                go_wp2_with (first | (go_at_call 21; refine (HOPS.out sb (by have := HLE.out; omega) wr).mono ?_; rintro e w2 ⟨vo, rfl, ho2, hb2⟩; obtain ⟨oo, co, bo, fo, hvo, hdo, -⟩ := ho2.sl; obtain ⟨nn, hnn⟩ : ∃ nn, nn = ((opsOf (bys sb)).map opV).length := ⟨_, rfl⟩; rw [← hnn] at hvo; clear hnn; subst hvo; have HO2 := Lib.hid ho2; have HB2 := Lib.hid hb2; clear ho2 hb2 hdo) | (at_builtin; go_loud (refine wpList_appL 5 rfl (.tmp 38) (.tmp 44) 22 rfl w.heap.size 80 (.agg #[.int .i64 0, .string ⟨#[]⟩, .slice none 0 0, .slice none 0 0, .slice none 0 0]) 96 Try.underlying22 (by kernel_rfl) rfl (by decide) (by decide) (.slice ol ps.length cl) cs rfl ((HCS1.out.up HB2.out).up (below_alloc w2 _)) _ _ rfl (part_lit _ _ 1 ⟨#[]⟩ oo nn co) (part_len 1 ⟨#[]⟩ oo nn co) (part_one 1 ⟨#[]⟩ oo nn co) HLC.out (Nat.le_trans hsz (Nat.le_trans HB2.out.size (below_alloc w2 _).size)) ?_); intro v' w5 hown1 hg1 hk1; have HO5 := Lib.hid hown1; have HG5 := Lib.hid hg1; have HK5 := Lib.hid hk1; clear hown1 hg1 hk1))
                have HF := Lib.hid (FIN.out sb ByteArray.empty (take_all _) (drop_all _) _ _ _ _ (pt_oddS HPAR.out ((HO2.out.mono hsz).up (below_alloc w2 _)) (fun q e e2 => by have h1 := (HO2.out.lt q e).1; have h2 := (HCS1.out.lt q e2).2; omega)) HO5.out (HB2.out.alloc HB2.out.size _) HG5.out HK5.out)
                clear FIN
                go_roundg (ByteArray.empty.size)
                case measure => obtain ⟨_, _, _, _, _, _, _, _, _, h⟩ := HF.out; first | exact h | simpa using h
                case rel => obtain ⟨a1, a2, a3, a4, a5, a6, a7, a8, a9, -⟩ := HF.out; exact ⟨a1, a2, a3, a4, a5, a6, a7, a8, a9⟩
              · skip
                go_wp2_with (first | (go_at_call 21; refine (HOPS.out ByteArray.empty (by decide) wr).mono ?_; rintro e w2 ⟨vo, rfl, ho2, hb2⟩; obtain ⟨oo, co, bo, fo, hvo, hdo, -⟩ := ho2.sl; obtain ⟨nn, hnn⟩ : ∃ nn, nn = ((opsOf (bys ByteArray.empty)).map opV).length := ⟨_, rfl⟩; rw [← hnn] at hvo; clear hnn; subst hvo; have HO2 := Lib.hid ho2; have HB2 := Lib.hid hb2; clear ho2 hb2 hdo) | (at_builtin; go_loud (refine wpList_appL 5 rfl (.tmp 38) (.tmp 44) 22 rfl w.heap.size 80 (.agg #[.int .i64 0, .string ⟨#[]⟩, .slice none 0 0, .slice none 0 0, .slice none 0 0]) 96 Try.underlying22 (by kernel_rfl) rfl (by decide) (by decide) (.slice ol ps.length cl) cs rfl ((HCS1.out.up HB2.out).up (below_alloc w2 _)) _ _ rfl (part_lit _ _ 1 ⟨#[]⟩ oo nn co) (part_len 1 ⟨#[]⟩ oo nn co) (part_one 1 ⟨#[]⟩ oo nn co) HLC.out (Nat.le_trans hsz (Nat.le_trans HB2.out.size (below_alloc w2 _).size)) ?_); intro v' w5 hown1 hg1 hk1; have HO5 := Lib.hid hown1; have HG5 := Lib.hid hg1; have HK5 := Lib.hid hk1; clear hown1 hg1 hk1))
                have HF := Lib.hid (FIN.out ByteArray.empty ByteArray.empty rfl rfl _ _ _ _ (pt_oddS HPAR.out ((HO2.out.mono hsz).up (below_alloc w2 _)) (fun q e e2 => by have h1 := (HO2.out.lt q e).1; have h2 := (HCS1.out.lt q e2).2; omega)) HO5.out (HB2.out.alloc HB2.out.size _) HG5.out HK5.out)
                clear FIN
                go_roundg (ByteArray.empty.size)
                case measure => obtain ⟨_, _, _, _, _, _, _, _, _, h⟩ := HF.out; first | exact h | simpa using h
                case rel => obtain ⟨a1, a2, a3, a4, a5, a6, a7, a8, a9, -⟩ := HF.out; exact ⟨a1, a2, a3, a4, a5, a6, a7, a8, a9⟩
    · have HM5 := Lib.hid hm5
      clear hm5
      go_enter Try.func25, Try.ntmps25
      go_wp2
      rw [HM5.out]
      go_loopg [0, 5] (s.size + 1) (fun gk sv lv wr => ∃ (sb : ByteArray) (f : Nat) (ps : List PtN), sv = .string sb ∧ PartsOwn wr w.heap.size 80 lv ps ∧ Hid ((bys sb = [] ∧ ps ≠ [] ∧ ps = R) ∨ ((bys sb ≠ [] ∨ ps = []) ∧ ps ++ splitFr m f ps.length (bys sb) = R ∧ (bys sb).length < f)) ∧ ps.length + sb.size ≤ s.size + 1 ∧ Below w.heap.size w wr ∧ gk = sb.size + (if ps = [] then 1 else 0))
      case atStart => exact ⟨s, (bys s).length + 1, [], rfl, PartsOwn.nil _ _ _, Lib.hid (.inr ⟨.inr rfl, by rw [HR.out]; rfl, by omega⟩), by simp, Below.refl _ _, by simp⟩
      case round =>
        obtain ⟨sb, f, ps, rfl, hpo, HCA, hle, hbl, rfl⟩ := hrel
        have HBL := Lib.hid hbl
        have hsz := hbl.size
        have HSB := Lib.hid (bys_len sb)
        have hps := hpo
        obtain ⟨cs, hcs1, hcs2, hcs3⟩ := hpo
        obtain ⟨ol, cl, bL, fL, hvl, hdL, -⟩ := hcs1.sl
        rw [hcs2] at hvl hdL
        have HPO := Lib.hid hps
        have HCS1 := Lib.hid hcs1
        have HCS3 := Lib.hid hcs3
        have HLC : Hid (cs.length + 1 ≤ 1000000000) := Lib.hid (by omega)
        have HLE := Lib.hid hle
        have hlm := hdL.len
        clear hbl hcs1 hcs3 hdL hle hps
        subst hvl
        rcases HCA.out with ⟨c1, c2, c3⟩ | ⟨c1, c2, c3⟩
        · have hz : sb = ByteArray.empty := by rw [txt_bys sb, c1]; rfl
          have hz2 : ((ps.length : Int) == 0) = false := by
            have : ps.length ≠ 0 := fun e => c2 (List.length_eq_zero_iff.1 e)
            simp; omega
          clear c1 c2
          have HC3 := Lib.hid c3
          clear c3
          subst hz
          go_wp2
          go_ret
          rw [← HC3.out]
          exact ⟨_, rfl, HPO.out, HBL.out⟩
        · have HC1 := Lib.hid c1
          have HC2 := Lib.hid c2
          have HGP := HGO.out f ps.length (bys sb) c3
          have hcond : (¬ sb = ByteArray.empty) ∨ (sb = ByteArray.empty ∧ ((ps.length : Int) == 0) = true) := by
            rcases c1 with h | h
            · exact .inl (fun e => h (by rw [e]; rfl))
            · by_cases h0 : sb = ByteArray.empty
              · exact .inr ⟨h0, by rw [h]; rfl⟩
              · exact .inl h0
          obtain ⟨k, hk⟩ : ∃ k, k = min m (bys sb).length := ⟨_, rfl⟩
          have hkl : k ≤ sb.size := by have := HSB.out; omega
          rw [← hk] at HGP
          have HG := Lib.hid HGP
          have hkc : (m < sb.size ∧ k = m) ∨ (¬ m < sb.size ∧ k = sb.size) := by
            have := HSB.out
            omega
          have hpp : (ps.length % 2 = 0 ∧ (ps.length : Int).tmod 2 = 0 ∧ (ps.length : Int) % 2 = 0) ∨ (¬ ps.length % 2 = 0 ∧ (ps.length : Int).tmod 2 = 1 ∧ (ps.length : Int) % 2 = 1) := by
            rw [Int.tmod_eq_emod_of_nonneg (by omega)]; omega
          have HKC := Lib.hid hkc
          have HMK : Hid (1 ≤ k ∨ sb.size = 0) := Lib.hid (by have := HSB.out; omega)
          clear hkl hk HGP c1 c2 c3
          have fin2 : ∀ (sk sd : ByteArray), bys sk = (bys sb).take k → bys sd = (bys sb).drop k → ∀ (c : List Value) (wa w5 : World) (v' : Value), PtOwn wa w.heap.size (Value.slice ol ps.length cl).ownBlock c (ptAt ps.length (bys sk)) → OwnK 5 w5 w.heap.size 80 v' (cs ++ [c]) → Below wr.heap.size wr wa → wa.grownBy w5 (Value.slice ol ps.length cl).ownBlock → (∀ q, v'.ownBlock = some q → (Value.slice ol ps.length cl).ownBlock = some q ∨ wa.heap.size ≤ q) → ∃ (sb' : ByteArray) (f' : Nat) (ps' : List PtN), Value.string sd = .string sb' ∧ PartsOwn w5 w.heap.size 80 v' ps' ∧ Hid ((bys sb' = [] ∧ ps' ≠ [] ∧ ps' = R) ∨ ((bys sb' ≠ [] ∨ ps' = []) ∧ ps' ++ splitFr m f' ps'.length (bys sb') = R ∧ (bys sb').length < f')) ∧ ps'.length + sb'.size ≤ s.size + 1 ∧ Below w.heap.size w w5 ∧ sd.size = sb'.size + (if ps' = [] then 1 else 0) ∧ sd.size < sb.size + (if ps = [] then 1 else 0) := by
            intro sk sd hsk hsd c wa w5 v' hpt hown hba hgr hkq
            have hpo5 := PartsOwn.snoc hcs2 (fun i hi => (HCS3.out i hi).keep (grown_below hba _) (fun q e => .inl e)) hpt hown hgr hkq
            have hbl5 := (HBL.out.trans (hba.mono hsz)).grown hgr (Nat.le_trans hsz hba.size) (fun q e => (HCS1.out.lt q e).1)
            have hne : ps ++ [ptAt ps.length (bys sk)] ≠ [] := by simp
            have hszd : sd.size = sb.size - k := by rw [← bys_len sd, hsd, List.length_drop, bys_len]
            rw [← hsk, ← hsd] at HG
            have hle5 : (ps ++ [ptAt ps.length (bys sk)]).length + sd.size ≤ s.size + 1 := by
              rw [List.length_append, List.length_singleton]
              have h1 := HLE.out
              have h2 := HMK.out
              rcases HC1.out with h3 | h3
              · have : sb.size ≠ 0 := fun e => h3 (List.length_eq_zero_iff.1 (by rw [bys_len]; exact e))
                omega
              · rw [h3] at h1 ⊢; simp at h1 ⊢; omega
            have hmeas : sd.size < sb.size + (if ps = [] then 1 else 0) := by
              have h1 := hszd
              have h2 := HMK.out
              by_cases h0 : ps = []
              · rw [if_pos h0]; omega
              · rw [if_neg h0]
                rcases HC1.out with h3 | h3
                · have : sb.size ≠ 0 := fun e => h3 (List.length_eq_zero_iff.1 (by rw [bys_len]; exact e))
                  omega
                · exact absurd h3 h0
            by_cases hd0 : bys sd = []
            · refine ⟨sd, 0, _, rfl, hpo5, Lib.hid (.inl ⟨hd0, hne, ?_⟩), hle5, hbl5, by rw [if_neg hne]; rfl, hmeas⟩
              rw [← HC2.out, HG.out.1 hd0]
            · obtain ⟨g, hg1, hg2⟩ := HG.out.2 hd0
              refine ⟨sd, g, _, rfl, hpo5, Lib.hid (.inr ⟨.inl hd0, ?_, hg2⟩), hle5, hbl5, by rw [if_neg hne]; rfl, hmeas⟩
              rw [← HC2.out, hg1, List.length_append, List.length_singleton, List.append_assoc]; rfl
          have FIN := Lib.hid fin2
          clear fin2 hkc
          generalize (if ps = [] then 1 else 0) = e01 at *
          rcases hpp with ⟨hpar, hpi, hpe⟩ | ⟨hpar, hpi, hpe⟩
          · have HPAR := Lib.hid hpar
            clear hpar
            rcases HKC.out with ⟨hgt, rfl⟩ | ⟨hgt, rfl⟩
            · obtain hcd : ¬ sb = ByteArray.empty := fun e => by rw [e] at hgt; exact absurd hgt (Nat.not_lt_zero _)
              clear hcond
              go_wp2_with (first | (at_builtin; go_loud (refine wpList_appL 5 rfl (.tmp 31) (.tmp 36) 22 rfl w.heap.size 80 (.agg #[.int .i64 0, .string ⟨#[]⟩, .slice none 0 0, .slice none 0 0, .slice none 0 0]) 96 Try.underlying22 (by kernel_rfl) rfl (by decide) (by decide) (.slice ol ps.length cl) cs rfl (HCS1.out.up (below_alloc wr _)) _ _ rfl (part_lit _ _ 0 _ none 0 0) (part_len 0 _ none 0 0) (part_one 0 _ none 0 0) HLC.out (Nat.le_trans hsz (below_alloc wr _).size) ?_); intro v' w5 hown1 hg1 hk1; have HO5 := Lib.hid hown1; have HG5 := Lib.hid hg1; have HK5 := Lib.hid hk1; clear hown1 hg1 hk1))
              have HF := Lib.hid (FIN.out (sb.extract 0 k) (sb.extract k sb.size) (extract_to _ _) (extract_from _ _) _ _ _ _ (pt_evenS HPAR.out _ _ _ _) HO5.out (below_alloc wr _) HG5.out HK5.out)
              clear FIN
              go_roundg ((sb.extract k sb.size).size)
              case measure => obtain ⟨_, _, _, _, _, _, _, _, _, h⟩ := HF.out; first | exact h | simpa using h
              case rel => obtain ⟨a1, a2, a3, a4, a5, a6, a7, a8, a9, -⟩ := HF.out; exact ⟨a1, a2, a3, a4, a5, a6, a7, a8, a9⟩
            · rcases hcond with hcd | ⟨rfl, hcd2⟩
              · have hpos : 0 < sb.size := Nat.pos_of_ne_zero (fun e => hcd (by rw [txt_bys sb, List.length_eq_zero_iff.1 ((bys_len sb).trans e)]; rfl))
                go_wp2_with (first | (at_builtin; go_loud (refine wpList_appL 5 rfl (.tmp 31) (.tmp 36) 22 rfl w.heap.size 80 (.agg #[.int .i64 0, .string ⟨#[]⟩, .slice none 0 0, .slice none 0 0, .slice none 0 0]) 96 Try.underlying22 (by kernel_rfl) rfl (by decide) (by decide) (.slice ol ps.length cl) cs rfl (HCS1.out.up (below_alloc wr _)) _ _ rfl (part_lit _ _ 0 _ none 0 0) (part_len 0 _ none 0 0) (part_one 0 _ none 0 0) HLC.out (Nat.le_trans hsz (below_alloc wr _).size) ?_); intro v' w5 hown1 hg1 hk1; have HO5 := Lib.hid hown1; have HG5 := Lib.hid hg1; have HK5 := Lib.hid hk1; clear hown1 hg1 hk1))
                have HF := Lib.hid (FIN.out sb ByteArray.empty (take_all _) (drop_all _) _ _ _ _ (pt_evenS HPAR.out _ _ _ _) HO5.out (below_alloc wr _) HG5.out HK5.out)
                clear FIN
                go_roundg (ByteArray.empty.size)
                case measure => obtain ⟨_, _, _, _, _, _, _, _, _, h⟩ := HF.out; first | exact h | simpa using h
                case rel => obtain ⟨a1, a2, a3, a4, a5, a6, a7, a8, a9, -⟩ := HF.out; exact ⟨a1, a2, a3, a4, a5, a6, a7, a8, a9⟩
              · skip
                go_wp2_with (first | (at_builtin; go_loud (refine wpList_appL 5 rfl (.tmp 31) (.tmp 36) 22 rfl w.heap.size 80 (.agg #[.int .i64 0, .string ⟨#[]⟩, .slice none 0 0, .slice none 0 0, .slice none 0 0]) 96 Try.underlying22 (by kernel_rfl) rfl (by decide) (by decide) (.slice ol ps.length cl) cs rfl (HCS1.out.up (below_alloc wr _)) _ _ rfl (part_lit _ _ 0 _ none 0 0) (part_len 0 _ none 0 0) (part_one 0 _ none 0 0) HLC.out (Nat.le_trans hsz (below_alloc wr _).size) ?_); intro v' w5 hown1 hg1 hk1; have HO5 := Lib.hid hown1; have HG5 := Lib.hid hg1; have HK5 := Lib.hid hk1; clear hown1 hg1 hk1))
                have HF := Lib.hid (FIN.out ByteArray.empty ByteArray.empty rfl rfl _ _ _ _ (pt_evenS HPAR.out _ _ _ _) HO5.out (below_alloc wr _) HG5.out HK5.out)
                clear FIN
                go_roundg (ByteArray.empty.size)
                case measure => obtain ⟨_, _, _, _, _, _, _, _, _, h⟩ := HF.out; first | exact h | simpa using h
                case rel => obtain ⟨a1, a2, a3, a4, a5, a6, a7, a8, a9, -⟩ := HF.out; exact ⟨a1, a2, a3, a4, a5, a6, a7, a8, a9⟩
          · have HPAR := Lib.hid hpar
            clear hpar
            rcases HKC.out with ⟨hgt, rfl⟩ | ⟨hgt, rfl⟩
            · obtain hcd : ¬ sb = ByteArray.empty := fun e => by rw [e] at hgt; exact absurd hgt (Nat.not_lt_zero _)
              clear hcond
              go_wp2_with (first | (go_at_call 21; refine (HOPS.out (sb.extract 0 k) (by rw [← bys_len, extract_to, List.length_take, bys_len]; have := HLE.out; omega) wr).mono ?_; rintro e w2 ⟨vo, rfl, ho2, hb2⟩; obtain ⟨oo, co, bo, fo, hvo, hdo, -⟩ := ho2.sl; obtain ⟨nn, hnn⟩ : ∃ nn, nn = ((opsOf (bys (sb.extract 0 k))).map opV).length := ⟨_, rfl⟩; rw [← hnn] at hvo; clear hnn; subst hvo; have HO2 := Lib.hid ho2; have HB2 := Lib.hid hb2; clear ho2 hb2 hdo) | (at_builtin; go_loud (refine wpList_appL 5 rfl (.tmp 38) (.tmp 44) 22 rfl w.heap.size 80 (.agg #[.int .i64 0, .string ⟨#[]⟩, .slice none 0 0, .slice none 0 0, .slice none 0 0]) 96 Try.underlying22 (by kernel_rfl) rfl (by decide) (by decide) (.slice ol ps.length cl) cs rfl ((HCS1.out.up HB2.out).up (below_alloc w2 _)) _ _ rfl (part_lit _ _ 1 ⟨#[]⟩ oo nn co) (part_len 1 ⟨#[]⟩ oo nn co) (part_one 1 ⟨#[]⟩ oo nn co) HLC.out (Nat.le_trans hsz (Nat.le_trans HB2.out.size (below_alloc w2 _).size)) ?_); intro v' w5 hown1 hg1 hk1; have HO5 := Lib.hid hown1; have HG5 := Lib.hid hg1; have HK5 := Lib.hid hk1; clear hown1 hg1 hk1))
              have HF := Lib.hid (FIN.out (sb.extract 0 k) (sb.extract k sb.size) (extract_to _ _) (extract_from _ _) _ _ _ _ (pt_oddS HPAR.out ((HO2.out.mono hsz).up (below_alloc w2 _)) (fun q e e2 => by have h1 := (HO2.out.lt q e).1; have h2 := (HCS1.out.lt q e2).2; omega)) HO5.out (HB2.out.alloc HB2.out.size _) HG5.out HK5.out)
              clear FIN
              go_roundg ((sb.extract k sb.size).size)
              case measure => obtain ⟨_, _, _, _, _, _, _, _, _, h⟩ := HF.out; first | exact h | simpa using h
              case rel => obtain ⟨a1, a2, a3, a4, a5, a6, a7, a8, a9, -⟩ := HF.out; exact ⟨a1, a2, a3, a4, a5, a6, a7, a8, a9⟩
            · rcases hcond with hcd | ⟨rfl, hcd2⟩
              · have hpos : 0 < sb.size := Nat.pos_of_ne_zero (fun e => hcd (by rw [txt_bys sb, List.length_eq_zero_iff.1 ((bys_len sb).trans e)]; rfl))
                go_wp2_with (first | (go_at_call 21; refine (HOPS.out sb (by have := HLE.out; omega) wr).mono ?_; rintro e w2 ⟨vo, rfl, ho2, hb2⟩; obtain ⟨oo, co, bo, fo, hvo, hdo, -⟩ := ho2.sl; obtain ⟨nn, hnn⟩ : ∃ nn, nn = ((opsOf (bys sb)).map opV).length := ⟨_, rfl⟩; rw [← hnn] at hvo; clear hnn; subst hvo; have HO2 := Lib.hid ho2; have HB2 := Lib.hid hb2; clear ho2 hb2 hdo) | (at_builtin; go_loud (refine wpList_appL 5 rfl (.tmp 38) (.tmp 44) 22 rfl w.heap.size 80 (.agg #[.int .i64 0, .string ⟨#[]⟩, .slice none 0 0, .slice none 0 0, .slice none 0 0]) 96 Try.underlying22 (by kernel_rfl) rfl (by decide) (by decide) (.slice ol ps.length cl) cs rfl ((HCS1.out.up HB2.out).up (below_alloc w2 _)) _ _ rfl (part_lit _ _ 1 ⟨#[]⟩ oo nn co) (part_len 1 ⟨#[]⟩ oo nn co) (part_one 1 ⟨#[]⟩ oo nn co) HLC.out (Nat.le_trans hsz (Nat.le_trans HB2.out.size (below_alloc w2 _).size)) ?_); intro v' w5 hown1 hg1 hk1; have HO5 := Lib.hid hown1; have HG5 := Lib.hid hg1; have HK5 := Lib.hid hk1; clear hown1 hg1 hk1))
                have HF := Lib.hid (FIN.out sb ByteArray.empty (take_all _) (drop_all _) _ _ _ _ (pt_oddS HPAR.out ((HO2.out.mono hsz).up (below_alloc w2 _)) (fun q e e2 => by have h1 := (HO2.out.lt q e).1; have h2 := (HCS1.out.lt q e2).2; omega)) HO5.out (HB2.out.alloc HB2.out.size _) HG5.out HK5.out)
                clear FIN
                go_roundg (ByteArray.empty.size)
                case measure => obtain ⟨_, _, _, _, _, _, _, _, _, h⟩ := HF.out; first | exact h | simpa using h
                case rel => obtain ⟨a1, a2, a3, a4, a5, a6, a7, a8, a9, -⟩ := HF.out; exact ⟨a1, a2, a3, a4, a5, a6, a7, a8, a9⟩
              · skip
                go_wp2_with (first | (go_at_call 21; refine (HOPS.out ByteArray.empty (by decide) wr).mono ?_; rintro e w2 ⟨vo, rfl, ho2, hb2⟩; obtain ⟨oo, co, bo, fo, hvo, hdo, -⟩ := ho2.sl; obtain ⟨nn, hnn⟩ : ∃ nn, nn = ((opsOf (bys ByteArray.empty)).map opV).length := ⟨_, rfl⟩; rw [← hnn] at hvo; clear hnn; subst hvo; have HO2 := Lib.hid ho2; have HB2 := Lib.hid hb2; clear ho2 hb2 hdo) | (at_builtin; go_loud (refine wpList_appL 5 rfl (.tmp 38) (.tmp 44) 22 rfl w.heap.size 80 (.agg #[.int .i64 0, .string ⟨#[]⟩, .slice none 0 0, .slice none 0 0, .slice none 0 0]) 96 Try.underlying22 (by kernel_rfl) rfl (by decide) (by decide) (.slice ol ps.length cl) cs rfl ((HCS1.out.up HB2.out).up (below_alloc w2 _)) _ _ rfl (part_lit _ _ 1 ⟨#[]⟩ oo nn co) (part_len 1 ⟨#[]⟩ oo nn co) (part_one 1 ⟨#[]⟩ oo nn co) HLC.out (Nat.le_trans hsz (Nat.le_trans HB2.out.size (below_alloc w2 _).size)) ?_); intro v' w5 hown1 hg1 hk1; have HO5 := Lib.hid hown1; have HG5 := Lib.hid hg1; have HK5 := Lib.hid hk1; clear hown1 hg1 hk1))
                have HF := Lib.hid (FIN.out ByteArray.empty ByteArray.empty rfl rfl _ _ _ _ (pt_oddS HPAR.out ((HO2.out.mono hsz).up (below_alloc w2 _)) (fun q e e2 => by have h1 := (HO2.out.lt q e).1; have h2 := (HCS1.out.lt q e2).2; omega)) HO5.out (HB2.out.alloc HB2.out.size _) HG5.out HK5.out)
                clear FIN
                go_roundg (ByteArray.empty.size)
                case measure => obtain ⟨_, _, _, _, _, _, _, _, _, h⟩ := HF.out; first | exact h | simpa using h
                case rel => obtain ⟨a1, a2, a3, a4, a5, a6, a7, a8, a9, -⟩ := HF.out; exact ⟨a1, a2, a3, a4, a5, a6, a7, a8, a9⟩
  exact fin w
end Go.Cm

/- The walk of PackOps. Conditions: the text is one that can be. -/
namespace Go.Cm
open Go.RowKit Go.Proofs

theorem splitFr_len {n : Nat} (hn : 1 ≤ n) : ∀ f i t, (splitFr n f i t).length ≤ t.length + 1
  | 0, _, _ => Nat.zero_le _
  | f + 1, i, t => by
    unfold splitFr
    split
    · simp
    · rename_i h
      have ih := splitFr_len hn f (i + 1) (t.drop (min n t.length))
      have h2 : (t.drop (min n t.length)).length ≠ 0 := fun e => h (List.length_eq_zero_iff.1 e)
      rw [List.length_drop] at ih h2
      rw [List.length_cons]
      omega
theorem splitN_len (t : Byts) (n : Int) : (splitN t n).length ≤ t.length + 1 := splitFr_len (sizeN_pos n).1 _ _ _
set_option maxRecDepth 100000 in
set_option maxHeartbeats 4000000 in
theorem packOps (s : ByteArray) (n : Int) (w : World) (hs : s.size ≤ 140737488351232) : Calls Try.prog 4 #[.string s, .int .i64 n] w fun e w' => e = .returned (.bool true) ∧ ∃ x, w' = ext w x := by
  by_cases hb : s.size ≤ 1500
  · have HPO := Lib.hid (fun W => opsPk s (by omega) W)
    have HRO := Lib.hid (fun W => opsRk s (by omega) W)
    have HPS := Lib.hid (fun W => splitPk s n (by omega) W)
    have HRS := Lib.hid (fun W => splitRk s n (by omega) W)
    have HLN : Hid ((splitN (bys s) n).length ≤ 100000) := Lib.hid (by have := splitN_len (bys s) n; rw [bys_len] at this; omega)
    unfold RetOps at HPO HRO
    unfold RetParts at HPS HRS
    generalize opsOf (bys s) = O at *
    generalize splitN (bys s) n = R at *
    have hgt : ¬ (s.size : Int) > 1500 := by omega
    go_enter Try.func4, Try.ntmps4
    go_wp2_with (fail)
    (with_reducible refine (HPO.out _).mono ?_)
    rintro en w1 ⟨u1, rfl, ho1, hb1⟩
    have HO1 := Lib.hid ho1.sl
    have HB1 := Lib.hid hb1
    clear ho1 hb1
    go_wp2_with (fail)
    (with_reducible refine (HRO.out _).mono ?_)
    rintro en w2 ⟨u2, rfl, ho2, hb2⟩
    have HSM := Lib.hid (opsSameR (HO1.out.up hb2) ho2.sl)
    have HB2 := Lib.hid (HB1.out.trans (hb2.mono HB1.out.size))
    clear ho2 hb2 HO1 HB1
    go_wp2_with (fail)
    (with_reducible refine HSM.out.mono ?_)
    rintro en w3 ⟨rfl, x3, rfl⟩
    have HB3 := Lib.hid (HB2.out.trans ((ext_below w2 x3).mono HB2.out.size))
    generalize ext w2 x3 = w3 at *
    clear HSM HB2
    go_wp2_with (fail)
    (with_reducible refine (HPS.out _).mono ?_)
    rintro en w4 ⟨u4, rfl, hp4, hb4⟩
    have HTK := Lib.hid (takenPt hp4.at HLN.out)
    have HB4 := Lib.hid (HB3.out.trans (hb4.mono HB3.out.size))
    clear hp4 hb4 HB3
    go_wp2_with (fail)
    (with_reducible refine HTK.out.mono ?_)
    rintro en w5 ⟨u5, rfl, hp5, hb5⟩
    have HP5 := Lib.hid hp5
    have HB5 := Lib.hid (HB4.out.trans (hb5.mono HB4.out.size))
    clear hp5 hb5 HB4 HTK
    go_wp2_with (fail)
    (with_reducible refine (HRS.out _).mono ?_)
    rintro en w6 ⟨u6, rfl, hp6, hb6⟩
    have HSA := Lib.hid (sameR (HP5.out.up hb6) hp6.at)
    have HB6 := Lib.hid (HB5.out.trans (hb6.mono HB5.out.size))
    clear hp6 hb6 HB5 HP5
    go_wp2_with (fail)
    (with_reducible refine HSA.out.mono ?_)
    rintro en w7 ⟨rfl, x7, rfl⟩
    have HB7 := Lib.hid (HB6.out.trans ((ext_below w6 x7).mono HB6.out.size))
    generalize ext w6 x7 = w7 at *
    clear HSA HB6
    go_wp2_with ((with_reducible go_at_call 13); (with_reducible refine known11.mono ?_); rintro en w8 ⟨rfl, x8, rfl⟩)
    go_ret
    exact ⟨rfl, ex_ext (HB7.out.trans ((ext_below w7 x8).mono HB7.out.size))⟩
  · have hgt : (s.size : Int) > 1500 := by omega
    go_enter Try.func4, Try.ntmps4
    go_wp2_with ((with_reducible go_at_call 13); (with_reducible refine known11.mono ?_); rintro en w2 ⟨rfl, x2, rfl⟩)
    go_ret
    exact ⟨rfl, (ex_ext (by repeat (first | exact Below.refl _ _ | assumption | refine b_drewN ?_ _ | refine Below.drew ?_ | refine b_ext' ?_ _ | refine b_alloc' ?_ _)))⟩
end Go.Cm

/- The walk of PackCopies. Conditions: the text is one that can be, the number a byte. -/
namespace Go.Cm
open Go.RowKit Go.Proofs

theorem text_ops (t : Byts) (ht : t.length ≤ 16777216) : textOf 10 17 [⟨1, ⟨#[]⟩, opsOf t, [], []⟩] = (0, t) := by
  have h : pkPart 10 [] ⟨1, ⟨#[]⟩, opsOf t, [], []⟩ = (0, t) := by
    unfold pkPart
    rw [if_neg (fun e => by cases e), if_pos (.inl rfl), opsOf_makes ht]
    unfold chkN
    rw [if_neg (fun e => e rfl), if_neg (by show ¬ 16777216 < t.length; omega)]
  have h2 : partsN 10 [⟨1, ⟨#[]⟩, opsOf t, [], []⟩] = (0, t) := by
    unfold partsN
    rw [List.foldl_cons, List.foldl_nil]
    unfold pkPartS
    rw [if_neg (by decide), h]
  unfold textOf
  rw [if_neg (by simp), h2, if_neg (fun e => e rfl)]
theorem op_ok (t : Byts) (a : Nat) : (opAt t a).lit < 256 := by
  unfold opAt
  split
  · show 0 < 256; decide
  · exact UInt8.toNat_lt _
theorem opsFr_lit (t : Byts) : ∀ f a, ∀ o ∈ opsFr t f a, o.lit < 256
  | 0, _, o, h => by cases h
  | f + 1, a, o, h => by
    unfold opsFr at h
    split at h
    · rcases List.mem_cons.1 h with rfl | h
      · exact op_ok t a
      · exact opsFr_lit t f _ o h
    · cases h
theorem opsOf_lit (t : Byts) : ∀ o ∈ opsOf t, o.lit < 256 := opsFr_lit t _ _
theorem one_part {w : World} {o : Option Addr} {n c : Nat} {l : List OpN} (h : SlK 3 w (.slice o n c) (l.map opV)) : PartsAt (w.alloc (.cells #[.int .i64 1, .string ⟨#[]⟩, .slice o n c, .slice none 0 0, .slice none 0 0] 41)) (.slice (some ⟨w.heap.size, 0, none⟩) 1 1) [⟨1, ⟨#[]⟩, l, [], []⟩] := by
  refine ⟨_, part_lit w 41 1 ⟨#[]⟩ o n c, rfl, fun i hi => ?_⟩
  obtain rfl : i = 0 := by simp at hi; omega
  exact ⟨_, _, _, rfl, h.up (below_alloc _ _), Sl.nil _, Sl.nil _⟩
theorem copies_text {w : World} {v : Value} {t : Byts} (ht : t.length ≤ 16777216) (h : PartsAt w v [⟨1, ⟨#[]⟩, opsOf t, [], []⟩]) : Calls Try.prog 14 #[v] w fun e w' => e = .returned (.tuple #[.string ⟨t.toArray⟩, .int .i64 0]) ∧ ∃ x, w' = ext w x := by
  have := textPk h (fun p hp => by
    obtain rfl := List.mem_singleton.1 hp
    exact ⟨opsOf_lit t, by show (0 : Nat) ≤ _; omega⟩)
  unfold RetTextN at this
  rw [text_ops t ht] at this
  exact this
set_option maxRecDepth 100000 in
set_option maxHeartbeats 4000000 in
theorem packCopies (s : ByteArray) (n : Nat) (hn : n < 256) (w : World) : Calls Try.prog 5 #[.string s, .int .u8 (n : Nat)] w fun e w' => e = .returned (.bool true) ∧ ∃ x, w' = ext w x := by
  by_cases hb : s = ByteArray.empty ∨ 200 < s.size
  · rcases hb with rfl | hb
    · go_enter Try.func5, Try.ntmps5
      go_wp2_with ((with_reducible go_at_call 13); (with_reducible refine known11.mono ?_); rintro en w2 ⟨rfl, x2, rfl⟩)
      go_ret
      exact ⟨rfl, (ex_ext (by repeat (first | exact Below.refl _ _ | assumption | refine b_drewN ?_ _ | refine Below.drew ?_ | refine b_ext' ?_ _ | refine b_alloc' ?_ _)))⟩
    · have hgt : (s.size : Int) > 200 := by omega
      have hse : ¬ s = ByteArray.empty := fun e => by rw [e] at hb; exact absurd hb (by decide)
      go_enter Try.func5, Try.ntmps5
      go_wp2_with ((with_reducible go_at_call 13); (with_reducible refine known11.mono ?_); rintro en w2 ⟨rfl, x2, rfl⟩)
      all_goals (go_ret; exact ⟨rfl, (ex_ext (by repeat (first | exact Below.refl _ _ | assumption | refine b_drewN ?_ _ | refine Below.drew ?_ | refine b_ext' ?_ _ | refine b_alloc' ?_ _)))⟩)
  · have hse : ¬ s = ByteArray.empty := fun e => hb (.inl e)
    have hsz : s.size ≤ 200 := by omega
    have hpos : 0 < s.size := Nat.pos_of_ne_zero (fun e => hse (by cases s; rename_i d; have : d = #[] := Array.eq_empty_of_size_eq_zero e; rw [this]; rfl))
    have hz : ((s.size : Int) == 0) = false := by simp; omega
    have hgt : ¬ (s.size : Int) > 200 := by omega
    clear hb
    go_enter Try.func5, Try.ntmps5
    go_wp2_with (fail)
    obtain ⟨k, hk, hk1, hk6⟩ : ∃ k : Nat, (1 + (n : Int) % 6) = k ∧ 1 ≤ k ∧ k ≤ 6 := ⟨1 + n % 6, by omega, by omega, by omega⟩
    rw [hk]
    clear hk hz hgt hse
    go_loopg [6, 7] (k + 1) (fun gk av jv wr => ∃ (a : ByteArray) (j : Nat), av = .string a ∧ jv = .int .i64 j ∧ j ≤ k ∧ a.size ≤ j * 200 ∧ Below w.heap.size w wr ∧ gk = k + 1 - j)
    case atStart => exact ⟨⟨#[]⟩, 0, rfl, rfl, Nat.zero_le _, Nat.zero_le _, Below.refl _ _, rfl⟩
    case round =>
      obtain ⟨a, j, rfl, rfl, hj, ha, hbl, rfl⟩ := hrel
      have HBL := Lib.hid hbl
      clear hbl
      by_cases hlt : j < k
      · have hlti : decide (j < k) = true := by rw [decide_eq_true_iff]; omega
        have hsm : a.size + s.size ≤ 2000 := by omega
        go_wp2
        go_roundg (k + 1 - (j + 1))
        case measure => omega
        case rel => exact ⟨a ++ s, j + 1, rfl, by go_num, by omega, by rw [ByteArray.size_append]; omega, HBL.out, rfl⟩
      · have hlti : decide (j < k) = false := by rw [decide_eq_false_iff_not]; omega
        have has : a.size ≤ 1200 := by omega
        have HPO := Lib.hid (fun W => opsPk a (by omega) W)
        unfold RetOps at HPO
        have HTX := Lib.hid (fun (W : World) (v : Value) (h : PartsAt W v [⟨1, ⟨#[]⟩, opsOf (bys a), [], []⟩]) => copies_text (by rw [bys_len]; omega) h)
        rw [← txt_bys] at HTX
        have HOL : Hid ((opsOf (bys a)).length ≤ a.size) := Lib.hid (by have := opsOf_len (bys a); rwa [bys_len] at this)
        generalize opsOf (bys a) = O at *
        go_wp2_with (fail)
        (with_reducible refine (HPO.out _).mono ?_)
        rintro en w1 ⟨u1, rfl, ho1, hb1⟩
        obtain ⟨oo, oc, ob, of, hv, -, -⟩ := ops_open ho1.sl
        subst hv
        obtain ⟨ol, hol⟩ : ∃ ol, ol = O.length := ⟨_, rfl⟩
        have HP1 := Lib.hid (one_part ho1.sl)
        have HB1 := Lib.hid (HBL.out.trans (hb1.mono HBL.out.size))
        rw [← hol] at HOL HP1 ⊢
        clear ho1 hb1 hol HPO
        have HT1 := Lib.hid (HTX.out _ _ HP1.out)
        have hle : (ol : Int) ≤ a.size := by have := HOL.out; omega
        go_wp2_with (fail)
        (with_reducible refine HT1.out.mono ?_)
        rintro en w2 ⟨rfl, x2, rfl⟩
        have HB2 : Hid (Below w.heap.size w (ext (w1.alloc (.cells #[.int .i64 1, .string ⟨#[]⟩, .slice oo ol oc, .slice none 0 0, .slice none 0 0] 41)) x2)) := Lib.hid (HB1.out.trans (((below_alloc w1 _).trans ((ext_below _ x2).mono (below_alloc w1 _).size)).mono HB1.out.size))
        generalize ext (w1.alloc (.cells #[.int .i64 1, .string ⟨#[]⟩, .slice oo ol oc, .slice none 0 0, .slice none 0 0] 41)) x2 = w2 at *
        clear HT1 HP1 HTX
        go_wp2_with ((with_reducible go_at_call 13); (with_reducible refine known11.mono ?_); rintro en w8 ⟨rfl, x8, rfl⟩)
        go_ret
        exact ⟨rfl, ex_ext (HB2.out.trans ((ext_below w2 x8).mono HB2.out.size))⟩
end Go.Cm
