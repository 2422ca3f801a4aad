/- Texts of this claim, joined: walks of small functions and plain facts about them. Conditions: as each says. -/
import Derived.Test.YtfnkhcibcffcmaaGV
import Derived.Test.YtfnkhcibcffcmaaGS
import Derived.Test.YtfnkhcibcffcmaaGA
import Derived.DeepKeys4
import Derived.Deep.LoopGhost
import Derived.Test.YtfnkhcibcffcmaaGH
import Derived.Test.YtfnkhcibcffcmaaGU
import Derived.Test.YtfnkhcibcffcmaaGD
import Derived.Laws.Tables
import Derived.Test.YtfnkhcibcffcmaaGT
/- The walk of the program's sets: each set of an automaton's edges, once. Conditions: the edges' sets are words. -/
namespace Go.Cm
open Go.RowKit Go.Proofs Go.Maps

def setC (x : Ed) : List Value := [.int .u64 x.a, .int .u64 x.b, .int .u64 x.c, .int .u64 x.d]
def kv (x : Ed) : Value := .agg #[.int .u64 x.a, .int .u64 x.b, .int .u64 x.c, .int .u64 x.d]
theorem kv_iff {x y : Ed} : kv x = kv y ↔ keyE x = keyE y := by
  unfold kv keyE
  simp
theorem set_laid : laidOutB Try.prog = true := by kernel_rfl
theorem keyed_set : Keyed Try.prog 55 := Keyed.of_law (deep_law_laid set_laid (m := 2) (by omega) (of_decide_eq_true (by kernel_rfl)) (by kernel_rfl) (by kernel_rfl))
theorem wf_u64 {a : Int} (h : WQ a) : (Lit.int .u64 a).wf = true := by
  unfold WQ at h
  simp [Lit.wf, IntKind.min, IntKind.max, IntKind.signed, IntKind.bits]
  omega
theorem lits_u64 (d : Nat) {a : Int} (h : WQ a) : Try.prog.keyLits (d + 1) 53 [.int .u64 a] = some [.int .u64 a] := by
  unfold Program.keyLits
  simp [Try.underlying53, wf_u64 h]
theorem key_set {x : Ed} (h : EdW x) : ∃ l, keyOf Try.prog 55 (kv x) = some l := by
  obtain ⟨ha, hb, hc, hd⟩ := h
  obtain ⟨d, hd1⟩ : ∃ d, Try.prog.types.size = d + 1 := Nat.exists_eq_succ_of_ne_zero (of_decide_eq_true (by kernel_rfl))
  have c4 : Try.prog.cellsOf 55 = 4 := by kernel_rfl
  have c1 : Try.prog.cellsOf 53 = 1 := by kernel_rfl
  have hk : Try.prog.keyType 55 = true := by kernel_rfl
  have hl : Try.prog.keyLits (d + 1 + 1) 55 [.int .u64 x.a, .int .u64 x.b, .int .u64 x.c, .int .u64 x.d] = some [.int .u64 x.a, .int .u64 x.b, .int .u64 x.c, .int .u64 x.d] := by
    unfold Program.keyLits
    rw [Try.underlying55]
    simp only [c4, c1, List.length_cons, List.length_nil]
    rw [if_pos trivial]
    have h0 := lits_u64 d ha
    have h1 := lits_u64 d hb
    have h2 := lits_u64 d hc
    have h3 := lits_u64 d hd
    simp [List.range, List.range.loop, h0, h1, h2, h3]
  unfold keyOf
  rw [Try.underlying55]
  simp only [kv, hk, Bool.true_and]
  rw [hd1]
  have hf : (Value.agg #[.int .u64 x.a, .int .u64 x.b, .int .u64 x.c, .int .u64 x.d]).formed Try.prog 55 = true := by
    unfold Value.formed
    rw [Try.underlying55]
    simp [c4]
  rw [if_pos hf]
  have hv : (Value.agg #[.int .u64 x.a, .int .u64 x.b, .int .u64 x.c, .int .u64 x.d]).cells.toList = [.int .u64 x.a, .int .u64 x.b, .int .u64 x.c, .int .u64 x.d] := rfl
  rw [hv, hl]
  exact ⟨_, rfl⟩
/-- the edges that read a byte among the first ones -/
def procE (e : List (List Ed)) (i j : Nat) : List Ed := ((e.take i).flatten ++ (e.getD i []).take j).filter (fun x => !x.free)
theorem procE_zero (e : List (List Ed)) : procE e 0 0 = [] := by simp [procE]
theorem procE_row (e : List (List Ed)) {i : Nat} (h : i < e.length) : procE e i (e.getD i []).length = procE e (i + 1) 0 := by
  unfold procE
  rw [List.take_length, List.take_zero, List.append_nil, take_succ_getD e i [] h, List.flatten_append]
  simp
theorem procE_all (e : List (List Ed)) : procE e e.length 0 = flatE e := by unfold procE flatE; simp
theorem procE_step (e : List (List Ed)) (i : Nat) {j : Nat} (h : j < (e.getD i []).length) : procE e i (j + 1) = if ((e.getD i []).getD j zE).free then procE e i j else procE e i j ++ [(e.getD i []).getD j zE] := by
  unfold procE
  generalize e.getD i [] = row at *
  rw [take_succ_getD row j zE h, ← List.append_assoc, List.filter_append]
  generalize row.getD j zE = z at *
  cases hf : z.free <;> simp [hf]
theorem quiet_look {P : Program} {C : World → Prop} {o : Oper} {a : Act} {K : Act → Prop} (T : TypeId) (m x : Operand) (ho : o.op = .lookup T m x false) (mv xv v : Value) (hm : a.eval m = mv) (hx : a.eval x = xv)
    (h : ∀ w', C w' → (Instr.lookup T mv xv false).run P w' = .ok v w') (hk : K (a.put o.dst v)) : o.quiet P a C K := by
  refine ⟨v, fun w' hw' => ?_, hk⟩
  unfold Oper.quietAt execOp
  simp only [ho, hm, hx, Sem.run_bind, h w' hw', Result.andThen_ok, Sem.run_pure, Oper.quietUpon]
  exact ⟨trivial, trivial⟩
theorem setC_len (l : List Ed) : ∀ x ∈ l.map setC, x.length = 4 := by
  intro x hx
  obtain ⟨e, -, rfl⟩ := List.mem_map.1 hx
  rfl
theorem kv_mem {l : List Ed} {x : Ed} : kv x ∈ l.map kv ↔ keyE x ∈ l.map keyE := by
  simp only [List.mem_map]
  exact ⟨fun ⟨a, ha, h⟩ => ⟨a, ha, kv_iff.1 h⟩, fun ⟨a, ha, h⟩ => ⟨a, ha, kv_iff.2 h⟩⟩
set_option maxRecDepth 100000 in
set_option maxHeartbeats 8000000 in
theorem setsP {w : World} {A : Array Value} {e : List (List Ed)} {F : Int} {r : List Int} (h : NfaV w A e F r) (hw : ∀ a x, x ∈ Row e a → EdW x) (ht : tot e ≤ 1000000) :
    Calls Try.prog 21 #[.agg A] w fun en w' => ∃ u, en = .returned u ∧ OwnK 4 w' w.heap.size 55 u ((setsE e).map setC) ∧ Below w.heap.size w w' := by
  obtain ⟨ve, vr, rfl, he, -⟩ := h
  obtain ⟨oe, ce, be, fe, rfl, hde, hce⟩ := he.open
  have hixe := index_row hde
  have hme := hde.len
  have hbe := hde.hblk
  have HCE := Lib.hid hce
  have HTS : Hid (∀ i, i < e.length → tot (e.take (i + 1)) = tot (e.take i) + (e.getD i []).length) := Lib.hid (fun i hi => by unfold tot; rw [List.take_succ_eq_append_getElem hi, List.map_append, List.sum_append]; simp [List.getD, hi])
  have HTL : Hid (∀ i, tot (e.take i) ≤ 1000000) := Lib.hid (fun i => by
    have h1 : tot (e.take i ++ e.drop i) = tot (e.take i) + tot (e.drop i) := by unfold tot; rw [List.map_append, List.sum_append]
    rw [List.take_append_drop] at h1
    omega)
  have HPR := Lib.hid (fun i (hi : i < e.length) => procE_row e hi)
  have HPA := Lib.hid (procE_all e)
  have HPS := Lib.hid (fun i j (hj : j < (e.getD i []).length) => procE_step e i hj)
  have HPL : Hid (∀ i j, (pickBy keyE (procE e i j)).length ≤ tot (e.take i) + j) := Lib.hid (fun i j => by
    refine Nat.le_trans (pickBy_len _ _) ?_
    unfold procE tot
    refine Nat.le_trans (List.length_filter_le _ _) ?_
    rw [List.length_append, List.length_flatten, List.length_take]
    omega)
  obtain ⟨n, hn⟩ : ∃ n, n = e.length := ⟨_, rfl⟩
  have HN := Lib.hid hn
  rw [← hn] at hixe hme hbe HCE HTS HPR HPA ⊢
  clear he hde hce hn ht
  have hmm := @run_makeMap Try.prog
  have HA : Hid (Below w.heap.size w ((w.alloc (.cells #[.slice oe n ce, .int .i64 F, vr] 25)).alloc (.map #[] 0))) := Lib.hid (by repeat (first | exact Below.refl _ _ | assumption | refine b_drewN ?_ _ | refine Below.drew ?_ | refine b_ext' ?_ _ | refine b_alloc' ?_ _))
  have hsz : ((w.alloc (.cells #[.slice oe n ce, .int .i64 F, vr] 25)).alloc (.map #[] 0)).heap.size = w.heap.size + 2 := by simp
  have HB0 : Hid ((w.alloc (.cells #[.slice oe n ce, .int .i64 F, vr] 25)).cell? ⟨w.heap.size, 0, none⟩ = some (.slice oe n ce)) := Lib.hid (by rw [World.cell?_alloc_new]; rfl)
  have HM0 : Hid (MapC Try.prog 55 ((w.alloc (.cells #[.slice oe n ce, .int .i64 F, vr] 25)).alloc (.map #[] 0)) (w.heap.size + 1) [] 0) := Lib.hid (by
    have := MapC.made Try.prog 55 (w.alloc (.cells #[.slice oe n ce, .int .i64 F, vr] 25))
    simpa using this)
  go_enter Try.func21, Try.ntmps21
  go_wp2
  generalize ((w.alloc (.cells #[.slice oe n ce, .int .i64 F, vr] 25)).alloc (.map #[] 0)) = w1 at *
  clear hmm HB0
  obtain ⟨mb, hmb⟩ : ∃ mb, mb = w.heap.size + 1 := ⟨_, rfl⟩
  rw [← hmb] at HM0 ⊢
  have hmb1 : w.heap.size + 1 ≤ mb := by omega
  have hmb2 : mb ≤ w.heap.size + 1 := by omega
  clear hmb
  go_loopg [3, 13] n (fun gk lv iv wr => ∃ i N : Nat, iv = .int .i64 i ∧ i ≤ n ∧ OwnK 4 wr (mb + 1) 55 lv ((pickBy keyE (procE e i 0)).map setC) ∧ MapC Try.prog 55 wr mb ((pickBy keyE (procE e i 0)).map kv) N ∧ N ≤ tot (e.take i) ∧ Below mb w1 wr ∧ gk = n - i)
  case atStart => exact ⟨0, 0, rfl, Nat.zero_le _, by rw [procE_zero]; exact OwnK.nil _ _ _ _, by rw [procE_zero]; exact HM0.out, Nat.zero_le _, Below.refl _ _, rfl⟩
  case round =>
    obtain ⟨i, N, rfl, hi, how, hmp, hN, hbel, rfl⟩ := hrel
    have HO := Lib.hid how
    have HM := Lib.hid hmp
    have HNB := Lib.hid hN
    have HW := Lib.hid hbel
    have hwsz := hbel.size
    have HWW := Lib.hid (HA.out.trans (hbel.mono (by omega)))
    clear how hmp hbel hN HM0
    by_cases hlt : i < n
    · obtain ⟨oi, ci, bi, fi, hrow, hdi, hcell⟩ := HCE.out i hlt
      have hbe2 := hbe (by omega)
      have hrow2 := (HWW.out.cell (p := ⟨be, fe + i, none⟩) hbe2).trans hrow
      have hber : be < wr.heap.size := by omega
      have hixe2 := fun W => hixe W i hlt
      have hixi := index_edge hdi
      have hbi := hdi.hblk
      have hmi := hdi.len
      have HCI := Lib.hid hcell
      have HPI := Lib.hid (HPR.out i hlt)
      have HTI := Lib.hid (HTS.out i hlt)
      have HPJ := Lib.hid (HPS.out i)
      have HTLI := Lib.hid (HTL.out (i + 1))
      obtain ⟨row, hrw⟩ : ∃ row, row = e.getD i [] := ⟨_, rfl⟩
      have HRO := Lib.hid hrw
      rw [← hrw] at hrow2 hixi hbi hmi HCI HPI HTI HPJ
      obtain ⟨ln, hln⟩ : ∃ ln, ln = row.length := ⟨_, rfl⟩
      have HLN := Lib.hid hln
      rw [← hln] at hrow2 hixi hbi hmi HCI HPI HTI HPJ
      have HSR : Hid (∀ j, j < ln → EdW (row.getD j zE)) := Lib.hid (fun j hj => hw i _ (by show _ ∈ e.getD i []; rw [← hrw]; exact getD_mem _ _ _ (by omega)))
      clear hrow hdi hcell hrw hln
      go_wp2
      have HWO := HW
      have HOO := HO
      have HMO := HM
      clear HW HO HM HWW hrow2 hber hwsz
      generalize wr = wo at *
      go_loopg [3, 19] ln (fun gk lv jv wr => ∃ j N : Nat, jv = .int .i64 j ∧ j ≤ ln ∧ OwnK 4 wr (mb + 1) 55 lv ((pickBy keyE (procE e i j)).map setC) ∧ MapC Try.prog 55 wr mb ((pickBy keyE (procE e i j)).map kv) N ∧ N ≤ tot (e.take i) + j ∧ Below mb w1 wr ∧ gk = ln - j)
      case atStart => exact ⟨0, N, rfl, Nat.zero_le _, HOO.out, HMO.out, HNB.out, HWO.out, rfl⟩
      case round =>
        obtain ⟨j, N, rfl, hj, how, hmp, hN, hbel, rfl⟩ := hrel
        have HO := Lib.hid how
        have HM := Lib.hid hmp
        have HNJ := Lib.hid hN
        have HW := Lib.hid hbel
        have hwsz := hbel.size
        have HWW := Lib.hid (HA.out.trans (hbel.mono (by omega)))
        clear how hmp hbel hN HOO HMO HWO HNB
        by_cases hltj : j < ln
        · obtain ⟨ed, hed⟩ : ∃ ed, ed = row.getD j zE := ⟨_, rfl⟩
          have HST := Lib.hid (HPJ.out j hltj)
          rw [← hed] at HST
          have hbi2 := hbi (by omega)
          have HCD : Hid (∀ c, c < 6 → wr.cell? ⟨bi, fi + j * 6 + c, none⟩ = some ((edA ed).getD c undef)) := Lib.hid (by
            intro c hcl
            rw [(HWW.out.cell (p := ⟨bi, fi + j * 6 + c, none⟩) hbi2), HCI.out j hltj c hcl, edC_get, hed])
          have HEW := Lib.hid (HSR.out j hltj)
          rw [← hed] at HEW
          have hixj := fun W => hixi W j hltj
          obtain ⟨tq, fr', a1, b1, c1, d1⟩ := ed
          unfold edA at HCD
          simp only at HCD
          clear hed
          cases fr' with
          | true =>
            have HEQ : Hid (procE e i (j + 1) = procE e i j) := Lib.hid HST.out
            have HA6 := Lib.hid (below_alloc wr (.cells #[.int .i64 tq, .bool true, .int .u64 a1, .int .u64 b1, .int .u64 c1, .int .u64 d1] 92))
            have QC : Hid (∀ k v, (#[.int .i64 tq, .bool true, .int .u64 a1, .int .u64 b1, .int .u64 c1, .int .u64 d1] : Array Value)[k]? = some v → (wr.alloc (.cells #[.int .i64 tq, .bool true, .int .u64 a1, .int .u64 b1, .int .u64 c1, .int .u64 d1] 92)).cell? ⟨wr.heap.size, k, none⟩ = some v) := Lib.hid (fun k v hv => (World.cell?_alloc_new wr _ _ k).trans hv)
            have qs : wr.heap.size < (wr.alloc (.cells #[.int .i64 tq, .bool true, .int .u64 a1, .int .u64 b1, .int .u64 c1, .int .u64 d1] 92)).heap.size := by simp
            have q1 := QC.out 1 (.bool true) rfl
            have HZ := Lib.hid (HW.out.trans (HA6.out.mono (by omega)))
            have HO6 := Lib.hid (HO.out.up HA6.out)
            have HM6 := Lib.hid (HM.out.up HA6.out)
            have hmbp : mb < wr.heap.size := HM.out.lt
            clear HA6 HO HM HWW
            go_wp2_with (refine wpList_load_cells rfl 92 _ rfl bi (fi + j * 6) 6 rfl _ _ HCD.out rfl Try.underlying92 rfl (by kernel_rfl) ?_)
            clear HCD
            go_roundg (ln - (j + 1))
            case measure => omega
            case rel => exact ⟨j + 1, N, by go_num, by omega, by rw [HEQ.out]; exact HO6.out, by rw [HEQ.out]; exact HM6.out, by have := HNJ.out; omega, HZ.out, rfl⟩
          | false =>
            have HE1 : Hid (keyE ⟨tq, false, a1, b1, c1, d1⟩ ∈ (pickBy keyE (procE e i j)).map keyE → pickBy keyE (procE e i (j + 1)) = pickBy keyE (procE e i j)) := Lib.hid (fun hm => by
              have := HST.out
              rw [if_neg (by intro hh; cases hh)] at this
              rw [this, pickBy_snoc, if_pos hm])
            have HE2 : Hid (keyE ⟨tq, false, a1, b1, c1, d1⟩ ∉ (pickBy keyE (procE e i j)).map keyE → pickBy keyE (procE e i (j + 1)) = pickBy keyE (procE e i j) ++ [⟨tq, false, a1, b1, c1, d1⟩]) := Lib.hid (fun hm => by
              have := HST.out
              rw [if_neg (by intro hh; cases hh)] at this
              rw [this, pickBy_snoc, if_neg hm])
            have HA6 := Lib.hid (below_alloc wr (.cells #[.int .i64 tq, .bool false, .int .u64 a1, .int .u64 b1, .int .u64 c1, .int .u64 d1] 92))
            have QC : Hid (∀ k v, (#[.int .i64 tq, .bool false, .int .u64 a1, .int .u64 b1, .int .u64 c1, .int .u64 d1] : Array Value)[k]? = some v → (wr.alloc (.cells #[.int .i64 tq, .bool false, .int .u64 a1, .int .u64 b1, .int .u64 c1, .int .u64 d1] 92)).cell? ⟨wr.heap.size, k, none⟩ = some v) := Lib.hid (fun k v hv => (World.cell?_alloc_new wr _ _ k).trans hv)
            have qs : wr.heap.size < (wr.alloc (.cells #[.int .i64 tq, .bool false, .int .u64 a1, .int .u64 b1, .int .u64 c1, .int .u64 d1] 92)).heap.size := by simp
            have q1 := QC.out 1 (.bool false) rfl
            have HZ := Lib.hid (HW.out.trans (HA6.out.mono (by omega)))
            have HO6 := Lib.hid (HO.out.up HA6.out)
            have HM6 := Lib.hid (HM.out.up HA6.out)
            have hmbp : mb < wr.heap.size := HM.out.lt
            clear HA6 HO HM HWW
            go_wp2_with (refine wpList_load_cells rfl 92 _ rfl bi (fi + j * 6) 6 rfl _ _ HCD.out rfl Try.underlying92 rfl (by kernel_rfl) ?_)
            clear HCD
            generalize hwy : wr.alloc (.cells #[.int .i64 tq, .bool false, .int .u64 a1, .int .u64 b1, .int .u64 c1, .int .u64 d1] 92) = wy at *
            obtain ⟨pz, hpz⟩ : ∃ pz, pz = wr.heap.size := ⟨_, rfl⟩
            rw [← hpz] at QC qs hmbp ⊢
            have HPZ : Hid (pz ≤ wr.heap.size ∧ wr.heap.size ≤ pz) := Lib.hid ⟨by omega, by omega⟩
            clear hwy hpz
            have HM7 := Lib.hid (HM6.out.up (below_drewN wy 1))
            rw [← World.drew_is_drewN] at HM7
            have HINC : Hid (∃ c : Int, ∃ ks', IncC Try.prog 55 93 wy.drew mb ((pickBy keyE (procE e i j)).map kv) N (.agg #[.int .u64 a1, .int .u64 b1, .int .u64 c1, .int .u64 d1]) c ks' ∧ 0 ≤ c ∧ c ≤ N ∧ ((c = 0 ∧ ks' = (pickBy keyE (procE e i j) ++ [(⟨tq, false, a1, b1, c1, d1⟩ : Ed)]).map kv ∧ pickBy keyE (procE e i (j + 1)) = pickBy keyE (procE e i j) ++ [⟨tq, false, a1, b1, c1, d1⟩]) ∨ (1 ≤ c ∧ ks' = (pickBy keyE (procE e i j)).map kv ∧ pickBy keyE (procE e i (j + 1)) = pickBy keyE (procE e i j)))) := Lib.hid (by
              obtain ⟨lk, hk⟩ := key_set (x := (⟨tq, false, a1, b1, c1, d1⟩ : Ed)) HEW.out
              by_cases hm : keyE ⟨tq, false, a1, b1, c1, d1⟩ ∈ (pickBy keyE (procE e i j)).map keyE
              · obtain ⟨c, h1, h2, h3⟩ := incOld keyed_set Try.underlying93 (fun w => zero_int w) hk HM7.out ((kv_mem (x := (⟨tq, false, a1, b1, c1, d1⟩ : Ed))).2 hm)
                exact ⟨c, _, h3, by omega, h2, .inr ⟨h1, rfl, HE1.out hm⟩⟩
              · have h3 := incNew keyed_set Try.underlying93 (fun w => zero_int w) hk HM7.out (fun h => hm ((kv_mem (x := (⟨tq, false, a1, b1, c1, d1⟩ : Ed))).1 h))
                exact ⟨0, _, h3, by omega, by omega, .inl ⟨rfl, by rw [List.map_append]; rfl, HE2.out hm⟩⟩)
            obtain ⟨c, ks', hinc, hc0, hcN, hcase⟩ := HINC.out
            obtain ⟨st, w1', w2', i1, i2, i3, i4, i5, g1, g2, hm2⟩ := hinc.step
            have HG1 := Lib.hid g1
            have HG2 := Lib.hid g2
            have HMM := Lib.hid hm2
            have HCS := Lib.hid hcase
            have hpm : some pz ≠ some mb := by intro hh; injection hh with hh; omega
            have HQD : Hid (∀ w', wy.drew.grownBy w' (some mb) → ∀ c, c < 4 → w'.cell? ⟨pz, 2 + c, none⟩ = some ((#[.int .u64 a1, .int .u64 b1, .int .u64 c1, .int .u64 d1] : Array Value).getD c undef)) := Lib.hid (by
              intro w' hg c hc
              have hk : ∀ k v, (#[.int .i64 tq, .bool false, .int .u64 a1, .int .u64 b1, .int .u64 c1, .int .u64 d1] : Array Value)[k]? = some v → w'.cell? ⟨pz, k, none⟩ = some v := fun k v hv => hg.cell (QC.out k v hv) hpm
              rcases (show c = 0 ∨ c = 1 ∨ c = 2 ∨ c = 3 by omega) with rfl | rfl | rfl | rfl
              · exact hk 2 _ rfl
              · exact hk 3 _ rfl
              · exact hk 4 _ rfl
              · exact hk 5 _ rfl)
            have HCM : Hid (c ≤ 1000000) := Lib.hid (by have := HTL.out (i + 1); have := HNJ.out; have := HTLI.out; have := HTI.out; omega)
            clear HINC hinc hm2 hcase g1 g2 HM7 HM6 HE1 HE2
            have hcb : c ≤ 1000000 := HCM.out
            refine wp_region_tail (fun w' => w' = wy.drew ∨ w' = w1') [0,1,2,3,4] [5,6] [7] (by kernel_rfl) (by kernel_rfl) (.inl rfl) ?_
            simp only [pick, List.map_cons, List.map_nil, List.getD_cons_zero, List.getD_cons_succ]
            repeat (first
              | (go_big_quiet_want; refine quiet_load_cells 55 4 _ rfl pz 2 rfl #[.int .u64 a1, .int .u64 b1, .int .u64 c1, .int .u64 d1] rfl (fun w' hw' => HQD.out w' (by rcases hw' with rfl | rfl; exact grown_refl _ _; exact HG1.out)) _ Try.underlying55 rfl (by kernel_rfl) ?_; go_simp; go_big_quiet_on)
              | (go_big_quiet_want; refine quiet_look 93 _ _ rfl (.map (some mb)) (.agg #[.int .u64 a1, .int .u64 b1, .int .u64 c1, .int .u64 d1]) (.int .i64 c) rfl rfl (fun w' hw' => by rcases hw' with rfl | rfl; exact i2; exact i3) ?_; go_simp; go_big_quiet_on)
              | go_big_quiet_step (fail))
            refine wpQuiet_nil ?_
            (unfold wpAct; go_wp2; refine ⟨.inr rfl, ?_⟩)
            (unfold wpAct; go_wp2; refine ⟨.inr rfl, ?_⟩)
            unfold wpAct
            have QC2 := Lib.hid (HQD.out w2' HG2.out)
            have HO7 := Lib.hid ((HO6.out.up (by rw [World.drew_is_drewN]; exact below_drewN wy 1)).keep HG2.out (by
              rcases hv : u3.ownBlock with _ | q
              · exact .inl rfl
              · exact .inr (by intro hh; injection hh with hh; have := (HO6.out.lt q hv).1; omega)))
            have hds : wy.drew.heap.size = wy.heap.size := rfl
            have HZ7 := Lib.hid ((HZ.out.trans ((show Below wy.heap.size wy wy.drew by rw [World.drew_is_drewN]; exact below_drewN wy 1).mono (by omega))).grown HG2.out (by omega) (fun k hk => by cases hk; exact Nat.le_refl _))
            have hsz7 : wy.heap.size ≤ w2'.heap.size := HG2.out.size
            clear HQD HG1 HO6 HZ hds
            rcases HCS.out with ⟨rfl, h2, h3⟩ | ⟨h1, h2, h3⟩
            · have H2 := Lib.hid h2
              have H3 := Lib.hid h3
              clear h2 h3
              rw [show (0 : Int) + 1 = 1 from rfl] at i4 i5
              (unfold wpAct; go_wp2; refine ⟨trivial, ?_⟩)
              unfold wpAct
              have hl7 : Below w2'.heap.size w2' (w2'.alloc (.cells #[.int .u64 a1, .int .u64 b1, .int .u64 c1, .int .u64 d1] 55)) := below_alloc _ _
              have HX : Hid (SlK 4 (w2'.alloc (.cells #[.int .u64 a1, .int .u64 b1, .int .u64 c1, .int .u64 d1] 55)) (.slice (some ⟨w2'.heap.size, 0, none⟩) 1 1) ([(⟨tq, false, a1, b1, c1, d1⟩ : Ed)].map setC)) := Lib.hid (by
                have h1 := slK_lit 4 w2' #[.int .u64 a1, .int .u64 b1, .int .u64 c1, .int .u64 d1] 55 ([(⟨tq, false, a1, b1, c1, d1⟩ : Ed)].map setC) (by simp [setC]) (setC_len _) (by simp)
                simpa using h1)
              have HT1 := Lib.hid (HO7.out.up hl7)
              have HZ8 := Lib.hid (HZ7.out.trans (hl7.mono (by omega)))
              have HM8 := Lib.hid (HMM.out.up hl7)
              have HT2 : Hid (∀ u ∈ ([(⟨tq, false, a1, b1, c1, d1⟩ : Ed)].map setC).flatten, u.oneCell' = true) := Lib.hid (by intro u hu; simp [setC] at hu; rcases hu with rfl | rfl | rfl | rfl <;> rfl)
              have HT3 : Hid (((pickBy keyE (procE e i j)).map setC).length + ([(⟨tq, false, a1, b1, c1, d1⟩ : Ed)].map setC).length ≤ 1000000000) := Lib.hid (by have := HPL.out i j; have := HTL.out (i + 1); have := HTL.out i; have := HTI.out; simp only [List.length_map, List.length_singleton]; omega)
              have HMB : Hid (mb + 1 ≤ (w2'.alloc (.cells #[.int .u64 a1, .int .u64 b1, .int .u64 c1, .int .u64 d1] 55)).heap.size) := Lib.hid (by have := hl7.size; omega)
              clear hl7 HO7 HZ7 HMM
              go_wp2_with (first | (refine wpList_load_cells rfl 55 _ rfl pz 2 4 rfl _ _ QC2.out rfl Try.underlying55 rfl (by kernel_rfl) ?_) | (at_builtin; refine wpList_appK 4 rfl (.tmp 37) (.tmp 40) 51 rfl (mb + 1) 55 (.agg #[.int .u64 0, .int .u64 0, .int .u64 0, .int .u64 0]) 32 Try.underlying51 (by kernel_rfl) rfl (by decide) (by decide) u3 ((pickBy keyE (procE e i j)).map setC) rfl HT1.out (.slice (some ⟨w2'.heap.size, 0, none⟩) 1 1) ([(⟨tq, false, a1, b1, c1, d1⟩ : Ed)].map setC) rfl HX.out (setC_len _) HT2.out HT3.out HMB.out ?_; intro v' w5 hown1 hg1 hk1; have HO1 := Lib.hid hown1; have HG1 := Lib.hid hg1; have HK1 := Lib.hid hk1; clear hown1 hg1 hk1))
              have HROW : Hid (∀ k, u3.ownBlock = some k → mb + 1 ≤ k) := Lib.hid (fun k hk => (HT1.out.lt k hk).1)
              go_roundg (ln - (j + 1))
              case measure => omega
              case rel => exact ⟨j + 1, N + 1, by go_num, by omega, by rw [H3.out, List.map_append]; exact HO1.out, by rw [H3.out, ← H2.out]; exact HM8.out.keep HG1.out (by intro hh; have := HROW.out mb hh.symm; omega), by have := HNJ.out; omega, HZ8.out.grown HG1.out (by have := HMB.out; omega) (fun k hk => by have := HROW.out k hk; omega), rfl⟩
            · have H2 := Lib.hid h2
              have H3 := Lib.hid h3
              have d1 : decide (c + 1 = 1) = false := by simp; omega
              clear h2 h3
              (unfold wpAct; go_wp2; refine ⟨trivial, ?_⟩)
              unfold wpAct
              go_wp2_with (refine wpList_load_cells rfl 55 _ rfl pz 2 4 rfl _ _ QC2.out rfl Try.underlying55 rfl (by kernel_rfl) ?_)
              go_roundg (ln - (j + 1))
              case measure => omega
              case rel => exact ⟨j + 1, N + 1, by go_num, by omega, by rw [H3.out]; exact HO7.out, by rw [H3.out, ← H2.out]; exact HMM.out, by have := HNJ.out; omega, HZ7.out, rfl⟩
        · have hje : j = ln := by omega
          subst hje
          have HPI2 := HPI
          go_wp2
          go_roundg (n - (i + 1))
          case measure => omega
          case rel => exact ⟨i + 1, N, by go_num, by omega, by rw [← HPI.out]; exact HO.out, by rw [← HPI.out]; exact HM.out, by rw [HTI.out]; exact HNJ.out, HW.out, rfl⟩
    · have hie : i = n := by omega
      subst hie
      go_wp2
      go_ret
      have h1 := HO.out
      rw [HPA.out] at h1
      exact ⟨_, rfl, h1.mono (by omega), HWW.out⟩
end Go.Cm

/- A map that numbers: each key has its place in the order in which the keys came, for keys of any kind. Conditions: none. -/
namespace Go.Cm
open Go.RowKit Go.Proofs Go.Maps

/-- the map's keys are ks, each with its place -/
def MapI (P : Program) (K : TypeId) (w : World) (b : Nat) (ks : List Value) : Prop :=
  ∃ es clock, w.heap[b]? = some (.map es clock) ∧ es.toList.map (·.key) = ks ∧ (∀ x ∈ es.toList, ∃ l, keyOf P K x.key = some l) ∧ (∀ (i : Nat) x, es.toList[i]? = some x → x.val = .int .i64 i) ∧ ks.Nodup
section
variable {P : Program} {K E T : TypeId} {w w' : World} {b : Nat} {ks : List Value} {k : Value} {lk : Lit}
theorem MapI.made (P : Program) (K : TypeId) (w : World) : MapI P K (w.alloc (.map #[] 0)) w.heap.size [] :=
  ⟨#[], 0, (MapKept.heap_alloc w _).1, rfl, by simp, by simp, by simp⟩
theorem MapI.lt (h : MapI P K w b ks) : b < w.heap.size := by
  obtain ⟨es, clock, hb, -⟩ := h
  exact (Array.getElem?_eq_some_iff.1 hb).1
theorem MapI.keep (h : MapI P K w b ks) {row : Option Nat} (hg : w.grownBy w' row) (hne : some b ≠ row) : MapI P K w' b ks := by
  have hlt := h.lt
  obtain ⟨es, clock, hb, r⟩ := h
  exact ⟨es, clock, (hg.block b hlt hne).trans hb, r⟩
theorem MapI.up (h : MapI P K w b ks) (hb : Below w.heap.size w w') : MapI P K w' b ks := h.keep (row := none) (grown_below hb none) (by simp)
theorem MapI.len (h : MapI P K w b ks) (hT : P.underlying T = some (.map K E)) (ty : TypeId) : (Builtin.len_ #[T] ty #[.map (some b)]).run P w = .ok (.int .i64 ks.length) w := by
  obtain ⟨es, clock, hb, hks, -⟩ := h
  simp [Builtin.len_, run_underlying hT, MapKept.run_getObj_map hb, goInt, Result.andThen, ← hks]
theorem MapI.lookNew (h : MapI P K w b ks) (Kd : Keyed P K) (hT : P.underlying T = some (.map K E)) (hz : (zeroValue E).run P w = .ok (.int .i64 0) w) (hk : keyOf P K k = some lk) (hn : k ∉ ks) :
    (Instr.lookup T (.map (some b)) k true).run P w = .ok (.tuple #[.int .i64 0, .bool false]) w := by
  obtain ⟨es, clock, hb, hks, hkl, -⟩ := h
  rcases Kd.find w hk es.toList hkl with ⟨f1, -⟩ | ⟨j, e0, f2, hj, he⟩
  · simp [Instr.lookup, run_underlying hT, MapKept.run_getObj_map hb, Kd.check w _ hk, f1, hz, Result.andThen]
  · exact absurd (by rw [← hks, ← he]; exact List.mem_map_of_mem (List.mem_of_getElem? hj)) hn
theorem MapI.lookOld (h : MapI P K w b ks) (Kd : Keyed P K) (hT : P.underlying T = some (.map K E)) (hk : keyOf P K k = some lk) {i : Nat} (hi : ks[i]? = some k) :
    (Instr.lookup T (.map (some b)) k true).run P w = .ok (.tuple #[.int .i64 i, .bool true]) w ∧ (Instr.lookup T (.map (some b)) k false).run P w = .ok (.int .i64 i) w := by
  obtain ⟨es, clock, hb, hks, hkl, hv, hnd⟩ := h
  have hi2 : (es.toList.map (·.key))[i]? = some k := by rw [hks]; exact hi
  rw [List.getElem?_map] at hi2
  obtain ⟨e0, h0, he⟩ := Option.map_eq_some_iff.1 hi2
  have f := find_is Kd hk hkl (by rw [hks]; exact hnd) h0 he w
  rw [hv i e0 h0] at f
  constructor <;> simp [Instr.lookup, run_underlying hT, MapKept.run_getObj_map hb, Kd.check w _ hk, f, Result.andThen]
theorem MapI.put (h : MapI P K w b ks) (Kd : Keyed P K) (hT : P.underlying T = some (.map K E)) (hk : keyOf P K k = some lk) (hn : k ∉ ks) :
    ∃ w', (Instr.mapUpdate T (.map (some b)) k (.int .i64 ks.length)).run P w = .ok () w' ∧ MapI P K w' b (ks ++ [k]) ∧ w.grownBy w' (some b) := by
  obtain ⟨es, clock, hb, hks, hkl, hv, hnd⟩ := h
  rcases Kd.find w hk es.toList hkl with ⟨f1, -⟩ | ⟨j, e0, f2, hj, he⟩
  · refine ⟨_, ?_, ?_, grown_set w b (.map (es.push ⟨k, .int .i64 ks.length, clock⟩) (clock + 1))⟩
    · simp [Instr.mapUpdate, run_underlying hT, MapKept.run_getObj_map hb, Kd.check w _ hk, f1, Result.andThen, MapKept.run_setObj_map _ hb]
    · have e1 : (es.push (⟨k, .int .i64 ks.length, clock⟩ : MapEntry)).toList = es.toList ++ [⟨k, .int .i64 ks.length, clock⟩] := by simp
      refine ⟨_, _, heap_at hb _, by rw [e1, List.map_append, hks]; rfl, ?_, ?_, ?_⟩
      · rw [e1]
        intro x hx
        rcases List.mem_append.1 hx with hx | hx
        · exact hkl x hx
        · rw [List.mem_singleton.1 hx]; exact ⟨lk, hk⟩
      · rw [e1]
        intro i x hx
        by_cases hil : i < es.toList.length
        · rw [List.getElem?_append_left hil] at hx
          exact hv i x hx
        · rw [List.getElem?_append_right (by omega)] at hx
          have h1 := (List.getElem?_eq_some_iff.1 hx).1
          simp only [List.length_singleton] at h1
          have hie : i = es.toList.length := by omega
          subst hie
          rw [Nat.sub_self] at hx
          simp only [List.getElem?_cons_zero, Option.some.injEq] at hx
          rw [← hx, ← hks, List.length_map]
      · rw [List.nodup_append]
        exact ⟨hnd, by simp, fun x hx y hy e => hn (by simp at hy; rw [← hy, ← e]; exact hx)⟩
  · exact absurd (by rw [← hks, ← he]; exact List.mem_map_of_mem (List.mem_of_getElem? hj)) hn
theorem wpList_lenI {ops : Array Oper} {rest : List Oper} {o : Oper} {a : Act} {Q : Exit → Act → World → Prop} (hg : o.guard = none) (m : Operand) (t : TypeId) (hop : o.op = Op.call { callee := Callee.builtin Builtin.len, args := #[m], argTypes := #[t] })
    (ht : P.underlying t = some (.map K E)) (b : Nat) (ks : List Value) (hm : a.eval m = .map (some b)) (h : MapI P K w b ks) (hK : wpList P ops Q rest (a.put o.dst (.int .i64 ks.length)) w) : wpList P ops Q (o :: rest) a w := by
  refine wpList_plain hg fun K' hK' => ?_
  unfold Oper.wp
  simp [execOp, hop, resolve, invoke, builtin, hm, h.len ht o.type, Result.andThen]
  exact hK' _ _ hK
end
end Go.Cm

/- The walk of the program's Classes: the classes so far are split, set by set. Conditions: the edges' sets are words. -/
namespace Go.Cm
open Go.RowKit Go.Proofs Go.Maps

/-- a byte's bit in a set, and its key: its class so far and that bit -/
def bitN (x : Ed) (c : Nat) : Int := wordN x (c / 64) / 2 ^ (c % 64) % 2
theorem hasN_bit (x : Ed) (c : Nat) : hasN x c = (bitN x c == 1) := by
  unfold hasN bitN wordN
  have h2 : (if c < 64 then x.a else if c < 128 then x.b else if c < 192 then x.c else x.d) = (if c / 64 = 0 then x.a else if c / 64 = 1 then x.b else if c / 64 = 2 then x.c else x.d) := by
    (repeat' split) <;> first | rfl | omega
  rw [h2]
theorem bitN_01 (x : Ed) (c : Nat) : bitN x c = 0 ∨ bitN x c = 1 := by unfold bitN; omega
def kC (l : List Ed) (x : Ed) (c : Nat) : Value := .agg #[.int .i64 (clsAt l c : Nat), .int .u64 (bitN x c)]
theorem kC_iff {l : List Ed} {x : Ed} {a b : Nat} : kC l x a = kC l x b ↔ keyP l x a = keyP l x b := by
  unfold kC keyP
  rw [hasN_bit, hasN_bit]
  rcases bitN_01 x a with h | h <;> rcases bitN_01 x b with h' | h' <;> simp [h, h'] <;> omega
theorem kC_mem {l : List Ed} {x : Ed} {F : List Nat} {c : Nat} : kC l x c ∈ F.map (kC l x) ↔ keyP l x c ∈ F.map (keyP l x) := by
  simp only [List.mem_map]
  exact ⟨fun ⟨a, ha, h⟩ => ⟨a, ha, kC_iff.1 h⟩, fun ⟨a, ha, h⟩ => ⟨a, ha, kC_iff.2 h⟩⟩
theorem split_step {l : List Ed} {x : Ed} {c : Nat} (hc : c < 256) {F : List Nat} (hF : pickBy (keyP l x) (byts.take c) = F) :
    (∃ i, (F.map (kC l x))[i]? = some (kC l x c) ∧ pickBy (keyP l x) (byts.take (c + 1)) = F ∧ place (keyP l x) byts c = i) ∨ (kC l x c ∉ F.map (kC l x) ∧ pickBy (keyP l x) (byts.take (c + 1)) = F ++ [c] ∧ place (keyP l x) byts c = F.length) := by
  have hcl : c < byts.length := by rw [byts_len]; exact hc
  by_cases hm : keyP l x c ∈ F.map (keyP l x)
  · left
    have h1 := idxOf_lt hm
    have h2 := getElem_idx hm
    rw [List.length_map] at h1
    rw [List.getElem_map] at h2
    have hq : F.getD (idx (F.map (keyP l x)) (keyP l x c)) 0 = F[idx (F.map (keyP l x)) (keyP l x c)] := by simp [List.getD, h1]
    have h3 := place_found (f := keyP l x) (l := byts) (z := 0) hcl (byts_get hc) hF h1 (fun a ha e => by
      have hal : a < F.length := by omega
      have := idxOf_le (F.map (keyP l x)) a (keyP l x c) (by rw [List.getElem?_map, List.getElem?_eq_getElem hal, Option.map_some, ← e]; simp [List.getD, hal])
      unfold idx at ha
      omega) (by rw [hq]; exact h2)
    refine ⟨_, ?_, h3.1, h3.2⟩
    rw [List.getElem?_map, List.getElem?_eq_getElem h1, Option.map_some, kC_iff.2 h2]
  · right
    have h3 := place_new (f := keyP l x) (l := byts) (z := 0) hcl (byts_get hc) hF (fun a ha e => hm (by rw [← e]; exact List.mem_map_of_mem (getD_mem _ _ _ ha)))
    exact ⟨fun h => hm (kC_mem.1 h), h3.1, h3.2⟩
theorem keyed_cls : Keyed Try.prog 59 := Keyed.of_law (deep_law_laid set_laid (m := 2) (by omega) (of_decide_eq_true (by kernel_rfl)) (by kernel_rfl) (by kernel_rfl))
theorem lits_i64 (d : Nat) {a : Int} (h : (Lit.int .i64 a).wf = true) : Try.prog.keyLits (d + 1) 3 [.int .i64 a] = some [.int .i64 a] := by
  unfold Program.keyLits
  simp [Try.underlying3, h]
theorem key_cls {l : List Ed} {x : Ed} {c : Nat} (hc : c < 256) : ∃ s, keyOf Try.prog 59 (kC l x c) = some s := by
  have h1 : (Lit.int .i64 (clsAt l c : Nat)).wf = true := by
    have h1 := clsAt_lt l hc
    have h2 := headAt_len l
    exact wf64 _ (by omega)
  have h2 : WQ (bitN x c) := by rcases bitN_01 x c with h | h <;> rw [h] <;> exact ⟨by decide, by decide⟩
  unfold kC
  generalize ((clsAt l c : Nat) : Int) = a at *
  generalize bitN x c = b at *
  obtain ⟨d, hd1⟩ : ∃ d, Try.prog.types.size = d + 1 := Nat.exists_eq_succ_of_ne_zero (of_decide_eq_true (by kernel_rfl))
  have c4 : Try.prog.cellsOf 59 = 2 := by kernel_rfl
  have c1 : Try.prog.cellsOf 53 = 1 := by kernel_rfl
  have c0 : Try.prog.cellsOf 3 = 1 := by kernel_rfl
  have hk : Try.prog.keyType 59 = true := by kernel_rfl
  have hl : Try.prog.keyLits (d + 1 + 1) 59 [.int .i64 a, .int .u64 b] = some [.int .i64 a, .int .u64 b] := by
    unfold Program.keyLits
    rw [Try.underlying59]
    have e0 := lits_i64 d h1
    have e1 := lits_u64 d h2
    simp [c0, c1, c4, e0, e1]
  unfold keyOf
  rw [Try.underlying59]
  simp only [hk, Bool.true_and]
  rw [hd1]
  have hf : (Value.agg #[.int .i64 a, .int .u64 b]).formed Try.prog 59 = true := by
    unfold Value.formed
    rw [Try.underlying59]
    simp [c4]
  rw [if_pos hf]
  have hv : (Value.agg #[.int .i64 a, .int .u64 b]).cells.toList = [.int .i64 a, .int .u64 b] := rfl
  rw [hv, hl]
  exact ⟨_, rfl⟩
/-- the classes so far: those of the sets that are done *)  -/
def ClsAt (l : List Ed) (cl : List Int) : Prop := cl.length = 256 ∧ ∀ c, c < 256 → cl.getD c 0 = (clsAt l c : Nat)
/-- .. and while one more set splits them: bytes below c are split, the others not yet -/
def ClsMid (l : List Ed) (x : Ed) (c : Nat) (cl : List Int) : Prop := cl.length = 256 ∧ ∀ q, q < 256 → cl.getD q 0 = if q < c then ((place (keyP l x) byts q : Nat) : Int) else (clsAt l q : Nat)
theorem clsMid_zero {l : List Ed} {x : Ed} {cl : List Int} (h : ClsAt l cl) : ClsMid l x 0 cl := ⟨h.1, fun q hq => by rw [if_neg (Nat.not_lt_zero q)]; exact h.2 q hq⟩
theorem clsMid_at {l : List Ed} {x : Ed} {c : Nat} {cl : List Int} (h : ClsMid l x c cl) (hc : c < 256) : cl.getD c 0 = (clsAt l c : Nat) := by rw [h.2 c hc, if_neg (Nat.lt_irrefl c)]
theorem clsMid_set {l : List Ed} {x : Ed} {c k : Nat} {cl : List Int} (h : ClsMid l x c cl) (hc : c < 256) (hk : place (keyP l x) byts c = k) : ClsMid l x (c + 1) (cl.set c (k : Int)) := by
  refine ⟨by rw [List.length_set]; exact h.1, fun q hq => ?_⟩
  by_cases hqc : q = c
  · subst hqc
    rw [getD_set_self' (by rw [h.1]; exact hq), if_pos (by omega), hk]
  · rw [getD_set_ne' (fun e => hqc e.symm), h.2 q hq]
    by_cases hlt : q < c
    · rw [if_pos hlt, if_pos (by omega)]
    · rw [if_neg hlt, if_neg (by omega)]
theorem clsMid_all {l : List Ed} {x : Ed} {cl : List Int} (h : ClsMid l x 256 cl) : ClsAt (l ++ [x]) cl := ⟨h.1, fun c hc => by rw [h.2 c hc, if_pos hc, (cls_step l x).2 c hc]⟩
theorem rep_get (n c : Nat) : (List.replicate n (0 : Int)).getD c 0 = 0 := by
  rw [List.getD_eq_getElem?_getD, List.getElem?_replicate]
  split <;> rfl
theorem clsAt_nil : ClsAt [] (List.replicate 256 0) := ⟨List.length_replicate, fun c hc => by rw [cls_nil.1 c hc]; exact rep_get 256 c⟩
theorem clsAt_all {e : List (List Ed)} {cl : List Int} (h : ClsAt (setsE e) cl) : cl = clsL e := cls_all h.1 fun i hi => by rw [h.2 i hi, (sets_cls e).2 i hi]; rfl
set_option maxRecDepth 100000 in
set_option maxHeartbeats 8000000 in
theorem classesP {w : World} {A : Array Value} {e : List (List Ed)} {F : Int} {r : List Int} (h : NfaV w A e F r) (hw : ∀ a x, x ∈ Row e a → EdW x) (ht : tot e ≤ 1000000) :
    Calls Try.prog 8 #[.agg A] w (RetCls e F r w) := by
  have HH := Lib.hid h
  obtain ⟨ve, vr, rfl, he, hr⟩ := h
  obtain ⟨oe, ce, be, fe, rfl, -, -⟩ := he.open
  obtain ⟨orr, cr, br, fr, rfl, -, -⟩ := hr.open
  obtain ⟨n, hn⟩ : ∃ n, n = e.length := ⟨_, rfl⟩
  obtain ⟨m, hm⟩ : ∃ m, m = r.length := ⟨_, rfl⟩
  rw [← hn, ← hm] at HH ⊢
  have hz := zero_cls
  obtain ⟨Z, hZ⟩ : ∃ Z, Z = zCls := ⟨_, rfl⟩
  rw [← hZ] at hz
  obtain ⟨O, hO⟩ : ∃ O : List Int, O = List.replicate 256 0 := ⟨_, rfl⟩
  have HON : Hid (ClsAt [] O) := Lib.hid (by rw [hO]; exact clsAt_nil)
  have HOL : Hid (O.length = 256) := Lib.hid HON.out.1
  have hsA : (w.alloc (.cells #[.slice oe n ce, .int .i64 F, .slice orr m cr] 25)).heap.size = w.heap.size + 1 := by simp
  have hbx : Own (w.alloc (.cells #[.slice oe n ce, .int .i64 F, .slice orr m cr] 25)) 0 25 (.slice (some ⟨w.heap.size, 0, none⟩) 3 3) [.slice oe n ce, .int .i64 F, .slice orr m cr] := by simpa using own_lit w 0 #[.slice oe n ce, .int .i64 F, .slice orr m cr] 25 (by simp) (Nat.zero_le _)
  have hb1 := boxZ (w.alloc (.cells #[.slice oe n ce, .int .i64 F, .slice orr m cr] 25)) Z hZ
  have hb2 := boxZ ((w.alloc (.cells #[.slice oe n ce, .int .i64 F, .slice orr m cr] 25)).alloc (.cells Z 28)) Z hZ
  rw [hsA] at hb1
  rw [show ((w.alloc (.cells #[.slice oe n ce, .int .i64 F, .slice orr m cr] 25)).alloc (.cells Z 28)).heap.size = w.heap.size + 2 by simp] at hb2
  rw [← hO] at hb1 hb2
  have HB2 := Lib.hid hb2
  have HB1 := Lib.hid (hb1.up (below_alloc _ (.cells Z 28)))
  have HBX := Lib.hid ((hbx.up (below_alloc _ (.cells Z 28))).up (below_alloc _ (.cells Z 28)))
  have HA : Hid (Below w.heap.size w (((w.alloc (.cells #[.slice oe n ce, .int .i64 F, .slice orr m cr] 25)).alloc (.cells Z 28)).alloc (.cells Z 28))) := Lib.hid (by repeat (first | exact Below.refl _ _ | assumption | refine b_drewN ?_ _ | refine Below.drew ?_ | refine b_ext' ?_ _ | refine b_alloc' ?_ _))
  have hs3 : (((w.alloc (.cells #[.slice oe n ce, .int .i64 F, .slice orr m cr] 25)).alloc (.cells Z 28)).alloc (.cells Z 28)).heap.size = w.heap.size + 3 := by simp
  have HRT := Lib.hid (rightP (HH.out.up HA.out))
  have HCO : Hid ((rightN e F r = true → clsO e F r = clsL e ∧ cntO e F r = (headN e).length) ∧ (rightN e F r = false → clsO e F r = O ∧ cntO e F r = 0)) := Lib.hid ⟨fun h => ⟨by unfold clsO; rw [if_pos h], by unfold cntO; rw [if_pos h]⟩, fun h => ⟨by unfold clsO; rw [if_neg (by rw [h]; decide), hO], by unfold cntO; rw [if_neg (by rw [h]; decide)]⟩⟩
  unfold RetCls
  obtain ⟨CO, hCO⟩ : ∃ CO, CO = clsO e F r := ⟨_, rfl⟩
  obtain ⟨KO, hKO⟩ : ∃ KO, KO = cntO e F r := ⟨_, rfl⟩
  rw [← hCO, ← hKO] at HCO ⊢
  obtain ⟨R, hR⟩ : ∃ R, R = rightN e F r := ⟨_, rfl⟩
  rw [← hR] at HRT HCO
  clear he hr hn hm hbx hb1 hb2 hsA hZ hO hCO hKO hR
  cases R with
  | false =>
    obtain ⟨hc1, hk1⟩ := HCO.out.2 rfl
    subst hc1 hk1
    go_enter Try.func8, Try.ntmps8
    go_upto_region 3 with (first
      | (refine wpList_load_cells rfl 25 _ rfl w.heap.size 0 3 rfl _ _ (nfaBox HBX.out) rfl Try.underlying25 rfl (by kernel_rfl) ?_)
      | ((with_reducible go_at_call 20); refine HRT.out.mono ?_; rintro en w1 ⟨rfl, x1, rfl⟩))
    have HE1 := Lib.hid (ext_below (((w.alloc (.cells #[.slice oe n ce, .int .i64 F, .slice orr m cr] 25)).alloc (.cells Z 28)).alloc (.cells Z 28)) x1)
    have HB21 := Lib.hid (HB2.out.up HE1.out)
    have HB11 := Lib.hid (HB1.out.up HE1.out)
    have HA1 := Lib.hid (HA.out.trans (HE1.out.mono HA.out.size))
    clear HE1 HB2 HB1 HA HBX hz
    generalize ext (((w.alloc (.cells #[.slice oe n ce, .int .i64 F, .slice orr m cr] 25)).alloc (.cells Z 28)).alloc (.cells Z 28)) x1 = w1 at *
    obtain ⟨B, hgB, hsB, hB⟩ := HB21.out.open
    have HBA := Lib.hid (congrArg List.toArray hB)
    clear hB
    go_wp2_with (first
      | (refine load_box rfl 28 256 _ rfl (w.heap.size + 2) rfl B hsB hgB _ Try.underlying28 rfl (by kernel_rfl) ?_)
      | (refine store_box rfl 28 256 _ _ rfl (w.heap.size + 1) rfl CO CO (congrArg Value.agg HBA.out) HOL.out (by kernel_rfl) HB11.out ?_; intro w2 hb2 hg2; have HB4 := Lib.hid hb2; have HG2 := Lib.hid hg2; clear hb2 hg2))
    refine ret_cell_tmp (s := 2) (b := 3) (ad := ⟨w.heap.size + 1, 0, none⟩) (x := .agg (ints CO).toArray) (y := .int .i64 0) rfl rfl rfl rfl (HB4.out.load _ Try.underlying28 rfl (by kernel_rfl)) ?_
    exact ⟨rfl, HA1.out.grown HG2.out HA1.out.size (fun k hk => by cases hk; omega)⟩
  | true =>
    have HC1 := Lib.hid (HCO.out.1 rfl).1
    have HK1 := Lib.hid (HCO.out.1 rfl).2
    clear HCO
    go_enter Try.func8, Try.ntmps8
    go_upto_region 4 with (first
      | (refine wpList_load_cells rfl 25 _ rfl w.heap.size 0 3 rfl _ _ (nfaBox HBX.out) rfl Try.underlying25 rfl (by kernel_rfl) ?_)
      | ((with_reducible go_at_call 20); refine HRT.out.mono ?_; rintro en w1 ⟨rfl, x1, rfl⟩))
    have HE1 := Lib.hid (ext_below (((w.alloc (.cells #[.slice oe n ce, .int .i64 F, .slice orr m cr] 25)).alloc (.cells Z 28)).alloc (.cells Z 28)) x1)
    have HB21 := Lib.hid (HB2.out.up HE1.out)
    have HB11 := Lib.hid (HB1.out.up HE1.out)
    have HBX1 := Lib.hid (HBX.out.up HE1.out)
    have HA1 := Lib.hid (HA.out.trans (HE1.out.mono HA.out.size))
    have hs1 := HE1.out.size
    rw [hs3] at hs1
    clear HE1 HB2 HB1 HA HBX hz HRT hs3
    generalize ext (((w.alloc (.cells #[.slice oe n ce, .int .i64 F, .slice orr m cr] 25)).alloc (.cells Z 28)).alloc (.cells Z 28)) x1 = w1 at *
    have HST := Lib.hid (setsP (HH.out.up HA1.out) hw ht)
    clear hw ht
    go_upto_region 6 with (first
      | (refine wpList_load_cells rfl 25 _ rfl w.heap.size 0 3 rfl _ _ (nfaBox HBX1.out) rfl Try.underlying25 rfl (by kernel_rfl) ?_)
      | ((with_reducible go_at_call 21); refine HST.out.mono ?_; rintro en w2 ⟨u, rfl, hown, hbel⟩; have hsl := hown.sl; (obtain ⟨ou, cu, bu, fu, rfl, hdu, hcu⟩ := hsl); rw [List.length_map] at hdu hcu ⊢; have HDU := Lib.hid hdu; have HCU0 := Lib.hid hcu; have HOW := Lib.hid hown; have HE2 := Lib.hid hbel; clear hown hbel hdu hcu))
    have hdu := HDU.out
    have hcu := HCU0.out
    have HFB : Hid (∀ x, w2.grownBy x (some (w.heap.size + 2)) → Below w.heap.size w x) := Lib.hid (fun x hx => (HA1.out.trans (HE2.out.mono HA1.out.size)).grown hx (by have := HA1.out.size; have := HE2.out.size; omega) (fun k hk => by cases hk; omega))
    have HB22 := Lib.hid (HB21.out.up HE2.out)
    have HR2 : Hid (∀ x, w2.grownBy x (some (w.heap.size + 2)) → BoxA x 28 256 (w.heap.size + 1) O) := Lib.hid (fun x hx => (HB11.out.up HE2.out).keep hx (by intro hh; injection hh with hh; omega))
    have hs2 : w.heap.size + 3 ≤ w2.heap.size := by have := HE2.out.size; omega
    clear HBX1 HB11 HB21 HA1 HE2 HH HST
    generalize hSS : setsE e = S at *
    have hixu := index_anyK (P := Try.prog) 4 51 55 Try.underlying51 (by kernel_rfl) hdu
    have HCU : Hid (∀ i, i < S.length → ∀ c, c < 4 → w2.cell? ⟨bu, fu + i * 4 + c, none⟩ = some ((#[.int .u64 (S.getD i zE).a, .int .u64 (S.getD i zE).b, .int .u64 (S.getD i zE).c, .int .u64 (S.getD i zE).d] : Array Value).getD c undef)) := Lib.hid (fun i hi c hc => by
      rw [hcu i hi c hc]
      have e1 : (S.map setC).getD i [] = setC (S.getD i zE) := by simp [List.getD, hi]
      rw [e1]
      unfold setC
      simp [List.getD, Array.getD_eq_getD_getElem?])
    have HBU : Hid (0 < S.length → w.heap.size + 3 ≤ bu ∧ bu < w2.heap.size) := Lib.hid (fun h0 => ⟨by have h1 := HOW.out.lt bu (by rw [hdu.hat h0]; rfl); omega, hdu.hblk h0⟩)
    have hmm := @run_makeMap Try.prog
    have hmu := hdu.len
    have HSS := Lib.hid hSS
    obtain ⟨N, hN⟩ : ∃ N, N = S.length := ⟨_, rfl⟩
    have HN := Lib.hid hN
    rw [← hN] at hixu HCU HBU hmu ⊢
    clear HDU HCU0 HOW hs1 hdu hcu hSS hN
    go_loopg [5, 20] N (fun gk nv iv wr => ∃ (i : Nat) (cl : List Int), iv = .int .i64 i ∧ i ≤ N ∧ nv = .int .i64 ((headAt (S.take i)).length : Nat) ∧ BoxA wr 28 256 (w.heap.size + 2) cl ∧ ClsAt (S.take i) cl ∧ w2.grownBy wr (some (w.heap.size + 2)) ∧ gk = N - i)
    case atStart => exact ⟨0, O, rfl, Nat.zero_le _, by rw [List.take_zero, cls_nil.2]; rfl, HB22.out, HON.out, grown_refl _ _, rfl⟩
    case round =>
      obtain ⟨i, cl, rfl, hi, rfl, hbx, hcl, hgr, rfl⟩ := hrel
      have HBXC := Lib.hid hbx
      have HCL := Lib.hid hcl
      have HG := Lib.hid hgr
      clear hbx hcl hgr HB22
      by_cases hlt : i < N
      · obtain ⟨hb3, hb4⟩ := HBU.out (by omega)
        have hgc := fun q (hq : q < 4) => HG.out.cell (HCU.out i hlt q hq) (by intro hh; injection hh with hh; simp at hh; omega)
        have HCD := Lib.hid hgc
        have hber : bu < wr.heap.size := by have := HG.out.size; omega
        have hixi : ∀ W, (Instr.indexAt 51 (.slice ou N cu) (.int .i64 i)).run Try.prog W = .ok (.pointer (some ⟨bu, fu + i * 4, none⟩)) W := fun W => by simpa using hixu W .i64 i (by omega) (by omega)
        obtain ⟨x, hx⟩ : ∃ x, x = S.getD i zE := ⟨_, rfl⟩
        have HTK : Hid (S.take (i + 1) = S.take i ++ [x]) := Lib.hid (by rw [hx]; exact take_succ_getD S i zE (by have := HN.out; omega))
        rw [← hx] at HCD
        generalize S.take i = l at *
        clear hgc hx hb3 hb4
        have HQ0 : Hid (∀ q, q < 4 → ((wr.alloc (.cells #[.int .u64 x.a, .int .u64 x.b, .int .u64 x.c, .int .u64 x.d] 55)).alloc (.map #[] 0)).cell? ⟨wr.heap.size, q, none⟩ = some (.int .u64 (wordN x q))) := Lib.hid (fun q hq => by
          rw [(below_alloc (wr.alloc (.cells #[.int .u64 x.a, .int .u64 x.b, .int .u64 x.c, .int .u64 x.d] 55)) (.map #[] 0)).cell (p := ⟨wr.heap.size, q, none⟩) (by simp), World.cell?_alloc_new]
          unfold wordN
          rcases (show q = 0 ∨ q = 1 ∨ q = 2 ∨ q = 3 by omega) with rfl | rfl | rfl | rfl <;> rfl)
        have HM0 : Hid (MapI Try.prog 59 ((wr.alloc (.cells #[.int .u64 x.a, .int .u64 x.b, .int .u64 x.c, .int .u64 x.d] 55)).alloc (.map #[] 0)) (wr.heap.size + 1) []) := Lib.hid (by
          have := MapI.made Try.prog 59 (wr.alloc (.cells #[.int .u64 x.a, .int .u64 x.b, .int .u64 x.c, .int .u64 x.d] 55))
          simpa using this)
        have hl2 : Below wr.heap.size wr ((wr.alloc (.cells #[.int .u64 x.a, .int .u64 x.b, .int .u64 x.c, .int .u64 x.d] 55)).alloc (.map #[] 0)) := (by repeat (first | exact Below.refl _ _ | assumption | refine b_drewN ?_ _ | refine Below.drew ?_ | refine b_ext' ?_ _ | refine b_alloc' ?_ _))
        have HBX0 := Lib.hid (HBXC.out.up hl2)
        have HG0 := Lib.hid (grown_trans HG.out (grown_below hl2 _))
        have hz0 : ((wr.alloc (.cells #[.int .u64 x.a, .int .u64 x.b, .int .u64 x.c, .int .u64 x.d] 55)).alloc (.map #[] 0)).heap.size = wr.heap.size + 2 := by simp
        have hws := HG.out.size
        clear hl2 HBXC HG
        go_wp2_with (refine wpList_load_cells rfl 55 _ rfl bu (fu + i * 4) 4 rfl _ _ HCD.out rfl Try.underlying55 rfl (by kernel_rfl) ?_)
        generalize hwo : ((wr.alloc (.cells #[.int .u64 x.a, .int .u64 x.b, .int .u64 x.c, .int .u64 x.d] 55)).alloc (.map #[] 0)) = wo at *
        obtain ⟨mb, hmb⟩ : ∃ mb, mb = wr.heap.size + 1 := ⟨_, rfl⟩
        obtain ⟨pb, hpb⟩ : ∃ pb, pb = wr.heap.size := ⟨_, rfl⟩
        rw [← hmb] at HM0 ⊢
        rw [← hpb] at HQ0 ⊢
        have HPM : Hid (pb < mb ∧ mb < wo.heap.size ∧ w2.heap.size ≤ pb) := Lib.hid (by omega)
        clear hwo hmb hpb hz0 HCD hixi hber hmm hws
        go_loopg [25] 256 (fun gk cv wr => ∃ (c : Nat) (cl : List Int), cv = .int .i64 c ∧ c ≤ 256 ∧ BoxA wr 28 256 (w.heap.size + 2) cl ∧ ClsMid l x c cl ∧ MapI Try.prog 59 wr mb ((pickBy (keyP l x) (byts.take c)).map (kC l x)) ∧ (∀ q, q < 4 → wr.cell? ⟨pb, q, none⟩ = some (.int .u64 (wordN x q))) ∧ w2.grownBy wr (some (w.heap.size + 2)) ∧ gk = 256 - c)
        case atStart => exact ⟨0, cl, rfl, Nat.zero_le _, HBX0.out, clsMid_zero HCL.out, by rw [List.take_zero]; exact HM0.out, HQ0.out, HG0.out, rfl⟩
        case round =>
          obtain ⟨c, cl, rfl, hc, hbx, hcl, hmp, hq, hgr, rfl⟩ := hrel
          have HBXC := Lib.hid hbx
          have HCM := Lib.hid hcl
          have HMP := Lib.hid hmp
          have HQ := Lib.hid hq
          have HG := Lib.hid hgr
          have hmlt := hmp.lt
          clear hbx hcl hmp hq hgr HBX0 HM0 HQ0 HG0 HCL
          by_cases hltc : c < 256
          · have hcI : (c : Int) < 256 := by omega
            have d0 : decide ((c : Int) < 256) = true := decide_eq_true hcI
            have hcc : wr.cell? ⟨w.heap.size + 1 + 1, c, none⟩ = some (.int .i64 (clsAt l c : Nat)) := by
              have := HBXC.out.cell (c := c) hltc
              rw [clsMid_at HCM.out hltc] at this
              exact this
            have hqq := HQ.out (c / 64) (by omega)
            have hpw : w.heap.size + 1 + 1 < wr.heap.size := HBXC.out.lt
            have hpb2 : pb < wr.heap.size := by have := HPM.out; omega
            have hm64 : c % 64 < 64 := Nat.mod_lt _ (by decide)
            have hd64 : c / 64 < 4 := by omega
            have h1 := bits_one
            have HBN : Hid (wordN x (c / 64) / 2 ^ (c % 64) % 2 = bitN x c) := Lib.hid rfl
            obtain ⟨lk, hlk⟩ := key_cls (l := l) (x := x) hltc
            have hkC : kC l x c = .agg #[.int .i64 (clsAt l c : Nat), .int .u64 (bitN x c)] := rfl
            have HSP := Lib.hid (split_step (l := l) (x := x) hltc (F := pickBy (keyP l x) (byts.take c)) rfl)
            have hkz : clsAt l c < 256 := Nat.lt_of_lt_of_le (clsAt_lt l hltc) (headAt_len l)
            generalize hFF : pickBy (keyP l x) (byts.take c) = Fq at *
            have HFL : Hid (Fq.length ≤ 256) := Lib.hid (by
              have := pickBy_len (keyP l x) (byts.take c)
              rw [List.length_take, byts_len, hFF] at this
              omega)
            have HKV := Lib.hid hkC
            have HLK := Lib.hid hlk
            clear hFF hkC hlk
            generalize clsAt l c = kc at *
            rw [HKV.out] at HSP HLK
            generalize wordN x (c / 64) = v at *
            generalize bitN x c = bt at *
            have hl7 : Below wr.heap.size wr (wr.alloc (.cells #[.int .i64 kc, .int .u64 bt] 59)).drew := (by repeat (first | exact Below.refl _ _ | assumption | refine b_drewN ?_ _ | refine Below.drew ?_ | refine b_ext' ?_ _ | refine b_alloc' ?_ _))
            have HQK : Hid (∀ q, q < 2 → (wr.alloc (.cells #[.int .i64 kc, .int .u64 bt] 59)).drew.cell? ⟨wr.heap.size, 0 + q, none⟩ = some ((#[.int .i64 kc, .int .u64 bt] : Array Value).getD q undef)) := Lib.hid (fun q hq => by
              rw [Nat.zero_add]
              show (wr.alloc (.cells #[.int .i64 kc, .int .u64 bt] 59)).cell? ⟨wr.heap.size, q, none⟩ = _
              rw [World.cell?_alloc_new]
              rcases (show q = 0 ∨ q = 1 by omega) with rfl | rfl <;> rfl)
            have HL7 := Lib.hid hl7
            clear hl7
            go_wp2
            refine wp_region_tailg [0,1,2,3,4,5,6,7,8,9,10,11,12] [13] [14] (by kernel_rfl) (by kernel_rfl) ?_
            simp only [pick, List.map_cons, List.map_nil, List.getD_cons_zero, List.getD_cons_succ]
            repeat (go_big_quiet_step (fail))
            refine wpQuiet_nil ?_
            (unfold wpAct; go_wp2; refine ⟨ex_ext (by repeat (first | exact Below.refl _ _ | assumption | refine b_drewN ?_ _ | refine Below.drew ?_ | refine b_ext' ?_ _ | refine b_alloc' ?_ _)), ?_⟩)
            unfold wpAct
            rw [HBN.out]
            unfold wpAct
            go_wp2
            refine ⟨trivial, ?_⟩
            unfold wpAct
            have HM7 := Lib.hid (HMP.out.up HL7.out)
            have HB7 := Lib.hid (HBXC.out.up HL7.out)
            have HG7 := Lib.hid (grown_trans HG.out (grown_below HL7.out _))
            have HQ7 : Hid (∀ q, q < 4 → (wr.alloc (.cells #[.int .i64 kc, .int .u64 bt] 59)).drew.cell? ⟨pb, q, none⟩ = some (.int .u64 (wordN x q))) := Lib.hid (fun q hq => (HL7.out.cell (p := ⟨pb, q, none⟩) hpb2).trans (HQ.out q hq))
            have hs7 : (wr.alloc (.cells #[.int .i64 kc, .int .u64 bt] 59)).drew.heap.size = wr.heap.size + 1 := by simp
            clear hcc hqq hpw HMP HBXC HG HQ HL7
            generalize (wr.alloc (.cells #[.int .i64 kc, .int .u64 bt] 59)).drew = w7 at *
            obtain ⟨pk, hpk⟩ : ∃ pk, pk = wr.heap.size := ⟨_, rfl⟩
            rw [← hpk] at HQK ⊢
            have hpk1 : pk < w7.heap.size := by omega
            have hpk2 : pb < pk := by omega
            have hpk3 : mb < pk := by omega
            clear hpk hs7 hpb2 hmlt
            rcases HSP.out with ⟨ix, hx1, hx2, hx3⟩ | ⟨hx1, hx2, hx3⟩
            · obtain ⟨e1, e2⟩ := HM7.out.lookOld keyed_cls Try.underlying56 HLK.out hx1
              have HX2 := Lib.hid hx2
              have HX3 := Lib.hid hx3
              have hcc : w7.cell? ⟨w.heap.size + 1 + 1, c, none⟩ = some (.int .i64 (cl.getD c 0)) := HB7.out.cell hltc
              have hff : w7.frozen? ⟨w.heap.size + 1 + 1, c, none⟩ = false := HB7.out.free c
              have hpw : w.heap.size + 1 + 1 < w7.heap.size := HB7.out.lt
              have HST := Lib.hid (HB7.out.set c ix)
              generalize cl.getD c 0 = y0 at *
              clear hx1 hx2 hx3
              go_wp2_with (refine wpList_load_cells rfl 59 _ rfl pk 0 2 rfl _ _ HQK.out rfl Try.underlying59 rfl (by kernel_rfl) ?_)
              go_roundg (256 - (c + 1))
              case measure => omega
              case rel =>
                have hgs := HST.out.2
                refine ⟨c + 1, cl.set c ix, by go_num, by omega, HST.out.1, clsMid_set HCM.out hltc HX3.out, ?_, fun q hq => hgs.cell (HQ7.out q hq) (by intro hh; injection hh with hh; have := HPM.out; simp at hh; omega), grown_trans HG7.out hgs, rfl⟩
                rw [HX2.out]
                exact HM7.out.keep hgs (by intro hh; injection hh with hh; have := HPM.out; omega)
            · have e1 := HM7.out.lookNew keyed_cls Try.underlying56 (zero_int w7) HLK.out hx1
              obtain ⟨w8, e2, hm8, hg8⟩ := HM7.out.put keyed_cls Try.underlying56 HLK.out hx1
              have hmap : Fq.map (kC l x) ++ [Value.agg #[.int .i64 kc, .int .u64 bt]] = (Fq ++ [c]).map (kC l x) := by rw [List.map_append, List.map_cons, HKV.out]; rfl
              rw [List.length_map] at e2
              rw [hmap] at hm8
              have e3 := (hm8.lookOld keyed_cls Try.underlying56 (i := Fq.length) HLK.out (by rw [← hmap, ← List.length_map (f := kC l x), List.getElem?_append_right (Nat.le_refl _), Nat.sub_self]; rfl)).2
              have HX2 := Lib.hid hx2
              have HX3 := Lib.hid hx3
              have HM8 := Lib.hid hm8
              have HB8 := Lib.hid (HB7.out.keep hg8 (by intro hh; injection hh with hh; have := HPM.out; omega))
              have HQK8 := Lib.hid (fun q hq => hg8.cell (HQK.out q hq) (by intro hh; injection hh with hh; simp at hh; omega))
              have HQ8 := Lib.hid (fun q hq => hg8.cell (HQ7.out q hq) (by intro hh; injection hh with hh; have := HPM.out; simp at hh; omega))
              have HG8 := Lib.hid (grown_row HG7.out hg8 (by have := HPM.out; omega))
              have hcc : w8.cell? ⟨w.heap.size + 1 + 1, c, none⟩ = some (.int .i64 (cl.getD c 0)) := HB8.out.cell hltc
              have hff : w8.frozen? ⟨w.heap.size + 1 + 1, c, none⟩ = false := HB8.out.free c
              have hpw : w.heap.size + 1 + 1 < w8.heap.size := HB8.out.lt
              have HST := Lib.hid (HB8.out.set c Fq.length)
              have hpk8 : pk < w8.heap.size := by have := hg8.size; omega
              generalize cl.getD c 0 = y0 at *
              have hlen := HM7.out.len Try.underlying56 3
              rw [List.length_map] at hlen
              clear hx1 hx2 hx3 hm8 hg8 hmap
              go_wp2_with (first | (refine wpList_load_cells rfl 59 _ rfl pk 0 2 rfl _ _ HQK.out rfl Try.underlying59 rfl (by kernel_rfl) ?_) | (refine wpList_load_cells rfl 59 _ rfl pk 0 2 rfl _ _ HQK8.out rfl Try.underlying59 rfl (by kernel_rfl) ?_))
              go_roundg (256 - (c + 1))
              case measure => omega
              case rel =>
                have hgs := HST.out.2
                refine ⟨c + 1, cl.set c Fq.length, by go_num, by omega, HST.out.1, clsMid_set HCM.out hltc HX3.out, ?_, fun q hq => hgs.cell (HQ8.out q hq) (by intro hh; injection hh with hh; have := HPM.out; simp at hh; omega), grown_trans HG8.out hgs, rfl⟩
                rw [HX2.out]
                exact HM8.out.keep hgs (by intro hh; injection hh with hh; have := HPM.out; omega)
          · have hce : c = 256 := by omega
            subst hce
            have htk : byts.take 256 = byts := List.take_of_length_le (by rw [byts_len]; exact Nat.le_refl _)
            have HLEN : Hid (((pickBy (keyP l x) (byts.take 256)).map (kC l x)).length = (headAt (l ++ [x])).length) := Lib.hid (by rw [List.length_map, htk, (cls_step l x).1])
            have hlen := HMP.out.len Try.underlying56 3
            rw [HLEN.out] at hlen
            clear htk
            go_wp2
            go_roundg (N - (i + 1))
            case measure => omega
            case rel => exact ⟨i + 1, cl, by go_num, by omega, by rw [HTK.out], HBXC.out, by rw [HTK.out]; exact clsMid_all HCM.out, HG.out, rfl⟩
      · have hie : i = N := by omega
        subst hie
        have htk : S.take i = S := List.take_of_length_le (by have := HN.out; omega)
        have HKO : Hid ((headAt (S.take i)).length = KO) := Lib.hid (by rw [htk, HK1.out, ← HSS.out, (sets_cls e).1]; rfl)
        have HCA : Hid (cl = clsL e) := Lib.hid (clsAt_all (by rw [HSS.out, ← htk]; exact HCL.out))
        rw [HKO.out]
        obtain ⟨B, hgB, hsB, hB⟩ := HBXC.out.open
        have HBA : Hid (B = (ints CO).toArray) := Lib.hid (by rw [HC1.out, ← HCA.out]; exact congrArg List.toArray hB)
        have HR := Lib.hid (HR2.out _ HG.out)
        have hgB2 : wr.heap[w.heap.size + 1 + 1]? = some (.cells B 28 (0, 0)) := hgB
        clear hB htk
        go_wp2_with (first
          | (refine load_box rfl 28 256 _ rfl (w.heap.size + 1 + 1) rfl B hsB hgB2 _ Try.underlying28 rfl (by kernel_rfl) ?_)
          | (refine store_box rfl 28 256 _ _ rfl (w.heap.size + 1) rfl O CO (congrArg Value.agg HBA.out) (by rw [HC1.out]; exact clsL_len e) (by kernel_rfl) HR.out ?_; intro w3 hb2 hg2; have HB4 := Lib.hid hb2; have HG2 := Lib.hid hg2; clear hb2 hg2))
        refine ret_cell_tmp (s := 2) (b := 3) (ad := ⟨w.heap.size + 1, 0, none⟩) (x := .agg (ints CO).toArray) (y := .int .i64 KO) rfl rfl rfl rfl (HB4.out.load _ Try.underlying28 rfl (by kernel_rfl)) ?_
        exact ⟨rfl, (HFB.out _ HG.out).grown HG2.out (HFB.out _ HG.out).size (fun k hk => by cases hk; omega)⟩
end Go.Cm

/- The making of the automaton without choices, in plain Lean: what the loops keep; and the memory that it lies in. Conditions: none. -/
namespace Go.Cm
open Go.RowKit Go.Proofs Go.Maps

theorem foldl_addNew_in {α : Type} [DecidableEq α] {l ks : List α} {x : α} (h : x ∈ l) : x ∈ l.foldl addNew ks := by
  induction l generalizing ks with
  | nil => cases h
  | cons a l ih =>
    rw [List.foldl_cons]
    rcases List.mem_cons.1 h with rfl | h
    · obtain ⟨k, hk⟩ := foldl_addNew_prefix l (addNew ks x)
      rw [hk]
      exact List.mem_append_left _ (addNew_mem.2 (.inr rfl))
    · exact ih h
theorem nodup_idx {β : Type} [DecidableEq β] {l : List β} (hnd : l.Nodup) {k : Nat} {x : β} (hx : l[k]? = some x) : idx l x = k := by
  obtain ⟨hkl, h4⟩ := List.getElem?_eq_some_iff.1 hx
  have hmm : x ∈ l := List.mem_of_getElem? hx
  have h2 := getElem_idx hmm
  have h3 := idxOf_lt hmm
  rcases Nat.lt_trichotomy (idx l x) k with h | h | h
  · exact ((List.pairwise_iff_getElem.1 hnd _ k h3 hkl h) (h2.trans h4.symm)).elim
  · exact h
  · exact ((List.pairwise_iff_getElem.1 hnd k _ hkl h3 h) (h4.trans h2.symm)).elim
theorem head_least {e : List (List Ed)} {k : Nat} (hk : k < (headN e).length) : clsN e ((headN e).getD k 0) = k ∧ (headN e).getD k 0 < 256 ∧ ∀ q, q < (headN e).getD k 0 → clsN e q ≠ k := by
  obtain ⟨c, hc⟩ : ∃ c, c = (headN e).getD k 0 := ⟨_, rfl⟩
  rw [← hc]
  have hm : c ∈ headN e := by rw [hc]; exact getD_mem _ _ _ hk
  have hgk : (headN e)[k] = c := by
    rw [hc]
    generalize headN e = H at *
    simp [List.getD, hk]
  have hg : (headN e)[k]? = some c := by rw [List.getElem?_eq_getElem hk, hgk]
  have h256 : c < 256 := headAt_mem hm
  have hmap : (headN e).map (sigB (flatE e)) = uniq (byts.map (sigB (flatE e))) := pickBy_map _ _
  have hnd : ((headN e).map (sigB (flatE e))).Nodup := by rw [hmap]; exact uniq_nodup _
  have hget : ((headN e).map (sigB (flatE e)))[k]? = some (sigB (flatE e) c) := by rw [List.getElem?_map, hg, Option.map_some]
  have h1 : clsN e c = idx ((headN e).map (sigB (flatE e))) (sigB (flatE e) c) := rfl
  have hcls : clsN e c = k := by rw [h1]; exact nodup_idx hnd hget
  refine ⟨hcls, h256, fun q hq e1 => ?_⟩
  have hqb : q ∈ byts.take (q + 1) := by
    have : byts.take (q + 1) = byts.take q ++ [q] := take_succ_getD' (z := 0) (by rw [byts_len]; omega) (byts_get (by omega))
    rw [this]; simp
  have hlt := place_lt (f := sigB (flatE e)) hqb
  have hpl : place (sigB (flatE e)) (byts.take (q + 1)) q = clsN e q := by
    have := place_append (f := sigB (flatE e)) (m := byts.drop (q + 1)) hqb
    rw [List.take_append_drop] at this
    exact this.symm
  rw [hpl, e1] at hlt
  obtain ⟨tl, htl⟩ := pickBy_append (sigB (flatE e)) (byts.take (q + 1)) (byts.drop (q + 1))
  rw [List.take_append_drop] at htl
  have hg2 : (pickBy (sigB (flatE e)) (byts.take (q + 1)))[k]? = some c := by
    have h0 : (headN e) = pickBy (sigB (flatE e)) (byts.take (q + 1)) ++ tl := htl
    rw [h0, List.getElem?_append_left hlt] at hg
    exact hg
  have h5 := mem_pickBy (List.mem_of_getElem? hg2)
  have h6 : byts.take (q + 1) = List.range (q + 1) := by
    unfold byts
    rw [List.take_range, show min (q + 1) 256 = q + 1 by omega]
  rw [h6, List.mem_range] at h5
  omega
/-- what the bytes of a class are, read from the last one on -/
def FirstOk (e : List (List Ed)) (c : Nat) (l : List Nat) : Prop := l.length = (headN e).length ∧ ∀ k, k < l.length → l.getD k 0 < 256 ∧ ∀ q, c ≤ q → q < 256 → clsN e q = k → (∀ p, c ≤ p → p < q → clsN e p ≠ k) → l.getD k 0 = q
theorem first_zero (e : List (List Ed)) : FirstOk e 256 (List.replicate (headN e).length 0) := by
  refine ⟨List.length_replicate, fun k hk => ⟨?_, fun q h1 h2 _ _ => absurd h2 (by omega)⟩⟩
  rw [List.getD_eq_getElem?_getD, List.getElem?_replicate]
  split <;> decide
theorem clsN_lt (e : List (List Ed)) {c : Nat} (h : c < 256) : clsN e c < (headN e).length := clsAt_lt _ h
theorem first_step {e : List (List Ed)} {c : Nat} {l : List Nat} (h : FirstOk e (c + 1) l) (hc : c < 256) : FirstOk e c (l.set (clsN e c) c) := by
  refine ⟨by rw [List.length_set]; exact h.1, fun k hk => ?_⟩
  rw [List.length_set] at hk
  obtain ⟨h1, h2⟩ := h.2 k hk
  by_cases hkc : clsN e c = k
  · rw [hkc, getD_set_self' hk]
    refine ⟨hc, fun q hq hq2 hqk hall => ?_⟩
    rcases Nat.lt_or_eq_of_le hq with h3 | h3
    · exact absurd hkc (hall c (Nat.le_refl _) h3)
    · exact h3
  · rw [getD_set_ne' hkc]
    refine ⟨h1, fun q hq hq2 hqk hall => h2 q ?_ hq2 hqk fun p hp hp2 => hall p (by omega) hp2⟩
    rcases Nat.lt_or_eq_of_le hq with h3 | h3
    · exact h3
    · rw [h3] at hkc; exact absurd hqk hkc
theorem first_all {e : List (List Ed)} {l : List Nat} (h : FirstOk e 0 l) : l = headN e := by
  refine List.ext_getElem h.1 fun k h1 h2 => ?_
  obtain ⟨h3, h4, h5⟩ := head_least h2
  have h6 := (h.2 k h1).2 _ (Nat.zero_le _) h4 h3 (fun p _ hp => h5 p hp)
  simpa [List.getD, h1, h2] using h6

/-! the lists of states as they are met -/
/-- all states are states -/
def OkL (n : Nat) (L : List Nat) : Prop := L.length ≤ n ∧ ∀ s ∈ L, s < n
theorem okL_setL (n : Nat) (P : Nat → Prop) : OkL n (setL n P) := ⟨setL_len n P, fun _ hs => (mem_setL.1 hs).1⟩
theorem okL_step (e : List (List Ed)) (F : Int) (r st : List Int) (c : Nat) : OkL e.length (stepG e F r st c) := by
  unfold stepG stepN
  split
  · exact okL_setL _ _
  · exact ⟨Nat.zero_le _, fun _ hs => by cases hs⟩
theorem okL_clo (e : List (List Ed)) (F : Int) (r st : List Int) : OkL e.length (cloN e F r st) := by
  unfold cloN
  split
  · exact okL_setL _ _
  · exact ⟨Nat.zero_le _, fun _ hs => by cases hs⟩
theorem okL_nxt (e : List (List Ed)) (F : Int) (r : List Int) (L : List Nat) : ∀ x ∈ nxtN e F r L, OkL e.length x := by
  intro x hx
  obtain ⟨c, -, rfl⟩ := List.mem_map.1 hx
  exact okL_step _ _ _ _ _
theorem okL_fold {n : Nat} {l R : List (List Nat)} (hR : ∀ x ∈ R, OkL n x) (hl : ∀ x ∈ l, OkL n x) : ∀ x ∈ l.foldl addNew R, OkL n x := by
  induction l generalizing R with
  | nil => exact hR
  | cons a l ih =>
    rw [List.foldl_cons]
    refine ih (fun x hx => ?_) (fun x hx => hl x (List.mem_cons_of_mem _ hx))
    rcases addNew_mem.1 hx with h | rfl
    · exact hR x h
    · exact hl x List.mem_cons_self
theorem okL_two {n : Nat} (hn : n ≤ 3000) {R : List (List Nat)} (h : ∀ x ∈ R, OkL n x) : Two R := fun L hL => ⟨by have := (h L hL).1; omega, fun _ hs => by have := (h L hL).2 _ hs; omega⟩
/-- the state of the outer loop -/
structure GoAt (e : List (List Ed)) (F : Int) (r : List Int) (i : Nat) (R : List (List Nat)) : Prop where
  le : i ≤ R.length
  len : R.length ≤ 1000
  go : goS (nxtN e F r) [] (1001 - i) i R = listsN e F r
  ok : ∀ x ∈ R, OkL e.length x
  mem : ∀ k, k < i → ∀ x ∈ nxtN e F r (R.getD k []), x ∈ R
noncomputable def rowsAt (e : List (List Ed)) (F : Int) (r : List Int) (R : List (List Nat)) (i : Nat) : List (List Int) := (R.take i).map (rowS e F r R)
def rulesAt (r : List Int) (R : List (List Nat)) (i : Nat) : List Int := (R.take i).map (leastI r)
theorem goAt_zero (e : List (List Ed)) (F : Int) (r : List Int) : GoAt e F r 0 [cloN e F r [F]] :=
  ⟨Nat.zero_le _, by simp, rfl, fun x hx => by rw [List.mem_singleton.1 hx]; exact okL_clo _ _ _ _, fun k hk => absurd hk (Nat.not_lt_zero k)⟩
/-- one more row -/
noncomputable def moreR (e : List (List Ed)) (F : Int) (r : List Int) (i : Nat) (R : List (List Nat)) : List (List Nat) := (nxtN e F r (R.getD i [])).foldl addNew R
theorem GoAt.big {e : List (List Ed)} {F : Int} {r : List Int} {i : Nat} {R : List (List Nat)} (h : GoAt e F r i R) (hi : i < R.length) (hb : 1000 < (moreR e F r i R).length) : listsN e F r = none := by
  have h1 := h.go
  have h2 := h.len
  rw [show 1001 - i = (1000 - i) + 1 by omega] at h1
  unfold goS at h1
  rw [if_pos hi] at h1
  have h3 : 1000 < ((nxtN e F r (R.getD i [])).foldl addNew R).length := hb
  rw [if_pos h3] at h1
  exact h1.symm
theorem GoAt.next {e : List (List Ed)} {F : Int} {r : List Int} {i : Nat} {R : List (List Nat)} (h : GoAt e F r i R) (hi : i < R.length) (hb : (moreR e F r i R).length ≤ 1000) :
    GoAt e F r (i + 1) (moreR e F r i R) ∧ rowsAt e F r (moreR e F r i R) (i + 1) = rowsAt e F r R i ++ [rowS e F r (moreR e F r i R) (R.getD i [])] ∧ rulesAt r (moreR e F r i R) (i + 1) = rulesAt r R i ++ [leastI r (R.getD i [])] := by
  obtain ⟨k, hk⟩ := foldl_addNew_prefix (nxtN e F r (R.getD i [])) R
  have hk' : moreR e F r i R = R ++ k := hk
  have hget : ∀ j, j < R.length → (moreR e F r i R).getD j [] = R.getD j [] := fun j hj => by rw [hk', getD_append_left' hj]
  have htk : (moreR e F r i R).take (i + 1) = R.take i ++ [R.getD i []] := by
    rw [hk', List.take_append_of_le_length (by omega)]
    exact take_succ_getD R i [] hi
  refine ⟨⟨by rw [hk', List.length_append]; omega, hb, ?_, okL_fold h.ok (okL_nxt _ _ _ _), fun j hj x hx => ?_⟩, ?_, ?_⟩
  · have h1 := h.go
    have h2 := h.len
    rw [show 1001 - i = (1000 - i) + 1 by omega] at h1
    unfold goS at h1
    have h3 : ¬ 1000 < ((nxtN e F r (R.getD i [])).foldl addNew R).length := by have : (moreR e F r i R).length ≤ 1000 := hb; unfold moreR at this; omega
    rw [if_pos hi, if_neg h3] at h1
    rw [show 1001 - (i + 1) = 1000 - i by omega]
    exact h1
  · rw [hget j (by omega)] at hx
    rcases Nat.lt_succ_iff_lt_or_eq.1 hj with h1 | rfl
    · rw [hk']; exact List.mem_append_left _ (h.mem j h1 x hx)
    · exact foldl_addNew_in hx
  · unfold rowsAt
    rw [htk, List.map_append, List.map_cons, List.map_nil]
    refine congrArg (· ++ [rowS e F r (moreR e F r i R) (R.getD i [])]) (List.map_congr_left fun L hL => ?_)
    obtain ⟨j, hj, rfl⟩ := List.mem_iff_getElem.1 hL
    rw [List.length_take] at hj
    unfold rowS
    refine List.map_congr_left fun x hx => ?_
    have hxR : x ∈ R := h.mem j (by omega) x (by
      have : R.getD j [] = (R.take i)[j] := by simp [List.getD, show j < R.length by omega]
      rw [this]; exact hx)
    rw [hk', idxOf_append_left hxR]
  · unfold rulesAt
    rw [htk, List.map_append, List.map_cons, List.map_nil]
theorem GoAt.done {e : List (List Ed)} {F : Int} {r : List Int} {i : Nat} {R : List (List Nat)} (h : GoAt e F r i R) (hi : ¬ i < R.length) : listsN e F r = some R ∧ rowsAt e F r R i = (dfaS e F r R).next ∧ rulesAt r R i = (dfaS e F r R).rules := by
  have h1 := h.go
  have h2 := h.len
  have h3 := h.le
  rw [show 1001 - i = (1000 - i) + 1 by omega] at h1
  unfold goS at h1
  rw [if_neg hi] at h1
  have htk : R.take i = R := List.take_of_length_le (by omega)
  exact ⟨h1.symm, by unfold rowsAt; rw [htk]; rfl, by unfold rulesAt; rw [htk]; rfl⟩
/-- the state of the inner loop: what is numbered so far, and the row so far -/
noncomputable def midR (e : List (List Ed)) (F : Int) (r : List Int) (i : Nat) (R : List (List Nat)) (j : Nat) : List (List Nat) := ((nxtN e F r (R.getD i [])).take j).foldl addNew R
noncomputable def midRow (e : List (List Ed)) (F : Int) (r : List Int) (i : Nat) (R : List (List Nat)) (j : Nat) : List Int := ((nxtN e F r (R.getD i [])).take j).map (fun x => (idx (midR e F r i R j) x : Int)) ++ List.replicate ((headN e).length - j) 0
theorem mid_zero (e : List (List Ed)) (F : Int) (r : List Int) (i : Nat) (R : List (List Nat)) : midR e F r i R 0 = R ∧ midRow e F r i R 0 = List.replicate (headN e).length 0 := ⟨by simp [midR], by simp [midRow]⟩
theorem midRow_len (e : List (List Ed)) (F : Int) (r : List Int) (i : Nat) (R : List (List Nat)) {j : Nat} (hj : j ≤ (headN e).length) : (midRow e F r i R j).length = (headN e).length := by
  unfold midRow
  rw [List.length_append, List.length_map, List.length_take, nxtN_len, List.length_replicate]
  omega
theorem mid_step (e : List (List Ed)) (F : Int) (r : List Int) (i : Nat) (R : List (List Nat)) {j : Nat} (hj : j < (headN e).length) :
    midR e F r i R (j + 1) = addNew (midR e F r i R j) (stepG e F r (nz (R.getD i [])) ((headN e).getD j 0)) ∧
    midRow e F r i R (j + 1) = (midRow e F r i R j).set j (idx (addNew (midR e F r i R j) (stepG e F r (nz (R.getD i [])) ((headN e).getD j 0))) (stepG e F r (nz (R.getD i [])) ((headN e).getD j 0)) : Nat) := by
  have hl : j < (nxtN e F r (R.getD i [])).length := by rw [nxtN_len]; exact hj
  have hx : (nxtN e F r (R.getD i [])).getD j [] = stepG e F r (nz (R.getD i [])) ((headN e).getD j 0) := by
    unfold nxtN
    simp [List.getD, hj]
  have htk : (nxtN e F r (R.getD i [])).take (j + 1) = (nxtN e F r (R.getD i [])).take j ++ [stepG e F r (nz (R.getD i [])) ((headN e).getD j 0)] := by
    rw [← hx]; exact take_succ_getD _ j [] hl
  have h1 : midR e F r i R (j + 1) = addNew (midR e F r i R j) (stepG e F r (nz (R.getD i [])) ((headN e).getD j 0)) := by
    unfold midR
    rw [htk, List.foldl_append]
    rfl
  refine ⟨h1, ?_⟩
  unfold midRow
  rw [← h1, htk, List.map_append, List.map_cons, List.map_nil]
  have hml : (((nxtN e F r (R.getD i [])).take j).map (fun x => (idx (midR e F r i R j) x : Int))).length = j := by rw [List.length_map, List.length_take]; omega
  have hmap : ((nxtN e F r (R.getD i [])).take j).map (fun x => (idx (midR e F r i R (j + 1)) x : Int)) = ((nxtN e F r (R.getD i [])).take j).map (fun x => (idx (midR e F r i R j) x : Int)) := by
    refine List.map_congr_left fun x hx => ?_
    have hxm : x ∈ midR e F r i R j := foldl_addNew_in hx
    rw [h1, idxOf_addNew hxm]
  rw [hmap, List.set_append_right _ _ (by omega), hml, Nat.sub_self, List.append_assoc]
  refine congrArg _ ?_
  rw [show (headN e).length - j = ((headN e).length - (j + 1)) + 1 by omega, List.replicate_succ]
  rfl
theorem mid_all (e : List (List Ed)) (F : Int) (r : List Int) (i : Nat) (R : List (List Nat)) : midR e F r i R (headN e).length = moreR e F r i R ∧ midRow e F r i R (headN e).length = rowS e F r (moreR e F r i R) (R.getD i []) := by
  have htk : (nxtN e F r (R.getD i [])).take (headN e).length = nxtN e F r (R.getD i []) := List.take_of_length_le (by rw [nxtN_len]; exact Nat.le_refl _)
  have h1 : midR e F r i R (headN e).length = moreR e F r i R := by unfold midR moreR; rw [htk]
  refine ⟨h1, ?_⟩
  unfold midRow rowS
  rw [htk, h1, Nat.sub_self]
  simp
theorem mid_ok {e : List (List Ed)} {F : Int} {r : List Int} {i : Nat} {R : List (List Nat)} (h : ∀ x ∈ R, OkL e.length x) (j : Nat) : ∀ x ∈ midR e F r i R j, OkL e.length x :=
  okL_fold h fun x hx => okL_nxt e F r (R.getD i []) x (List.mem_of_mem_take hx)
theorem mid_pre (e : List (List Ed)) (F : Int) (r : List Int) (i : Nat) (R : List (List Nat)) (j : Nat) : ∃ k, midR e F r i R j = R ++ k := foldl_addNew_prefix _ _
theorem mid_count (e : List (List Ed)) (F : Int) (r : List Int) (i : Nat) (R : List (List Nat)) (j : Nat) (hj : j ≤ 256) : (midR e F r i R j).length ≤ R.length + 256 := by
  unfold midR
  have : ∀ (l ks : List (List Nat)), (l.foldl addNew ks).length ≤ ks.length + l.length := by
    intro l
    induction l with
    | nil => intro ks; simp
    | cons a l ih =>
      intro ks
      have := ih (addNew ks a)
      simp only [List.foldl_cons, List.length_cons]
      have h2 : (addNew ks a).length ≤ ks.length + 1 := by unfold addNew; split <;> simp
      omega
  have h1 := this ((nxtN e F r (R.getD i [])).take j) R
  rw [List.length_take] at h1
  omega
end Go.Cm

/- The automaton in the making and the maker of lists, side by side in memory. Conditions: none. -/
namespace Go.Cm
open Go.RowKit Go.Proofs Go.Maps

/-- all blocks of the maker -/
def MkF (q m : Nat) (lv : Value) (vs : List Value) (k : Nat) : Prop := k = q ∨ k = m ∨ ¬ OwnM.free lv vs (some k)
/-- all blocks of the automaton in the making -/
def DbF (g : Nat) (nv : Value) (nvs : List Value) (rv : Value) (k : Nat) : Prop := k = g ∨ rv.ownBlock = some k ∨ ¬ OwnM.free nv nvs (some k)
section
variable {S S' : Nat → Prop} {w w1 : World} {B E E' : Nat} {v : Value} {vs : List Value} {ll : List (List Value)}
theorem OwnM.gw (h : OwnM w B E E' v vs ll) (hg : Gw S w S' w1) (hs : ∀ k, S k → OwnM.free v vs (some k)) : OwnM w1 B E E' v vs ll :=
  ⟨hg.own h.outer (fun k hk hS => (hs k hS).1 k hk rfl), h.len, fun i hi => hg.own (h.rows i hi) (fun k hk hS => (hs k hS).2 i (by rw [h.len]; exact hi) k hk rfl), h.apart, h.off⟩
theorem OwnM.blkF (h : OwnM w B E E' v vs ll) {k : Nat} (hk : ¬ OwnM.free v vs (some k)) : B ≤ k ∧ k < w.heap.size := by
  refine ⟨Classical.byContradiction fun h1 => hk (h.free_below (by omega)), Classical.byContradiction fun h1 => hk (h.free_new (by omega))⟩
theorem OwnMap.gw {α : Type} [DecidableEq α] {P : Program} {K T : TypeId} {lit : α → Lit} {b : Nat} {ks : List α} (h : OwnMap P K T lit w b ks) (hg : Gw S w S' w1) (hn : ¬ S b) : OwnMap P K T lit w1 b ks := by
  obtain ⟨D, h1, h2⟩ := h
  have hlt := h1.lt
  obtain ⟨es, clock, hb, rest⟩ := h1
  exact ⟨D, ⟨es, clock, (hg.blk hlt hn).trans hb, rest⟩, h2⟩
theorem of_not_free {k : Nat} {P : Prop} (h : P → False) (hf : ¬ OwnM.free v vs (some k) → P) : OwnM.free v vs (some k) := Classical.byContradiction fun h1 => h (hf h1)
end
section
variable {S S' : Nat → Prop} {w w1 w2 : World} {B q m : Nat} {ve vr : Value} {F : Int} {lv : Value} {vs : List Value} {R : List (List Nat)}
theorem MkN.gw (h : MkN w B q m ve vr F lv vs R) (hg : Gw S w S' w1) (hs : ∀ k, S k → ¬ MkF q m lv vs k) : MkN w1 B q m ve vr F lv vs R :=
  ⟨hg.own h.box (fun k hk hS => hs k hS (.inl (by injection hk with hk; exact hk.symm))), h.lists.gw hg (fun k hS => of_not_free (hs k hS) fun hf => .inr (.inr hf)), h.map.gw hg (fun hS => hs m hS (.inr (.inl rfl))), h.mB, h.qm, h.offQ, h.offM⟩
theorem MkN.ltF (h : MkN w B q m ve vr F lv vs R) : ∀ k, MkF q m lv vs k → B ≤ k ∧ k < w.heap.size := fun k hk => by
  rcases hk with rfl | rfl | hk
  · exact h.box.lt _ rfl
  · exact ⟨h.mB, h.map.lt⟩
  · exact h.lists.blkF hk
theorem mks_mkf {k : Nat} (h : MkNS q m lv k) : MkF q m lv vs k := by
  rcases h with rfl | rfl | h
  · exact .inl rfl
  · exact .inr (.inl rfl)
  · exact .inr (.inr fun hf => hf.1 k h rfl)
end
structure DbN (w : World) (B g : Nat) (nv : Value) (nvs : List Value) (rv : Value) (cl : List Int) (rows : List (List Int)) (rules : List Int) : Prop where
  box : BoxD w g nv rv cl
  gB : B ≤ g
  rows : OwnM w B 23 3 nv nvs (rows.map ints)
  rls : Own w B 3 rv (ints rules)
  fg : OwnM.free nv nvs (some g)
  rg : rv.ownBlock ≠ some g
  fr : OwnM.free nv nvs rv.ownBlock
section
variable {S S' : Nat → Prop} {w w1 w2 : World} {B g : Nat} {nv rv v' : Value} {nvs : List Value} {cl : List Int} {rows : List (List Int)} {rules : List Int}
theorem DbN.gw (h : DbN w B g nv nvs rv cl rows rules) (hg : Gw S w S' w1) (hs : ∀ k, S k → ¬ DbF g nv nvs rv k) : DbN w1 B g nv nvs rv cl rows rules :=
  ⟨⟨hg.own h.box.own (fun k hk hS => hs k hS (.inl (by injection hk with hk; exact hk.symm))), h.box.len⟩, h.gB, h.rows.gw hg (fun k hS => of_not_free (hs k hS) fun hf => .inr (.inr hf)), hg.own h.rls (fun k hk hS => hs k hS (.inr (.inl hk))), h.fg, h.rg, h.fr⟩
theorem DbN.up (h : DbN w B g nv nvs rv cl rows rules) (hb : Below w.heap.size w w1) : DbN w1 B g nv nvs rv cl rows rules := h.gw (gw_below (fun _ => False) hb) (fun _ hf => hf.elim)
theorem DbN.ltF (h : DbN w B g nv nvs rv cl rows rules) : ∀ k, DbF g nv nvs rv k → B ≤ k ∧ k < w.heap.size := fun k hk => by
  rcases hk with rfl | hk | hk
  · exact ⟨h.gB, h.box.lt⟩
  · exact h.rls.lt k hk
  · exact h.rows.blkF hk
theorem free_push {x : Value} {k n : Nat} (h : OwnM.free nv nvs (some k)) (hx : x.ownBlock ≠ some k) (hk : ∀ j, v'.ownBlock = some j → nv.ownBlock = some j ∨ n ≤ j) (hn : k < n) : OwnM.free v' (nvs ++ [x]) (some k) := free_snoc h hx hk hn
theorem DbN.pushRow (h : DbN w B g nv nvs rv cl rows rules) {row : Value} {x : List Int} (hr : Own w B 3 row (ints x)) (hf : ∀ k, row.ownBlock = some k → ¬ DbF g nv nvs rv k) (hb : Below w.heap.size w w1) (ho : Own w2 B 23 v' (nvs ++ [row])) (hg : w1.grownBy w2 nv.ownBlock) (hk : ∀ k, v'.ownBlock = some k → nv.ownBlock = some k ∨ w1.heap.size ≤ k) :
    DbN (w2.setCell ⟨g, 256, none⟩ v') B g v' (nvs ++ [row]) rv cl (rows ++ [x]) rules ∧ Gw (fun k => DbF g nv nvs rv k ∨ row.ownBlock = some k) w (DbF g v' (nvs ++ [row]) rv) (w2.setCell ⟨g, 256, none⟩ v') := by
  have hgl := h.box.lt
  have hs1 := hb.size
  have hrow : OwnM.free nv nvs row.ownBlock := by
    cases hro : row.ownBlock with
    | none => exact OwnM.free_none
    | some k => exact of_not_free (hf k hro) fun hf => .inr (.inr hf)
  have hp := h.rows.push hr hrow (grown_below hb none) ho hg hk
  have hrg : row.ownBlock ≠ some g := fun e => hf g e (.inl rfl)
  have hng : nv.ownBlock ≠ some g := fun e => h.fg.1 g e rfl
  have hgf := free_push h.fg hrg hk (by omega)
  have hbx := (h.box.up hb).keep hg hng
  have hst := hbx.setN v'
  have hrls := (h.rls.up hb).keep hg (by
    cases hro : rv.ownBlock with
    | none => exact .inl rfl
    | some k => exact .inr (fun e => by have := h.fr.1 k e.symm; exact this hro))
  have hrvb : ∀ k, rv.ownBlock = some k → k < w.heap.size := fun k hk => (h.rls.lt k hk).2
  refine ⟨⟨hst.1, h.gB, ?_, hrls.keep hst.2 (by
    cases hro : rv.ownBlock with
    | none => exact .inl rfl
    | some k => exact .inr (fun e => h.rg (by rw [hro]; exact e))), hgf, h.rg, ?_⟩, ?_⟩
  · rw [List.map_append]
    exact hp.keep' hst.2 hgf
  · cases hro : rv.ownBlock with
    | none => exact OwnM.free_none
    | some k =>
      have h1 := h.fr
      rw [hro] at h1
      exact free_push h1 (fun e => hf k e (.inr (.inl hro))) hk (by have := hrvb k hro; omega)
  · have g1 : Gw (fun k => DbF g nv nvs rv k ∨ row.ownBlock = some k) w (fun k => DbF g nv nvs rv k ∨ row.ownBlock = some k) w1 := gw_below _ hb
    have g2 : Gw (fun k => DbF g nv nvs rv k ∨ row.ownBlock = some k) w1 (DbF g v' (nvs ++ [row]) rv) w2 := gw_grown hg (fun k hk => .inl (.inr (.inr (fun e => e.1 k hk rfl)))) (fun k hk2 => by
      rcases hk2 with h2 | h2 | h2
      · exact .inl (.inl (.inl h2))
      · exact .inl (.inl (.inr (.inl h2)))
      · by_cases hlt : k < w1.heap.size
        · refine .inl (Classical.byContradiction fun h3 => h2 (free_push ?_ (fun e => h3 (.inr e)) hk hlt))
          exact Classical.byContradiction fun h4 => h3 (.inl (.inr (.inr h4)))
        · exact .inr (by omega))
    exact (g1.trans g2).trans (gw_grown hst.2 (fun k hk => .inl (by injection hk with hk; exact hk.symm)) (fun k hk => .inl hk))
theorem DbN.pushRule (h : DbN w B g nv nvs rv cl rows rules) {x : Int} (hb : Below w.heap.size w w1) (ho : Own w2 B 3 v' (ints (rules ++ [x]))) (hg : w1.grownBy w2 rv.ownBlock) (hk : ∀ k, v'.ownBlock = some k → rv.ownBlock = some k ∨ w1.heap.size ≤ k) :
    DbN (w2.setCell ⟨g, 257, none⟩ v') B g nv nvs v' cl rows (rules ++ [x]) ∧ Gw (DbF g nv nvs rv) w (DbF g nv nvs v') (w2.setCell ⟨g, 257, none⟩ v') := by
  have hgl := h.box.lt
  have hs1 := hb.size
  have hvg : v'.ownBlock ≠ some g := fun e => by
    rcases hk g e with h1 | h1
    · exact h.rg h1
    · omega
  have hbx := (h.box.up hb).keep hg h.rg
  have hst := hbx.setR v'
  have hfv : OwnM.free nv nvs v'.ownBlock := by
    cases hro : v'.ownBlock with
    | none => exact OwnM.free_none
    | some k =>
      rcases hk k hro with h1 | h1
      · have := h.fr; rwa [h1] at this
      · exact h.rows.free_new (by omega)
  refine ⟨⟨hst.1, h.gB, ((h.rows.up hb).keep' hg h.fr).keep' hst.2 h.fg, ho.keep hst.2 (by
    cases hro : v'.ownBlock with
    | none => exact .inl rfl
    | some k => exact .inr (fun e => hvg (by rw [hro]; exact e))), h.fg, hvg, hfv⟩, ?_⟩
  have g1 : Gw (DbF g nv nvs rv) w (DbF g nv nvs rv) w1 := gw_below _ hb
  have g2 : Gw (DbF g nv nvs rv) w1 (DbF g nv nvs v') w2 := gw_grown hg (fun k hk => .inr (.inl hk)) (fun k hk2 => by
    rcases hk2 with h2 | h2 | h2
    · exact .inl (.inl h2)
    · rcases hk k h2 with h3 | h3
      · exact .inl (.inr (.inl h3))
      · exact .inr h3
    · exact .inl (.inr (.inr h2)))
  exact (g1.trans g2).trans (gw_grown hst.2 (fun k hk => .inl (by injection hk with hk; exact hk.symm)) (fun k hk => .inl hk))
end
end Go.Cm

/- The maker and the automaton in the making as one; and a build of an automaton from its classes. Conditions: none. -/
namespace Go.Cm
open Go.RowKit Go.Proofs Go.Maps

structure BothN (w : World) (B q m : Nat) (ve vr : Value) (F : Int) (lv : Value) (vs : List Value) (R : List (List Nat)) (g : Nat) (nv : Value) (nvs : List Value) (rv : Value) (cl : List Int) (rows : List (List Int)) (rules : List Int) : Prop where
  mkr : MkN w B q m ve vr F lv vs R
  db : DbN w B g nv nvs rv cl rows rules
  ap : ∀ k, MkF q m lv vs k → ¬ DbF g nv nvs rv k
section
variable {w w1 w2 w7 w8 : World} {B q m g : Nat} {ve vr lv lv' nv rv v' : Value} {F : Int} {vs vs' nvs : List Value} {R R' : List (List Nat)} {cl : List Int} {rows : List (List Int)} {rules : List Int}
theorem BothN.up (h : BothN w B q m ve vr F lv vs R g nv nvs rv cl rows rules) (hb : Below w.heap.size w w1) : BothN w1 B q m ve vr F lv vs R g nv nvs rv cl rows rules := ⟨h.mkr.up hb, h.db.up hb, h.ap⟩
theorem BothN.gw {S S' : Nat → Prop} (h : BothN w B q m ve vr F lv vs R g nv nvs rv cl rows rules) (hg : Gw S w S' w1) (h1 : ∀ k, S k → ¬ MkF q m lv vs k) (h2 : ∀ k, S k → ¬ DbF g nv nvs rv k) : BothN w1 B q m ve vr F lv vs R g nv nvs rv cl rows rules := ⟨h.mkr.gw hg h1, h.db.gw hg h2, h.ap⟩
theorem BothN.num (h : BothN w B q m ve vr F lv vs R g nv nvs rv cl rows rules) (hb : Below w.heap.size w w7) (hm : MkN w8 B q m ve vr F lv' vs' R') (hg : Gw (MkNS q m lv) w7 (MkNS q m lv') w8) (hf : ∀ k, k < w.heap.size → OwnM.free lv vs (some k) → OwnM.free lv' vs' (some k)) :
    BothN w8 B q m ve vr F lv' vs' R' g nv nvs rv cl rows rules ∧ ∀ k, k < w.heap.size → ¬ MkF q m lv vs k → ¬ MkF q m lv' vs' k := by
  have hk : ∀ k, k < w.heap.size → ¬ MkF q m lv vs k → ¬ MkF q m lv' vs' k := fun k hk hn h1 => by
    rcases h1 with rfl | rfl | h1
    · exact hn (.inl rfl)
    · exact hn (.inr (.inl rfl))
    · exact h1 (hf k hk (of_not_free hn fun hf => .inr (.inr hf)))
  exact ⟨⟨hm, (h.db.up hb).gw hg (fun k hk => h.ap k (mks_mkf hk)), fun k h1 h2 => hk k (h.db.ltF k h2).2 (fun h3 => h.ap k h3 h2) h1⟩, hk⟩
theorem BothN.pushRow (h : BothN w B q m ve vr F lv vs R g nv nvs rv cl rows rules) {row : Value} {x : List Int} (hr : Own w B 3 row (ints x)) (hf : ∀ k, row.ownBlock = some k → ¬ DbF g nv nvs rv k ∧ ¬ MkF q m lv vs k) (hb : Below w.heap.size w w1) (ho : Own w2 B 23 v' (nvs ++ [row])) (hg : w1.grownBy w2 nv.ownBlock) (hk : ∀ k, v'.ownBlock = some k → nv.ownBlock = some k ∨ w1.heap.size ≤ k) :
    BothN (w2.setCell ⟨g, 256, none⟩ v') B q m ve vr F lv vs R g v' (nvs ++ [row]) rv cl (rows ++ [x]) rules ∧ Below B w (w2.setCell ⟨g, 256, none⟩ v') := by
  obtain ⟨h1, h2⟩ := h.db.pushRow hr (fun k hk => (hf k hk).1) hb ho hg hk
  have hB : ∀ k, (DbF g nv nvs rv k ∨ row.ownBlock = some k) → B ≤ k ∧ k < w.heap.size := fun k hk => hk.elim (h.db.ltF k) (hr.lt k)
  refine ⟨⟨h.mkr.gw h2 (fun k hk hm => hk.elim (h.ap k hm) (fun e => (hf k e).2 hm)), h1, fun k hm hd => ?_⟩, h2.below (by have := (h.db.ltF g (.inl rfl)); omega) fun k hk => (hB k hk).1⟩
  rcases h2.sub k hd with h3 | h3
  · rcases h3 with h3 | h3
    · exact h.ap k hm h3
    · exact (hf k h3).2 hm
  · have := (h.mkr.ltF k hm).2; omega
theorem BothN.pushRule (h : BothN w B q m ve vr F lv vs R g nv nvs rv cl rows rules) {x : Int} (hb : Below w.heap.size w w1) (ho : Own w2 B 3 v' (ints (rules ++ [x]))) (hg : w1.grownBy w2 rv.ownBlock) (hk : ∀ k, v'.ownBlock = some k → rv.ownBlock = some k ∨ w1.heap.size ≤ k) :
    BothN (w2.setCell ⟨g, 257, none⟩ v') B q m ve vr F lv vs R g nv nvs v' cl rows (rules ++ [x]) ∧ Below B w (w2.setCell ⟨g, 257, none⟩ v') := by
  obtain ⟨h1, h2⟩ := h.db.pushRule hb ho hg hk
  refine ⟨⟨h.mkr.gw h2 (fun k hk hm => h.ap k hm hk), h1, fun k hm hd => ?_⟩, h2.below (by have := (h.db.ltF g (.inl rfl)); omega) fun k hk => (h.db.ltF k hk).1⟩
  rcases h2.sub k hd with h3 | h3
  · exact h.ap k hm h3
  · have := (h.mkr.ltF k hm).2; omega
/-- the row in the making lies apart -/
theorem BothN.row (h : BothN w B q m ve vr F lv vs R g nv nvs rv cl rows rules) {br : Nat} (h1 : ¬ MkF q m lv vs br) (h2 : ¬ DbF g nv nvs rv br) (i : Nat) (u : Value) (hg : w.grownBy (w.setCell ⟨br, i, none⟩ u) (some br)) : BothN (w.setCell ⟨br, i, none⟩ u) B q m ve vr F lv vs R g nv nvs rv cl rows rules :=
  h.gw (gw_grown (S := fun k => k = br) (S' := fun k => k = br) hg (fun k hk => by injection hk with hk; exact hk.symm) (fun _ hk => .inl hk)) (fun _ hk => hk ▸ h1) (fun _ hk => hk ▸ h2)
end
theorem fold_put (c : List Value) : ∀ (k : Nat) (A : Array Value), k + c.length ≤ A.size → ((c.zipIdx k).foldl (fun cs x => cs.setIfInBounds (0 + x.2) x.1) A).toList = A.toList.take k ++ c ++ A.toList.drop (k + c.length) := by
  induction c with
  | nil => intro k A _; simp
  | cons a c ih =>
    intro k A h
    rw [List.length_cons] at h
    rw [List.zipIdx_cons, List.foldl_cons, ih (k + 1) _ (by simp; omega)]
    rw [Nat.zero_add, Array.toList_setIfInBounds]
    have hk : k < A.toList.length := by simp; omega
    have h1 : (A.toList.set k a).take (k + 1) = A.toList.take k ++ [a] := by
      rw [List.take_succ_eq_append_getElem (by simpa using hk), List.take_set_of_le (Nat.le_refl _)]
      simp
    have h2 : (A.toList.set k a).drop (k + 1 + c.length) = A.toList.drop (k + (a :: c).length) := by
      rw [List.drop_set_of_lt (by omega), List.length_cons, show k + 1 + c.length = k + (c.length + 1) by omega]
    rw [h1, h2]
    simp
theorem built_dfa (v : Value) : Try.prog.built 33 [(0, v)] = Instr.fill (fun i => #[(0, 256), (256, 1), (257, 1)][i]?) zArr [(0, v)] := by kernel_rfl
theorem build_cls (cl : List Int) (hl : cl.length = 256) : ∃ D : Array Value, (∀ W : World, (Instr.build 33 #[(0, .agg (ints cl).toArray)]).run Try.prog W = .ok (.agg D) W) ∧ D.toList = ints cl ++ [.slice none 0 0, .slice none 0 0] := by
  obtain ⟨D, hD⟩ : ∃ D, D = (((ints cl).toArray.zipIdx).foldl (fun cs x => cs.setIfInBounds (0 + x.2) x.1) zArr) := ⟨_, rfl⟩
  have hs : (ints cl).toArray.size = 256 := by simp [hl]
  refine ⟨D, fun W => run_build W 33 _ D ?_, ?_⟩
  · show Try.prog.built 33 [(0, .agg (ints cl).toArray)] = some D
    rw [built_dfa]
    have hz := zArr_size
    generalize zArr = Z at *
    unfold Instr.fill
    have hc : (Value.agg (ints cl).toArray).cells = (ints cl).toArray := rfl
    simp only [hc, hs, hz, hD]
    rfl
  · have h1 := fold_put (ints cl) 0 zArr (by rw [zArr_size, ints_length, hl]; decide)
    rw [hD]
    have e1 : (((ints cl).toArray.zipIdx).foldl (fun cs x => cs.setIfInBounds (0 + x.2) x.1) zArr) = ((ints cl).zipIdx 0).foldl (fun cs x => cs.setIfInBounds (0 + x.2) x.1) zArr := by
      generalize zArr = Z
      simp
    rw [e1, h1, zArr_list, Nat.zero_add, ints_length, hl]
    have h3 : (ints (List.replicate 256 0)).length = 256 := by rw [ints_length, List.length_replicate]
    rw [List.drop_append_of_le_length (by rw [h3]; exact Nat.le_refl _), List.drop_of_length_le (by rw [h3]; exact Nat.le_refl _)]
    rfl
theorem wpList_build_anyD {P : Program} {ops : Array Oper} {rest : List Oper} {o : Oper} {a : Act} {w : World} {Q : Exit → Act → World → Prop} (hgd : o.guard = none) (t : TypeId) (F : Array (Nat × Operand)) (ho : o.op = .build t F)
    (G : Array (Nat × Value)) (hG : (F.map fun (i, x) => (i, a.eval x)) = G) (C : Array Value) (hb : ∀ W, (Instr.build t G).run P W = .ok (.agg C) W)
    (h : wpList P ops Q rest (a.put o.dst (.agg C)) w) : wpList P ops Q (o :: rest) a w := by
  subst hG
  refine wpList_plain hgd fun K hK => ?_
  unfold Oper.wp execOp
  simp only [ho, Sem.run_bind, hb, Result.andThen_ok]
  exact hK _ _ h
end Go.Cm

/- Automata and arrays of classes that lie in variables. Conditions: none. -/
namespace Go.Cm
open Go.RowKit Go.Proofs

theorem list_of_dfaV {w : World} {A : Array Value} {d : Dfa} (h : DfaV w A d) : ∃ vn vr, A.toList = ints d.cls ++ [vn, vr] ∧ vn.oneCell' = true ∧ vr.oneCell' = true := by
  obtain ⟨hs, hl, hc, ⟨vn, hn, hrw⟩, ⟨vr, hr, hru⟩⟩ := h
  obtain ⟨oa, cap, b, off, rfl, -, -⟩ := hrw.open
  obtain ⟨oq, capq, bq, offq, rfl, -, -⟩ := hru.open
  refine ⟨.slice oa d.next.length cap, .slice oq d.rules.length capq, ?_, rfl, rfl⟩
  apply List.ext_getElem?
  intro i
  have h256 : (ints d.cls).length = 256 := by rw [ints_length, hl]
  rw [Array.getElem?_toList]
  rcases Nat.lt_or_ge i 256 with h | h
  · rw [hc i h, List.getElem?_append_left (by omega)]
    simp [ints, List.getD, hl, h]
  · rw [List.getElem?_append_right (by omega), h256]
    rcases Nat.lt_or_ge i 258 with h2 | h2
    · obtain rfl | rfl : i = 256 ∨ i = 257 := by omega
      · rw [hn]; rfl
      · rw [hr]; rfl
    · rw [List.getElem?_eq_none (by simp; omega), Array.getElem?_eq_none (by omega)]
/-- an automaton stored into a new variable -/
theorem store_new {ops : Array Oper} {rest : List Oper} {o : Oper} {a : Act} {w w0 : World} {Q : Exit → Act → World → Prop} (hgd : o.guard = none) (x y : Operand) (ho : o.op = .store 33 x y)
    (g : Nat) (hx : a.eval x = .pointer (some ⟨g, 0, none⟩)) (C : Array Value) (hy : a.eval y = .agg C) {d : Dfa} (hC : DfaV w0 C d) {nv rv : Value} {cl : List Int} (hB : BoxD w g nv rv cl)
    (h : ∀ w', w'.heap[g]? = some (.cells C 33 (0, 0)) → w.grownBy w' (some g) → wpList Try.prog ops Q rest (a.put o.dst undef) w') : wpList Try.prog ops Q (o :: rest) a w := by
  obtain ⟨vn, vr, hl, h1, h2⟩ := list_of_dfaV hC
  refine store_dfa hgd x y ho g hx C hy hl hC.hlen h1 h2 hB fun w' hb hg => h w' ?_ hg
  obtain ⟨A, hA, -, hAl⟩ := hb.open
  rw [hA]
  have : A = C := by
    cases A; cases C
    simp only at hAl hl
    rw [hAl, hl]
  rw [this]
theorem dfa_len {w : World} {A : Array Value} {d : Dfa} (h : DfaV w A d) : ∃ oa cap, A[256]? = some (.slice oa d.next.length cap) := by
  obtain ⟨hs, hl, hc, ⟨vn, hn, hrw⟩, -⟩ := h
  obtain ⟨oa, cap, b, off, rfl, -, -⟩ := hrw.open
  exact ⟨oa, cap, hn⟩

theorem op_load_dfa {o : Oper} {a : Act} {w : World} {K : Act → World → Prop} {Q : Exit → Act → World → Prop} (x : Operand) (ho : o.op = .load 33 x) (g : Nat) (hx : a.eval x = .pointer (some ⟨g, 0, none⟩)) (A : Array Value) (hs : A.size = 258)
    (hg : w.heap[g]? = some (.cells A 33 (0, 0))) (h : K (a.put o.dst (.agg A)) w) : o.wp Try.prog a w K Q := by
  have hl := run_loadVar_sub (P := Try.prog) w g 0 258 33 33 A (0, 0) _ hg Try.underlying33 rfl (by kernel_rfl) (by rw [hs]; decide)
  have e : A.extract 0 (0 + 258) = A := by rw [Nat.zero_add, ← hs]; simp
  rw [e] at hl
  unfold Oper.wp execOp
  simp only [ho, hx, Instr.loadAt, Instr.sureAddr, Sem.run_bind, Sem.run_pure, Result.andThen_ok, hl]
  exact h
theorem BoxD.at {w : World} {g g' : Nat} {nv rv : Value} {cl : List Int} (h : BoxD w g nv rv cl) (e : g = g') : BoxD w g' nv rv cl := e ▸ h
theorem sameB_refl (d : Dfa) : sameB d d = true := by simp [sameB]
theorem same_same (v v' : Value) (d : Dfa) (w : World) (h : DfaAt w v d) (h' : DfaAt w v' d) :
    Calls Try.prog 12 #[v, v'] w fun e w' => e = .returned (.bool true) ∧ ∃ x, w' = ext w x := by
  have := same v v' d d w h h'
  rwa [sameB_refl] at this
/-- an automaton that lies in a variable -/
def DfaIn (w : World) (g : Nat) (A : Array Value) (d : Dfa) : Prop := w.heap[g]? = some (.cells A 33 (0, 0)) ∧ DfaV w A d
theorem DfaIn.up {w w' : World} {g : Nat} {A : Array Value} {d : Dfa} (h : DfaIn w g A d) (hb : Below w.heap.size w w') : DfaIn w' g A d := ⟨(hb.block g (lt_of_block h.1)).trans h.1, h.2.up hb⟩
theorem DfaIn.lt {w : World} {g : Nat} {A : Array Value} {d : Dfa} (h : DfaIn w g A d) : g < w.heap.size := lt_of_block h.1
theorem DfaIn.new {w w' : World} {A Z : Array Value} {d : Dfa} (h : DfaV w A d) (hg : w'.heap[w.heap.size]? = some (.cells A 33 (0, 0))) (hgr : (w.alloc (.cells Z 33)).grownBy w' (some w.heap.size)) : DfaIn w' w.heap.size A d ∧ Below w.heap.size w w' := by
  have hb : Below w.heap.size w w' := (below_alloc w (.cells Z 33)).grown hgr (by simp) (fun j hj => by cases hj; exact Nat.le_refl _)
  exact ⟨⟨hg, h.up hb⟩, hb⟩


/-- '==' on arrays of classes -/
theorem run_eql_cls {l m : List Int} (hl : l.length = 256) (hm : m.length = 256) (W : World) :
    (binOp .eql 28 (.agg (ints l).toArray) (.agg (ints m).toArray)).run Try.prog W = .ok (.bool (decide (l = m))) W := by
  have hx : ∀ (q : List Int), q.length = 256 → ∀ i, i < 256 → (ints q).toArray[i]? = some (.int .i64 (q.getD i 0)) := fun q hq i hi => by
    rw [List.getElem?_toArray]
    have h := ints_getD q i (by omega)
    rw [← h]
    have hi2 : i < (ints q).length := by rw [ints_length]; omega
    rw [List.getElem?_eq_getElem hi2, List.getD_eq_getElem?_getD, List.getElem?_eq_getElem hi2, Option.getD_some]
  have h := run_equalIn_ints (P := Try.prog) W 28 3 256 Try.underlying28 Try.underlying3 (by kernel_rfl) (ints l).toArray (ints m).toArray l m hl hm (hx l hl) (hx m hm) 9998
  simp only [binOp, Op.equal, Op.maxDepth]
  rw [Sem.run_bind, h]
  rfl
theorem eqGuard_cls2 (W : World) (x y : Operand) (X Y : Array Value) : (eqGuard .eql 28 x y (.agg X) (.agg Y)).run Try.prog W = .ok () W := run_eqGuard_agg W .eql 28 x y X Y (by kernel_rfl)
/-- an array that lies in a variable, as one value -/
theorem BoxA.arr {w : World} {T n g : Nat} {cl : List Int} (h : BoxA w T n g cl) : w.heap[g]? = some (.cells (ints cl).toArray T (0, 0)) ∧ (ints cl).toArray.size = n := by
  obtain ⟨A, hg, hs, hA⟩ := h.open
  have hAe : A = (ints cl).toArray := congrArg List.toArray hA
  rw [← hAe]
  exact ⟨hg, hs⟩
end Go.Cm
