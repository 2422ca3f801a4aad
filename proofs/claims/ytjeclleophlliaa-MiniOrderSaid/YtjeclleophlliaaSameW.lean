/- The walk of the document's Same over automata. Conditions: the arguments read as automata. -/
import Derived.Test.YtjeclleophlliaaRunW
namespace Go.Cm
open Go.RowKit Go.Proofs

theorem run_neq_cls {X Y : Array Value} {l m : List Int} (hl : l.length = 256) (hm : m.length = 256) (hx : ∀ i, i < 256 → X[i]? = some (.int .i64 (l.getD i 0))) (hy : ∀ i, i < 256 → Y[i]? = some (.int .i64 (m.getD i 0))) (W : World) :
    (binOp .neq 22 (.agg X) (.agg Y)).run Try.prog W = .ok (.bool (!decide (l = m))) W := by
  have h := run_equalIn_ints (P := Try.prog) W 22 3 256 Try.underlying22 Try.underlying3 (by kernel_rfl) X Y l m hl hm hx hy 9998
  simp only [binOp, Op.equal, Op.maxDepth]
  rw [Sem.run_bind, h]
  rfl
theorem eqGuard_cls (W : World) (x y : Operand) (X Y : Array Value) : (eqGuard .neq 22 x y (.agg X) (.agg Y)).run Try.prog W = .ok () W := run_eqGuard_agg W .neq 22 x y X Y (by kernel_rfl)

set_option maxRecDepth 100000 in
set_option maxHeartbeats 4000000 in
theorem same (v1 v2 : Value) (d e : Dfa) (w : World) (h1 : DfaAt w v1 d) (h2 : DfaAt w v2 e) :
    Calls Try.prog 13 #[v1, v2] w fun en w' => en = .returned (.bool (sameB d e)) ∧ ∃ x, w' = ext w x := by
  obtain ⟨A, rfl, hs, hl, hc, ⟨vn, hn, hrow⟩, ⟨vr, hr, hru⟩⟩ := h1
  obtain ⟨A', rfl, hs', hl', hc', ⟨vn', hn', hrow'⟩, ⟨vr', hr', hru'⟩⟩ := h2
  obtain ⟨oa, cap, b, off, rfl, hd, hro⟩ := hrow.open
  obtain ⟨oa', cap', b', off', rfl, hd', hro'⟩ := hrow'.open
  obtain ⟨oq, capq, bq, offq, rfl, hdq, hrq⟩ := hru.open
  obtain ⟨oq', capq', bq', offq', rfl, hdq', hrq'⟩ := hru'.open
  have hix := index_any (P := Try.prog) 23 24 Try.underlying23 (by kernel_rfl) hd
  have hix' := index_any (P := Try.prog) 23 24 Try.underlying23 (by kernel_rfl) hd'
  have hixq := index_any (P := Try.prog) 24 3 Try.underlying24 (by kernel_rfl) hdq
  have hixq' := index_any (P := Try.prog) 24 3 Try.underlying24 (by kernel_rfl) hdq'
  have hm := hd.len
  have hm' := hd'.len
  have hmq := hdq.len
  have hmq' := hdq'.len
  obtain ⟨B, hB⟩ : ∃ B, A.extract 0 256 = B := ⟨_, rfl⟩
  obtain ⟨B', hB'⟩ : ∃ B, A'.extract 0 256 = B := ⟨_, rfl⟩
  have hneq := run_neq_cls (X := B) (Y := B') hl hl' (fun i hi => by rw [← hB, Array.getElem?_extract, if_pos (by omega)]; simpa using hc i hi) (fun i hi => by rw [← hB', Array.getElem?_extract, if_pos (by omega)]; simpa using hc' i hi)
  have hgd := fun W x y => eqGuard_cls W x y B B'
  have HS := Lib.hid hs; clear hs hc hl
  have HS' := Lib.hid hs'; clear hs' hc' hl'
  have HB := Lib.hid hB; clear hB
  have HB' := Lib.hid hB'; clear hB'
  have HG : Hid (((w.alloc (.cells A 26)).alloc (.cells A' 26)).heap[w.heap.size]? = some (.cells A 26 (0, 0))) := Lib.hid (heap_alloc2_old w _ _)
  have HG' : Hid (((w.alloc (.cells A 26)).alloc (.cells A' 26)).heap[w.heap.size + 1]? = some (.cells A' 26 (0, 0))) := Lib.hid (heap_alloc2_new w _ _)
  have HR := Lib.hid hro; clear hro
  have HR' := Lib.hid hro'; clear hro'
  have HQ := Lib.hid hrq; clear hrq
  have HQ' := Lib.hid hrq'; clear hrq'
  by_cases hcls : d.cls = e.cls
  · have hdc : decide (d.cls = e.cls) = true := by simpa using hcls
    have HC := Lib.hid hcls; clear hcls
    rw [hdc] at hneq
    by_cases hln : d.next.length = e.next.length
    · have hb1 : ((d.next.length : Int) != (e.next.length : Int)) = false := by simp [hln]
      have HLN := Lib.hid hln; clear hln
      by_cases hlr : d.rules.length = e.rules.length
      · have hb2 : ((d.rules.length : Int) != (e.rules.length : Int)) = false := by simp [hlr]
        have HLR := Lib.hid hlr; clear hlr
        go_enter Try.func13, Try.ntmps13
        go_wp2_with (first | (refine load_cls rfl _ rfl w.heap.size rfl A B HS.out HB.out HG.out ?_) | (refine load_cls rfl _ rfl (w.heap.size + 1) rfl A' B' HS'.out HB'.out HG'.out ?_))
        have hw1 : ((w.alloc (.cells A 26)).alloc (.cells A' 26)).cell? ⟨w.heap.size, 256, none⟩ = some (.slice oa d.next.length cap) := by rw [World.cell?_alloc2_first]; exact hn
        have hw2 : ((w.alloc (.cells A 26)).alloc (.cells A' 26)).cell? ⟨w.heap.size + 1, 256, none⟩ = some (.slice oa' e.next.length cap') := by rw [World.cell?_alloc2_new]; exact hn'
        have hw3 : ((w.alloc (.cells A 26)).alloc (.cells A' 26)).cell? ⟨w.heap.size, 257, none⟩ = some (.slice oq d.rules.length capq) := by rw [World.cell?_alloc2_first]; exact hr
        have hw4 : ((w.alloc (.cells A 26)).alloc (.cells A' 26)).cell? ⟨w.heap.size + 1, 257, none⟩ = some (.slice oq' e.rules.length capq') := by rw [World.cell?_alloc2_new]; exact hr'
        have hbel : Below w.heap.size w ((w.alloc (.cells A 26)).alloc (.cells A' 26)) := (by repeat (first | exact Below.refl _ _ | assumption | refine b_drewN ?_ _ | refine Below.drew ?_ | refine b_ext' ?_ _ | refine b_alloc' ?_ _))
        generalize (w.alloc (.cells A 26)).alloc (.cells A' 26) = w1 at *
        have HBW := Lib.hid hbel; clear hbel
        go_loopw [5] (fun i wr => ∃ k : Nat, k ≤ d.next.length ∧ i = .int .i64 k ∧ Hid (d.next.take k = e.next.take k) ∧ ∃ n, wr = w1.drewN n) (fun i _ => d.next.length - (intOf i).toNat)
        case atStart => exact ⟨0, Nat.zero_le _, rfl, Lib.hid (by simp), 0, rfl⟩
        case round =>
          obtain ⟨k, hk, rfl, HT, n, rfl⟩ := hrel
          by_cases hlt : k < d.next.length
          · have hlt' : k < e.next.length := by have := HLN.out; omega
            obtain ⟨oi, ci, bi, fi, hck, hdk, hcj, -⟩ := HR.out k hlt
            obtain ⟨oi', ci', bi', fi', hck', hdk', hcj', -⟩ := HR'.out k hlt'
            have hb := hd.hblk (by omega)
            have hb' := hd'.hblk (by omega)
            have hck1 : w1.cell? ⟨b, off + k, none⟩ = _ := (HBW.out.cell (p := ⟨b, off + k, none⟩) hb).trans hck
            have hck1' : w1.cell? ⟨b', off' + k, none⟩ = _ := (HBW.out.cell (p := ⟨b', off' + k, none⟩) hb').trans hck'
            have hixk := index_any (P := Try.prog) 24 3 Try.underlying24 (by kernel_rfl) hdk
            have hixk' := index_any (P := Try.prog) 24 3 Try.underlying24 (by kernel_rfl) hdk'
            have hbi := hdk.hblk
            have hbi' := hdk'.hblk
            have hlk := hdk.hsml
            have hlk' := hdk'.hsml
            have HTS := Lib.hid (take_succ_getD d.next k [] hlt)
            have HTS' := Lib.hid (take_succ_getD e.next k [] hlt')
            have HNE : Hid (e.next.getD k [] ≠ d.next.getD k [] → sameB d e = false) := Lib.hid (fun h2 => by
              simp only [sameB, decide_eq_false_iff_not]; rintro ⟨-, h, -⟩; exact h2 (by rw [h]))
            generalize d.next.getD k [] = row at *
            generalize e.next.getD k [] = row' at *
            have HCJ := Lib.hid hcj; clear hcj
            have HCJ' := Lib.hid hcj'; clear hcj'
            clear hck hck' hdk hdk'
            by_cases hrl : row.length = row'.length
            · have hb3 : ((row.length : Int) != (row'.length : Int)) = false := by simp [hrl]
              have HRL := Lib.hid hrl; clear hrl
              go_wp2
              go_quiet (fail)
              go_wp2
              go_loopw [6] (fun i wr => ∃ j : Nat, j ≤ row.length ∧ i = .int .i64 j ∧ Hid (row.take j = row'.take j) ∧ ∃ n, wr = w1.drewN n) (fun i _ => row.length - (intOf i).toNat)
              case atStart => exact ⟨0, Nat.zero_le _, rfl, Lib.hid (by simp), _, World.drewN_drewN _ _ _⟩
              case round =>
                obtain ⟨j, hj, rfl, HTJ, n2, rfl⟩ := hrel
                by_cases hltj : j < row.length
                · have hltj' : j < row'.length := by have := HRL.out; omega
                  have hcc := (HBW.out.cell (p := ⟨bi, fi + j, none⟩) (hbi (by omega))).trans (HCJ.out j hltj)
                  have hcc' := (HBW.out.cell (p := ⟨bi', fi' + j, none⟩) (hbi' (by omega))).trans (HCJ'.out j hltj')
                  have HTT := Lib.hid (take_succ_getD row j 0 hltj)
                  have HTT' := Lib.hid (take_succ_getD row' j 0 hltj')
                  have HNE2 : Hid (row.getD j 0 ≠ row'.getD j 0 → row' ≠ row) := Lib.hid (fun h e => h (by rw [e]))
                  generalize row.getD j 0 = y at *
                  generalize row'.getD j 0 = y' at *
                  by_cases hy : y = y'
                  · subst hy
                    have hyb : (y != y) = false := by simp
                    go_wp2
                    go_quiet (fail)
                    go_wp2
                    go_roundw
                    case rel => exact ⟨j + 1, by omega, by go_num, Lib.hid (by rw [HTT.out, HTT'.out, HTJ.out]), _, rfl⟩
                    case measure => simp [intOf]; omega
                  · have hyb : (y != y') = true := by simpa using hy
                    go_wp2
                    go_quiet (fail)
                    go_wp2
                    go_ret
                    have h0 := HNE.out (HNE2.out hy)
                    exact ⟨ret_bool (by rw [h0]), ex_ext (b_drewN (b_drewN HBW.out _) _)⟩
                · go_wp2
                  go_roundw
                  case rel =>
                    have h0 := HTJ.out
                    rw [List.take_of_length_le (by omega), List.take_of_length_le (by have := HRL.out; omega)] at h0
                    exact ⟨k + 1, by omega, by go_num, Lib.hid (by rw [HTS.out, HTS'.out, HT.out, h0]), _, rfl⟩
                  case measure => simp [intOf]; omega
            · have hb3 : ((row.length : Int) != (row'.length : Int)) = true := by simp; omega
              have HNL : Hid (row' ≠ row) := Lib.hid (fun e => hrl (by rw [e]))
              clear hrl
              go_wp2
              go_quiet (fail)
              go_wp2
              go_ret
              have h0 := HNE.out HNL.out
              exact ⟨ret_bool (by rw [h0]), ex_ext (b_drewN (b_drewN HBW.out _) _)⟩
          · have HNX : Hid (d.next = e.next) := Lib.hid (by
              have h0 := HT.out
              rwa [List.take_of_length_le (by omega), List.take_of_length_le (by have := HLN.out; omega)] at h0)
            go_wp2
            go_loopw [7] (fun i wr => ∃ k : Nat, k ≤ d.rules.length ∧ i = .int .i64 k ∧ Hid (d.rules.take k = e.rules.take k) ∧ ∃ n, wr = w1.drewN n) (fun i _ => d.rules.length - (intOf i).toNat)
            case atStart => exact ⟨0, Nat.zero_le _, rfl, Lib.hid (by simp), _, rfl⟩
            case round =>
              clear hk hlt HT
              obtain ⟨k, hk, rfl, HT, n2, rfl⟩ := hrel
              by_cases hlt : k < d.rules.length
              · have hlt' : k < e.rules.length := by have := HLR.out; omega
                have hbq := hdq.hblk (by omega)
                have hbq' := hdq'.hblk (by omega)
                have hcc := (HBW.out.cell (p := ⟨bq, offq + k, none⟩) hbq).trans (HQ.out k hlt)
                have hcc' := (HBW.out.cell (p := ⟨bq', offq' + k, none⟩) hbq').trans (HQ'.out k hlt')
                have HTT := Lib.hid (take_succ_getD d.rules k 0 hlt)
                have HTT' := Lib.hid (take_succ_getD e.rules k 0 hlt')
                have HNE2 : Hid (d.rules.getD k 0 ≠ e.rules.getD k 0 → sameB d e = false) := Lib.hid (fun h => by
                  simp only [sameB, decide_eq_false_iff_not]; rintro ⟨-, -, e⟩; exact h (by rw [e]))
                generalize d.rules.getD k 0 = y at *
                generalize e.rules.getD k 0 = y' at *
                by_cases hy : y = y'
                · subst hy
                  have hyb : (y != y) = false := by simp
                  go_wp2
                  go_quiet (fail)
                  go_wp2
                  go_roundw
                  case rel => exact ⟨k + 1, by omega, by go_num, Lib.hid (by rw [HTT.out, HTT'.out, HT.out]), _, rfl⟩
                  case measure => simp [intOf]; omega
                · have hyb : (y != y') = true := by simpa using hy
                  go_wp2
                  go_quiet (fail)
                  go_wp2
                  go_ret
                  exact ⟨ret_bool (by rw [HNE2.out hy]), ex_ext (b_drewN (b_drewN HBW.out _) _)⟩
              · go_wp2
                go_ret
                have h0 := HT.out
                rw [List.take_of_length_le (by omega), List.take_of_length_le (by have := HLR.out; omega)] at h0
                exact ⟨ret_bool (by simp only [sameB]; symm; rw [decide_eq_true_eq]; exact ⟨HC.out, HNX.out, h0⟩), ex_ext (b_drewN HBW.out _)⟩
      · have hb2 : ((d.rules.length : Int) != (e.rules.length : Int)) = true := by simp; omega
        have HF : Hid (sameB d e = false) := Lib.hid (by simp only [sameB, decide_eq_false_iff_not]; rintro ⟨-, -, h⟩; exact hlr (by rw [h]))
        clear hlr
        go_enter Try.func13, Try.ntmps13
        go_wp2_with (first | (refine load_cls rfl _ rfl w.heap.size rfl A B HS.out HB.out HG.out ?_) | (refine load_cls rfl _ rfl (w.heap.size + 1) rfl A' B' HS'.out HB'.out HG'.out ?_))
        all_goals go_ret
        all_goals exact ⟨ret_bool (by rw [HF.out]), (ex_ext (by repeat (first | exact Below.refl _ _ | assumption | refine b_drewN ?_ _ | refine Below.drew ?_ | refine b_ext' ?_ _ | refine b_alloc' ?_ _)))⟩
    · have hb1 : ((d.next.length : Int) != (e.next.length : Int)) = true := by simp; omega
      have HF : Hid (sameB d e = false) := Lib.hid (by simp only [sameB, decide_eq_false_iff_not]; rintro ⟨-, h, -⟩; exact hln (by rw [h]))
      clear hln
      go_enter Try.func13, Try.ntmps13
      go_wp2_with (first | (refine load_cls rfl _ rfl w.heap.size rfl A B HS.out HB.out HG.out ?_) | (refine load_cls rfl _ rfl (w.heap.size + 1) rfl A' B' HS'.out HB'.out HG'.out ?_))
      all_goals go_ret
      all_goals exact ⟨ret_bool (by rw [HF.out]), (ex_ext (by repeat (first | exact Below.refl _ _ | assumption | refine b_drewN ?_ _ | refine Below.drew ?_ | refine b_ext' ?_ _ | refine b_alloc' ?_ _)))⟩
  · have hdc : decide (d.cls = e.cls) = false := by simpa using hcls
    have HF : Hid (sameB d e = false) := Lib.hid (by simp only [sameB, decide_eq_false_iff_not]; rintro ⟨h, -, -⟩; exact hcls h)
    clear hcls
    rw [hdc] at hneq
    go_enter Try.func13, Try.ntmps13
    go_wp2_with (first | (refine load_cls rfl _ rfl w.heap.size rfl A B HS.out HB.out HG.out ?_) | (refine load_cls rfl _ rfl (w.heap.size + 1) rfl A' B' HS'.out HB'.out HG'.out ?_))
    all_goals go_ret
    all_goals exact ⟨ret_bool (by rw [HF.out]), (ex_ext (by repeat (first | exact Below.refl _ _ | assumption | refine b_drewN ?_ _ | refine Below.drew ?_ | refine b_ext' ?_ _ | refine b_alloc' ?_ _)))⟩
end Go.Cm
