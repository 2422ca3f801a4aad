/- The walks of the functions that look at an automaton without changing it. Conditions: the arguments read as the data. -/
import Derived.Test.YtjeclleophlliaaMem
import Derived.Test.YtjeclleophlliaaDfaM
namespace Go.Cm
open Go.RowKit Go.Proofs

/-- an automaton as a value: its cells -/
structure DfaV (w : World) (A : Array Value) (d : Dfa) : Prop where
  hsize : A.size = 258
  hlen : d.cls.length = 256
  hcls : ∀ i, i < 256 → A[i]? = some (.int .i64 (d.cls.getD i 0))
  hnext : ∃ v, A[256]? = some v ∧ RowsAt w v d.next
  hrules : ∃ v, A[257]? = some v ∧ IntsAt w v d.rules
def DfaAt (w : World) (v : Value) (d : Dfa) : Prop := ∃ A, v = .agg A ∧ DfaV w A d
theorem DfaV.up {w w' : World} {A : Array Value} {d : Dfa} (h : DfaV w A d) (hb : Below w.heap.size w w') : DfaV w' A d :=
  ⟨h.hsize, h.hlen, h.hcls, h.hnext.imp fun _ h => ⟨h.1, h.2.up hb⟩, h.hrules.imp fun _ h => ⟨h.1, h.2.up hb⟩⟩
theorem DfaAt.up {w w' : World} {v : Value} {d : Dfa} (h : DfaAt w v d) (hb : Below w.heap.size w w') : DfaAt w' v d := by
  obtain ⟨A, rfl, h⟩ := h; exact ⟨A, rfl, h.up hb⟩
/-- an automaton read out of its variable -/
theorem load_dfa {ops : Array Oper} {rest : List Oper} {o : Oper} {a : Act} {w : World} {Q : Exit → Act → World → Prop} (hgd : o.guard = none) (x : Operand) (ho : o.op = .load 26 x)
    (g : Nat) (hx : a.eval x = .pointer (some ⟨g, 0, none⟩)) (A : Array Value) (hs : A.size = 258) (hg : w.heap[g]? = some (.cells A 26 (0, 0)))
    (h : wpList Try.prog ops Q rest (a.put o.dst (.agg A)) w) : wpList Try.prog ops Q (o :: rest) a w :=
  wpList_load_sub hgd 26 x ho g 0 258 hx 26 A A (0, 0) _ hg Try.underlying26 rfl (by kernel_rfl) (by rw [hs]; decide) (by rw [← hs]; simp) h
theorem load_cls {ops : Array Oper} {rest : List Oper} {o : Oper} {a : Act} {w : World} {Q : Exit → Act → World → Prop} (hgd : o.guard = none) (x : Operand) (ho : o.op = .load 22 x)
    (g : Nat) (hx : a.eval x = .pointer (some ⟨g, 0, none⟩)) (A B : Array Value) (hs : A.size = 258) (hB : A.extract 0 256 = B) (hg : w.heap[g]? = some (.cells A 26 (0, 0)))
    (h : wpList Try.prog ops Q rest (a.put o.dst (.agg B)) w) : wpList Try.prog ops Q (o :: rest) a w :=
  wpList_load_sub hgd 22 x ho g 0 256 hx 26 A B (0, 0) _ hg Try.underlying22 rfl (by kernel_rfl) (by rw [hs]; decide) (by simpa using hB) h
theorem run_index_cls {B : Array Value} {i : Nat} {y : Int} (hi : i < 256) (h : B[i]? = some (.int .i64 y)) (W : World) : (Instr.index 22 (.agg B) (.int .i64 (i : Int))).run Try.prog W = .ok (.int .i64 y) W := by
  have h1 : (sizeOf 3).run Try.prog W = .ok 1 W := by kernel_rfl
  have h2 : (isAgg 3).run Try.prog W = .ok false W := by kernel_rfl
  have h3 : (0 : Int) ≤ i ∧ (i : Int) < 256 := by omega
  simp [Instr.index, asIntOf, run_underlying Try.underlying22, h3, part, h1, h2, Result.andThen, h, show ¬ 256 ≤ i from by omega]
theorem ret_bool {a b : Bool} (h : a = b) : Ending.returned (.bool a) = .returned (.bool b) := by rw [h]
theorem ret_int {a b : Int} (h : a = b) : Ending.returned (.int .i64 a) = .returned (.int .i64 b) := by rw [h]

set_option maxHeartbeats 400000 in
theorem among (v : Value) (l : List Int) (n : Int) (w : World) (h : IntsAt w v l) :
    Calls Try.prog 26 #[v, .int .i64 n] w fun e w' => e = .returned (.bool (decide (n ∈ l))) ∧ ∃ x, w' = ext w x := by
  obtain ⟨oa, cap, b, off, rfl, hd, hc⟩ := h.open
  have hix := index_any (P := Try.prog) 24 3 Try.underlying24 (by kernel_rfl) hd
  have hm := hd.len
  go_enter Try.func26, Try.ntmps26
  go_wp2
  go_loop [5] (fun i => ∃ k : Nat, k ≤ l.length ∧ i = .int .i64 k ∧ n ∉ l.take k) (fun i => l.length - (intOf i).toNat)
  case atStart => exact ⟨0, Nat.zero_le _, rfl, by simp⟩
  case round =>
    obtain ⟨k, hk, rfl, hn⟩ := hrel
    have Hn := Lib.hid hn; clear hn
    by_cases hlt : k < l.length
    · have hck := hc k hlt
      have hb := hd.hblk (by omega)
      have HM := Lib.hid (mem_take_succ l k 0 n hlt)
      have HG := Lib.hid (getD_mem l k 0 hlt)
      generalize l.getD k 0 = y at *
      clear hc hd
      by_cases hy : y = n
      · subst hy
        go_wp2
        go_ret
        exact ⟨ret_bool (by simpa using HG.out), refl_ext _⟩
      · have hyb : (y == n) = false := by simpa using hy
        go_wp2
        go_round
        case rel => exact ⟨k + 1, by omega, by go_num, fun h => (HM.out.1 h).elim Hn.out (fun e => hy e.symm)⟩
        case measure => simp [intOf]; omega
    · go_wp2
      go_ret
      have hn := Hn.out
      rw [List.take_of_length_le (by omega)] at hn
      exact ⟨ret_bool (by simpa using hn), refl_ext _⟩

set_option maxHeartbeats 400000 in
theorem ints_eq (v v' : Value) (l l' : List Int) (w : World) (h : IntsAt w v l) (h' : IntsAt w v' l') :
    Calls Try.prog 14 #[v, v'] w fun e w' => e = .returned (.bool (decide (l = l'))) ∧ ∃ x, w' = ext w x := by
  obtain ⟨oa, cap, b, off, rfl, hd, hc⟩ := h.open
  obtain ⟨oa', cap', b', off', rfl, hd', hc'⟩ := h'.open
  have hix := index_any (P := Try.prog) 24 3 Try.underlying24 (by kernel_rfl) hd
  have hix' := index_any (P := Try.prog) 24 3 Try.underlying24 (by kernel_rfl) hd'
  have hm := hd.len
  have hm' := hd'.len
  by_cases hll : l.length = l'.length
  · have HL := Lib.hid hll
    have hbk : 0 < l.length → b < w.heap.size := hd.hblk
    have hbk' : 0 < l'.length → b' < w.heap.size := hd'.hblk
    have hlen : ∀ i, i < l.length → i < l'.length := fun i hi => by omega
    have HX := Lib.hid hlen
    have hnn : ((l.length : Int) != (l'.length : Int)) = false := by simp [hll]
    clear hll hlen hd hd'
    generalize hN : l.length = N at *
    generalize hM : l'.length = M at *
    have HN := Lib.hid hN; clear hN
    have HM := Lib.hid hM; clear hM
    go_enter Try.func14, Try.ntmps14
    go_wp2
    go_loopw [5] (fun i wr => ∃ k : Nat, k ≤ N ∧ i = .int .i64 k ∧ l.take k = l'.take k ∧ ∃ n, wr = w.drewN n) (fun i _ => N - (intOf i).toNat)
    case atStart => exact ⟨0, Nat.zero_le _, rfl, by simp, 0, rfl⟩
    case round =>
      obtain ⟨k, hk, rfl, hn, n, rfl⟩ := hrel
      have Hn := Lib.hid hn; clear hn
      by_cases hlt : k < N
      · have hlt' := HX.out k hlt
        have hck := hc k hlt
        have hck' := hc' k hlt'
        have hbb := hbk (by omega)
        have hbb' := hbk' (by omega)
        have HT := Lib.hid (take_succ_getD l k 0 (by rw [HN.out]; exact hlt))
        have HT' := Lib.hid (take_succ_getD l' k 0 (by rw [HM.out]; exact hlt'))
        have HG : Hid (∀ z : Int, l = l' → l.getD k 0 = z → l'.getD k 0 = z) := Lib.hid (fun z e h => by rw [← e]; exact h)
        generalize hy : l.getD k 0 = y at *
        generalize hy' : l'.getD k 0 = y' at *
        have HY := Lib.hid hy; clear hy
        have HY' := Lib.hid hy'; clear hy'
        clear hc hc'
        by_cases he : y = y'
        · subst he
          have hb : (y != y) = false := by simp
          go_wp2
          go_quiet (fail)
          go_wp2
          go_roundw
          case rel => exact ⟨k + 1, by omega, by go_num, by rw [HT.out, HT'.out, Hn.out], _, rfl⟩
          case measure => simp [intOf]; omega
        · have hb : (y != y') = true := by simpa using he
          go_wp2
          go_quiet (fail)
          go_wp2
          go_ret
          refine ⟨ret_bool ?_, (ex_ext (by repeat (first | exact Below.refl _ _ | assumption | refine b_drewN ?_ _ | refine Below.drew ?_ | refine b_ext' ?_ _ | refine b_alloc' ?_ _)))⟩
          have : ¬ l = l' := fun e => he (by have := HG.out y e rfl; omega)
          simp [this]
      · go_wp2
        go_ret
        refine ⟨ret_bool ?_, (ex_ext (by repeat (first | exact Below.refl _ _ | assumption | refine b_drewN ?_ _ | refine Below.drew ?_ | refine b_ext' ?_ _ | refine b_alloc' ?_ _)))⟩
        have h1 := Hn.out
        rw [List.take_of_length_le (by have := HN.out; omega), List.take_of_length_le (by have := HN.out; have := HM.out; have := HL.out; omega)] at h1
        simp [h1]
  · have hb : ((l.length : Int) != (l'.length : Int)) = true := by simp; omega
    go_enter Try.func14, Try.ntmps14
    go_wp2
    go_ret
    have : ¬ l = l' := fun e => hll (by rw [e])
    exact ⟨ret_bool (by simp [this]), refl_ext _⟩

set_option maxHeartbeats 400000 in
theorem light (v : Value) (d : Dfa) (w : World) (h : DfaAt w v d) : Calls Try.prog 20 #[v] w fun e w' => e = .returned (.bool (lightB d)) ∧ ∃ x, w' = ext w x := by
  obtain ⟨A, rfl, hs, hl, hc, ⟨vn, hn, hrow⟩, ⟨vr, hr, hru⟩⟩ := h
  obtain ⟨oa, cap, b, off, rfl, hd, hro⟩ := hrow.open
  obtain ⟨oa', cap', b', off', rfl, hd', -⟩ := hru.open
  have hix := index_any (P := Try.prog) 23 24 Try.underlying23 (by kernel_rfl) hd
  have hm := hd.len
  have hm' := hd'.len
  clear hs hc
  by_cases h1 : d.next.length ≤ 1100
  · by_cases h2 : d.rules.length ≤ 1100
    · go_enter Try.func20, Try.ntmps20
      go_wp2
      go_loop [3, 4] (fun n i => ∃ k : Nat, k ≤ d.next.length ∧ i = .int .i64 k ∧ n = .int .i64 (sumLen (d.next.take k)) ∧ sumLen (d.next.take k) ≤ 300000) (fun _ i => d.next.length - (intOf i).toNat)
      case atStart => exact ⟨0, Nat.zero_le _, rfl, rfl, Nat.zero_le _⟩
      case round =>
        obtain ⟨k, hk, rfl, rfl, hsum⟩ := hrel
        by_cases hlt : k < d.next.length
        · obtain ⟨oi, ci, bi, fi, hck, hdk, -, -⟩ := hro k hlt
          have hb := hd.hblk (by omega)
          have hlk := hdk.hsml
          have HS := Lib.hid (sumLen_take_succ d.next k hlt)
          have HL := Lib.hid (sumLen_take_le d.next (k + 1))
          generalize (d.next.getD k []).length = Lk at *
          clear hro hix hdk
          have hix := index_any (P := Try.prog) 23 24 Try.underlying23 (by kernel_rfl) hd
          by_cases hbig : 300000 < sumLen (d.next.take k) + Lk
          · go_wp2
            go_ret
            have h3 := HS.out; have h4 := HL.out
            exact ⟨ret_bool (by simp only [lightB]; symm; rw [decide_eq_false_iff_not]; omega), (ex_ext (by repeat (first | exact Below.refl _ _ | assumption | refine b_drewN ?_ _ | refine Below.drew ?_ | refine b_ext' ?_ _ | refine b_alloc' ?_ _)))⟩
          · go_wp2
            go_round
            case rel => exact ⟨k + 1, by omega, by go_num, by rw [HS.out]; go_num, by rw [HS.out]; omega⟩
            case measure => simp [intOf]; omega
        · go_wp2
          go_ret
          have h3 : d.next.take k = d.next := List.take_of_length_le (by omega)
          rw [h3] at hsum
          exact ⟨ret_bool (by simp only [lightB]; symm; rw [decide_eq_true_eq]; omega), (ex_ext (by repeat (first | exact Below.refl _ _ | assumption | refine b_drewN ?_ _ | refine Below.drew ?_ | refine b_ext' ?_ _ | refine b_alloc' ?_ _)))⟩
    · have hg : (1100 : Int) < d.rules.length := by omega
      go_enter Try.func20, Try.ntmps20
      go_wp2
      all_goals go_ret
      all_goals exact ⟨ret_bool (by simp only [lightB]; symm; rw [decide_eq_false_iff_not]; omega), (ex_ext (by repeat (first | exact Below.refl _ _ | assumption | refine b_drewN ?_ _ | refine Below.drew ?_ | refine b_ext' ?_ _ | refine b_alloc' ?_ _)))⟩
  · have hg : (1100 : Int) < d.next.length := by omega
    go_enter Try.func20, Try.ntmps20
    go_wp2
    all_goals go_ret
    all_goals exact ⟨ret_bool (by simp only [lightB]; symm; rw [decide_eq_false_iff_not]; omega), (ex_ext (by repeat (first | exact Below.refl _ _ | assumption | refine b_drewN ?_ _ | refine Below.drew ?_ | refine b_ext' ?_ _ | refine b_alloc' ?_ _)))⟩

set_option maxHeartbeats 400000 in
theorem small (v : Value) (d : Dfa) (w : World) (h : DfaAt w v d) : Calls Try.prog 7 #[v] w fun e w' => e = .returned (.bool (smallB d)) ∧ ∃ x, w' = ext w x := by
  have hL := fun w' (hb : Below w.heap.size w w') => light v d w' (h.up hb)
  obtain ⟨A, rfl, hs, hl, hc, ⟨vn, hn, hrow⟩, ⟨vr, hr, hru⟩⟩ := h
  obtain ⟨oa, cap, b, off, rfl, hd, hro⟩ := hrow.open
  have hm := hd.len
  have HL := Lib.hid hL; clear hL
  have HS := Lib.hid hs; clear hs hc hl
  have hg := heap_alloc_new w (.cells A 26)
  have HG := Lib.hid hg; clear hg
  by_cases hli : lightB d = true
  · have hli' : d.next.length ≤ 1100 ∧ d.rules.length ≤ 1100 ∧ sumLen d.next ≤ 300000 := by simpa [lightB] using hli
    by_cases h30 : d.next.length ≤ 30
    all_goals
      go_enter Try.func7, Try.ntmps7
      go_wp2_with (first | (refine load_dfa rfl _ rfl w.heap.size rfl A HS.out HG.out ?_) | (go_at_call 20; refine (HL.out _ (below_alloc _ _)).mono ?_; rintro e w' ⟨rfl, x, rfl⟩; rw [hli]))
      go_ret
      exact ⟨ret_bool (by simp [smallB, hli', h30] <;> omega), (ex_ext (by repeat (first | exact Below.refl _ _ | assumption | refine b_drewN ?_ _ | refine Below.drew ?_ | refine b_ext' ?_ _ | refine b_alloc' ?_ _)))⟩
  · have hli' : ¬ (d.next.length ≤ 1100 ∧ d.rules.length ≤ 1100 ∧ sumLen d.next ≤ 300000) := by simpa [lightB] using hli
    have hli2 : lightB d = false := by simpa using hli
    go_enter Try.func7, Try.ntmps7
    go_wp2_with (first | (refine load_dfa rfl _ rfl w.heap.size rfl A HS.out HG.out ?_) | (go_at_call 20; refine (HL.out _ (below_alloc _ _)).mono ?_; rintro e w' ⟨rfl, x, rfl⟩; rw [hli2]))
    go_ret
    exact ⟨ret_bool (by simp only [smallB]; symm; rw [decide_eq_false_iff_not]; intro h; exact hli' ⟨h.1, h.2.1, h.2.2.1⟩), (ex_ext (by repeat (first | exact Below.refl _ _ | assumption | refine b_drewN ?_ _ | refine Below.drew ?_ | refine b_ext' ?_ _ | refine b_alloc' ?_ _)))⟩

set_option maxRecDepth 100000 in
set_option maxHeartbeats 400000 in
theorem classes (v : Value) (d : Dfa) (w : World) (h : DfaAt w v d) : Calls Try.prog 28 #[v] w fun e w' => e = .returned (.int .i64 (classesI d.cls)) ∧ ∃ x, w' = ext w x := by
  obtain ⟨A, rfl, hs, hl, hc, -, -⟩ := h
  obtain ⟨B, hB⟩ : ∃ B, A.extract 0 256 = B := ⟨_, rfl⟩
  have hBc : ∀ i, i < 256 → B[i]? = some (.int .i64 (d.cls.getD i 0)) := fun i hi => by
    rw [← hB, Array.getElem?_extract, if_pos (by omega)]; simpa using hc i hi
  have HS := Lib.hid hs; clear hs hc
  have HB := Lib.hid hB; clear hB
  have HG := Lib.hid (heap_alloc_new w (.cells A 26))
  have HC := Lib.hid hBc; clear hBc
  have HL := Lib.hid hl; clear hl
  go_enter Try.func28, Try.ntmps28
  go_wp2_with (refine load_cls rfl _ rfl w.heap.size rfl A B HS.out HB.out HG.out ?_)
  go_loop [3, 8] (fun n i => ∃ k m : Nat, k ≤ 256 ∧ m ≤ k ∧ i = .int .i64 k ∧ n = .int .i64 m ∧ classesFrom 0 d.cls = classesFrom m (d.cls.drop k)) (fun _ i => 256 - (intOf i).toNat)
  case atStart => exact ⟨0, 0, Nat.zero_le _, Nat.le_refl _, rfl, rfl, rfl⟩
  case round =>
    obtain ⟨k, m, hk, hmk, rfl, rfl, heq⟩ := hrel
    have HE := Lib.hid heq; clear heq
    by_cases hlt : k < 256
    · have HD := Lib.hid (classesFrom_drop m d.cls k (by rw [HL.out]; exact hlt))
      have hix := fun W => run_index_cls hlt (HC.out k hlt) W
      generalize d.cls.getD k 0 = y at *
      by_cases h1 : y < 0
      · go_wp2
        go_ret
        have h2 := HD.out
        rw [if_pos (Or.inl h1)] at h2
        exact ⟨ret_int (by simp [classesI, HE.out, h2]), (ex_ext (by repeat (first | exact Below.refl _ _ | assumption | refine b_drewN ?_ _ | refine Below.drew ?_ | refine b_ext' ?_ _ | refine b_alloc' ?_ _)))⟩
      · by_cases h2 : (m : Int) < y
        · go_wp2
          go_ret
          have h3 := HD.out
          rw [if_pos (Or.inr h2)] at h3
          exact ⟨ret_int (by simp [classesI, HE.out, h3]), (ex_ext (by repeat (first | exact Below.refl _ _ | assumption | refine b_drewN ?_ _ | refine Below.drew ?_ | refine b_ext' ?_ _ | refine b_alloc' ?_ _)))⟩
        · by_cases h3 : y = m
          · have h4 : (y == (m : Int)) = true := by simpa using h3
            have H3 := Lib.hid h3; clear h3
            go_wp2
            go_round
            case rel =>
              refine ⟨k + 1, m + 1, by omega, by omega, by go_num, by go_num, ?_⟩
              have h5 := HD.out
              rw [if_neg (by omega), if_pos H3.out] at h5
              rw [HE.out, h5]
            case measure => simp [intOf]; omega
          · have h4 : (y == (m : Int)) = false := by simpa using h3
            go_wp2
            go_round
            case rel =>
              refine ⟨k + 1, m, by omega, by omega, by go_num, rfl, ?_⟩
              have h5 := HD.out
              rw [if_neg (by omega), if_neg h3] at h5
              rw [HE.out, h5]
            case measure => simp [intOf]; omega
    · go_wp2
      go_ret
      have h5 := HE.out
      rw [List.drop_of_length_le (by have := HL.out; omega)] at h5
      exact ⟨ret_int (by simp [classesI, h5, classesFrom]), (ex_ext (by repeat (first | exact Below.refl _ _ | assumption | refine b_drewN ?_ _ | refine Below.drew ?_ | refine b_ext' ?_ _ | refine b_alloc' ?_ _)))⟩
end Go.Cm
