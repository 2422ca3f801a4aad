/- Texts of this claim, joined: walks of small functions and plain facts about them. Conditions: as each says. -/
import Derived.Test.YtmophmeiemfikaaNE
import Derived.Test.YtmophmeiemfikaaRows
import Derived.WalkKit
import Derived.WalkSpells
import Derived.WalkLawsBesides
import Derived.Deep.QuietTactic
import Derived.BigQuiet
import Derived.Lib.Hide
import Derived.Laws.Small
import Derived.Deep.LoopGhost
import Derived.Laws.BitsLemmas
import Derived.Deep.DeepCutAuto
import Derived.Deep.CutBlock
import Derived.Deep.CutRange
import Derived.Laws.IdiomStrings
import Derived.Laws.CopyOwn
import Derived.Laws.EntriesVeiled
import Derived.Shelf.Abstract
/- The walks of the bases of symbols, and of a reader's bytes. Conditions: the reader is there. -/
namespace Go.Cm
open Go.RowKit Go.Proofs

def symB (y : Nat × Nat × Bool) : Value := .tuple #[.int .i64 (y.1 : Nat), .int .i64 (y.2.1 : Nat), .bool y.2.2]
theorem results_tmp3' {fn : Func} {t u v : Tmp} (h : fn.results = #[.tmp t, .tmp u, .tmp v]) (tmps : Array Value) (P : Program) (w : World) :
    (results fn tmps).run P w = .ok (.tuple #[tmps.getD t undef, tmps.getD u undef, tmps.getD v undef]) w := by
  simp [results, h]
set_option maxRecDepth 100000 in
set_option maxHeartbeats 1000000 in
theorem ofP4 (s : Nat) (hs : s < 100000) (w : World) : Calls Try.prog 145 #[.agg kdV4, .int .i64 (s : Nat)] w fun e w' => e = .returned (symB (if 257 ≤ s ∧ s < 285 then (spBase 3 4 (s - 257), spB 4 (s - 257), true) else (0, 0, false))) ∧ ∃ x, w' = ext w x := by
  have HBA := Lib.hid (fun (W : World) => bases4 W)
  obtain ⟨y, hy⟩ : ∃ y, y = (if 257 ≤ s ∧ s < 285 then (spBase 3 4 (s - 257), spB 4 (s - 257), true) else (0, 0, false)) := ⟨_, rfl⟩
  rw [← hy]
  have HY := Lib.hid hy
  clear hy
  unfold kdV4 at HBA ⊢
  have hk := own_lit w w.heap.size #[Value.int .i64 257, .int .i64 28, .int .i64 3, .int .i64 4] 166 (by simp) (Nat.le_refl _)
  obtain ⟨w1, hw1⟩ : ∃ w1, w1 = w.alloc (.cells #[.int .i64 257, .int .i64 28, .int .i64 3, .int .i64 4] 166) := ⟨_, rfl⟩
  rw [← hw1] at hk
  have HK := Lib.hid hk
  have HW1 := Lib.hid hw1
  have HB1 : Hid (Below w.heap.size w w1) := Lib.hid (by rw [hw1]; exact below_alloc _ _)
  have hg : w.heap.size < w1.heap.size := hk.blk.2
  have c0 : w1.cell? ⟨w.heap.size, 0, none⟩ = some (.int .i64 257) := hk.cell (by simp)
  have c1 : w1.cell? ⟨w.heap.size, 1, none⟩ = some (.int .i64 28) := hk.cell (by simp)
  clear hk hw1
  by_cases h : 257 ≤ s ∧ s < 285
  · obtain ⟨i, hsi⟩ : ∃ i, i = s - 257 := ⟨_, rfl⟩
    rw [if_pos h, ← hsi] at HY
    have hi : i < 28 := by omega
    have HBI := Lib.hid (fun (W : World) => bits4 i (by omega) W)
    unfold kdV4 at HBI
    have h1 : (s : Int) - 257 = (i : Nat) := by omega
    have h2 : ¬ s < 257 := by omega
    have h3 : ¬ 28 ≤ i := by omega
    obtain ⟨X, hX⟩ : ∃ X, X = (ints (nls (basL 3 4 28))).toArray := ⟨_, rfl⟩
    rw [← hX] at HBA
    obtain ⟨bs, hbs⟩ : ∃ bs, bs = spBase 3 4 i := ⟨_, rfl⟩
    obtain ⟨bt, hbt⟩ : ∃ bt, bt = spB 4 i := ⟨_, rfl⟩
    rw [← hbs, ← hbt] at HY
    rw [← hbt] at HBI
    have hXi : X[i]? = some (.int .i64 (bs : Nat)) := by
      rw [hX, hbs]
      have e : (nls (basL 3 4 28)).getD i 0 = (spBase 3 4 i : Nat) := by rw [nls_getD, basL_getD _ _ _ _ (by omega), if_pos hi]
      have hl : i < (nls (basL 3 4 28)).length := by rw [nls_length, basL_len]; omega
      have h2 := ints_getD (nls (basL 3 4 28)) i hl
      rw [e] at h2
      simp only [List.getElem?_toArray]
      rw [← h2, List.getD_eq_getElem?_getD, List.getElem?_eq_getElem (by simpa using hl)]
      rfl
    have hix := run_index_arr (P := Try.prog) 180 3 30 Try.underlying180 Try.underlying3 (by kernel_rfl) X i (by omega) _ hXi
    have HGK : Hid (∀ w', (∃ x, w' = ext w1 x) → w'.heap[w.heap.size]? = some (.cells #[.int .i64 257, .int .i64 28, .int .i64 3, .int .i64 4] 166 (0, 0))) := Lib.hid (fun w' ⟨x, hx⟩ => by
      obtain ⟨A, hgA, hsA, hA⟩ := HK.out.whole
      have hA' : A = #[.int .i64 257, .int .i64 28, .int .i64 3, .int .i64 4] := by rw [← Array.toArray_toList (xs := A), hA]
      subst hA'
      rw [hx, heap_ext w1 x _ hg]; exact hgA)
    clear h hX hbs hbt hXi hsi hs
    go_enter Try.func145, Try.ntmps145
    go_upto_region 1 with (fail)
    rw [← HW1.out]
    go_upto_region 4 with (fail)
    refine wp_region_ext (by kernel_rfl) (by kernel_rfl) ?_
    repeat (first
      | (go_big_quiet_want; refine quiet_load_box 166 4 _ rfl w.heap.size rfl #[.int .i64 257, .int .i64 28, .int .i64 3, .int .i64 4] rfl HGK.out _ Try.underlying166 rfl (by kernel_rfl) ?_; go_simp; go_big_quiet_on)
      | go_big_quiet_step (first | (go_at_call 134; exact calls_in (HBA.out _)) | (go_at_call 135; exact calls_in (HBI.out _))))
    refine wpQuiet_nil ?_
    rintro w' ⟨y4, rfl⟩
    go_wp2
    refine bodyPost_ret (results_tmp3' rfl _ _ _) rfl ?_
    refine ⟨?_, ex_ext (HB1.out.trans ((ext_below w1 y4).mono HB1.out.size))⟩
    unfold symB
    rw [HY.out]
    rfl
  · rw [if_neg h] at HY
    have hor : s < 257 ∨ (¬ s < 257 ∧ ∃ k : Nat, (s : Int) - 257 = (k : Nat) ∧ decide (28 ≤ k) = true ∧ k < 100000 ∧ ¬ k < 28) := by
      by_cases h1 : s < 257
      · exact .inl h1
      · exact .inr ⟨h1, s - 257, by omega, by rw [decide_eq_true_eq]; omega, by omega, by omega⟩
    clear h
    rcases hor with h1 | ⟨h1, k, hk1, hk2, hk3, hk4⟩ <;>
    · go_enter Try.func145, Try.ntmps145
      go_upto_region 1 with (fail)
      rw [← HW1.out]
      go_wp2
      refine bodyPost_ret (results_tmp3' rfl _ _ _) rfl ?_
      refine ⟨?_, ex_ext HB1.out⟩
      unfold symB
      rw [HY.out]
      rfl
set_option maxRecDepth 100000 in
set_option maxHeartbeats 1000000 in
theorem ofP2 (s : Nat) (hs : s < 100000) (w : World) : Calls Try.prog 145 #[.agg kdV2, .int .i64 (s : Nat)] w fun e w' => e = .returned (symB (if 0 ≤ s ∧ s < 30 then (spBase 1 2 (s - 0), spB 2 (s - 0), true) else (0, 0, false))) ∧ ∃ x, w' = ext w x := by
  have HBA := Lib.hid (fun (W : World) => bases2 W)
  obtain ⟨y, hy⟩ : ∃ y, y = (if 0 ≤ s ∧ s < 30 then (spBase 1 2 (s - 0), spB 2 (s - 0), true) else (0, 0, false)) := ⟨_, rfl⟩
  rw [← hy]
  have HY := Lib.hid hy
  clear hy
  unfold kdV2 at HBA ⊢
  have hk := own_lit w w.heap.size #[Value.int .i64 0, .int .i64 30, .int .i64 1, .int .i64 2] 166 (by simp) (Nat.le_refl _)
  obtain ⟨w1, hw1⟩ : ∃ w1, w1 = w.alloc (.cells #[.int .i64 0, .int .i64 30, .int .i64 1, .int .i64 2] 166) := ⟨_, rfl⟩
  rw [← hw1] at hk
  have HK := Lib.hid hk
  have HW1 := Lib.hid hw1
  have HB1 : Hid (Below w.heap.size w w1) := Lib.hid (by rw [hw1]; exact below_alloc _ _)
  have hg : w.heap.size < w1.heap.size := hk.blk.2
  have c0 : w1.cell? ⟨w.heap.size, 0, none⟩ = some (.int .i64 0) := hk.cell (by simp)
  have c1 : w1.cell? ⟨w.heap.size, 1, none⟩ = some (.int .i64 30) := hk.cell (by simp)
  clear hk hw1
  by_cases h : 0 ≤ s ∧ s < 30
  · obtain ⟨i, hsi⟩ : ∃ i, i = s - 0 := ⟨_, rfl⟩
    rw [if_pos h, ← hsi] at HY
    have hi : i < 30 := by omega
    obtain rfl : i = s := by omega
    have HBI := Lib.hid (fun (W : World) => bits2 i (by omega) W)
    unfold kdV2 at HBI
    have h3 : ¬ 30 ≤ i := by omega
    obtain ⟨X, hX⟩ : ∃ X, X = (ints (nls (basL 1 2 30))).toArray := ⟨_, rfl⟩
    rw [← hX] at HBA
    obtain ⟨bs, hbs⟩ : ∃ bs, bs = spBase 1 2 i := ⟨_, rfl⟩
    obtain ⟨bt, hbt⟩ : ∃ bt, bt = spB 2 i := ⟨_, rfl⟩
    rw [← hbs, ← hbt] at HY
    rw [← hbt] at HBI
    have hXi : X[i]? = some (.int .i64 (bs : Nat)) := by
      rw [hX, hbs]
      have e : (nls (basL 1 2 30)).getD i 0 = (spBase 1 2 i : Nat) := by rw [nls_getD, basL_getD _ _ _ _ (by omega), if_pos hi]
      have hl : i < (nls (basL 1 2 30)).length := by rw [nls_length, basL_len]; omega
      have h2 := ints_getD (nls (basL 1 2 30)) i hl
      rw [e] at h2
      simp only [List.getElem?_toArray]
      rw [← h2, List.getD_eq_getElem?_getD, List.getElem?_eq_getElem (by simpa using hl)]
      rfl
    have hix := run_index_arr (P := Try.prog) 180 3 30 Try.underlying180 Try.underlying3 (by kernel_rfl) X i (by omega) _ hXi
    have HGK : Hid (∀ w', (∃ x, w' = ext w1 x) → w'.heap[w.heap.size]? = some (.cells #[.int .i64 0, .int .i64 30, .int .i64 1, .int .i64 2] 166 (0, 0))) := Lib.hid (fun w' ⟨x, hx⟩ => by
      obtain ⟨A, hgA, hsA, hA⟩ := HK.out.whole
      have hA' : A = #[.int .i64 0, .int .i64 30, .int .i64 1, .int .i64 2] := by rw [← Array.toArray_toList (xs := A), hA]
      subst hA'
      rw [hx, heap_ext w1 x _ hg]; exact hgA)
    clear h hX hbs hbt hXi hsi
    go_enter Try.func145, Try.ntmps145
    go_upto_region 1 with (fail)
    rw [← HW1.out]
    go_upto_region 4 with (fail)
    refine wp_region_ext (by kernel_rfl) (by kernel_rfl) ?_
    repeat (first
      | (go_big_quiet_want; refine quiet_load_box 166 4 _ rfl w.heap.size rfl #[.int .i64 0, .int .i64 30, .int .i64 1, .int .i64 2] rfl HGK.out _ Try.underlying166 rfl (by kernel_rfl) ?_; go_simp; go_big_quiet_on)
      | go_big_quiet_step (first | (go_at_call 134; exact calls_in (HBA.out _)) | (go_at_call 135; exact calls_in (HBI.out _))))
    refine wpQuiet_nil ?_
    rintro w' ⟨y4, rfl⟩
    go_wp2
    refine bodyPost_ret (results_tmp3' rfl _ _ _) rfl ?_
    refine ⟨?_, ex_ext (HB1.out.trans ((ext_below w1 y4).mono HB1.out.size))⟩
    unfold symB
    rw [HY.out]
    rfl
  · rw [if_neg h] at HY
    have hk2 : decide (30 ≤ s) = true := by rw [decide_eq_true_eq]; omega
    have hk3 : decide ((30 : Int) ≤ (s : Nat)) = true := by rw [decide_eq_true_eq]; omega
    clear h
    · go_enter Try.func145, Try.ntmps145
      go_upto_region 1 with (fail)
      rw [← HW1.out]
      go_wp2
      refine bodyPost_ret (results_tmp3' rfl _ _ _) rfl ?_
      refine ⟨?_, ex_ext HB1.out⟩
      unfold symB
      rw [HY.out]
      rfl
theorem lenP' (s : Nat) (hs : s < 100000) (w : World) : Calls Try.prog 141 #[.int .i64 (s : Nat)] w fun e w' => e = .returned (symB (lenB s)) ∧ ∃ x, w' = ext w x := by
  have HO := Lib.hid (fun W => ofP4 s hs W)
  have HKD := Lib.hid kd4
  unfold lenB
  by_cases h : s = 285
  · simp only [if_pos h]
    have hi : ((s : Int) == 285) = true := by rw [h]; rfl
    subst h
    go_enter Try.func141, Try.ntmps141
    go_wp2
    refine bodyPost_ret (results_tmp3' rfl _ _ _) rfl ?_
    exact ⟨rfl, (ex_ext (by repeat (first | exact Below.refl _ _ | assumption | refine b_drewN ?_ _ | refine Below.drew ?_ | refine b_ext' ?_ _ | refine b_alloc' ?_ _)))⟩
  · simp only [if_neg h]
    obtain ⟨y, hy⟩ : ∃ y, y = (if 257 ≤ s ∧ s < 285 then (spBase 3 4 (s - 257), spB 4 (s - 257), true) else (0, 0, false)) := ⟨_, rfl⟩
    rw [← hy] at HO ⊢
    have hi : ((s : Int) == 285) = false := by simp; omega
    have hn : ¬ s = 285 := h
    clear hy
    unfold symB at HO ⊢
    go_enter Try.func141, Try.ntmps141
    go_wp2_with (first | ((with_reducible go_at_call 118); (with_reducible refine (HKD.out _).mono ?_); rintro e w2 ⟨rfl, x2, rfl⟩) | ((with_reducible go_at_call 145); (with_reducible refine (HO.out _).mono ?_); rintro e w3 ⟨rfl, x3, rfl⟩))
    refine bodyPost_ret (results_tmp3' rfl _ _ _) rfl ?_
    exact ⟨rfl, (ex_ext (by repeat (first | exact Below.refl _ _ | assumption | refine b_drewN ?_ _ | refine Below.drew ?_ | refine b_ext' ?_ _ | refine b_alloc' ?_ _)))⟩
theorem dstP' (s : Nat) (hs : s < 100000) (w : World) : Calls Try.prog 142 #[.int .i64 (s : Nat)] w fun e w' => e = .returned (symB (dstB s)) ∧ ∃ x, w' = ext w x := by
  have HO := Lib.hid (fun W => ofP2 s hs W)
  have HKD := Lib.hid kd2
  have e : dstB s = (if 0 ≤ s ∧ s < 30 then (spBase 1 2 (s - 0), spB 2 (s - 0), true) else (0, 0, false)) := by unfold dstB; simp
  rw [e]
  obtain ⟨y, hy⟩ : ∃ y, y = (if 0 ≤ s ∧ s < 30 then (spBase 1 2 (s - 0), spB 2 (s - 0), true) else (0, 0, false)) := ⟨_, rfl⟩
  rw [← hy] at HO ⊢
  clear hy e
  unfold symB at HO ⊢
  go_enter Try.func142, Try.ntmps142
  go_wp2_with (first | ((with_reducible go_at_call 120); (with_reducible refine (HKD.out _).mono ?_); rintro e w2 ⟨rfl, x2, rfl⟩) | ((with_reducible go_at_call 145); (with_reducible refine (HO.out _).mono ?_); rintro e w3 ⟨rfl, x3, rfl⟩))
  refine bodyPost_ret (results_tmp3' rfl _ _ _) rfl ?_
  exact ⟨rfl, (ex_ext (by repeat (first | exact Below.refl _ _ | assumption | refine b_drewN ?_ _ | refine Below.drew ?_ | refine b_ext' ?_ _ | refine b_alloc' ?_ _)))⟩
theorem slice_mid (s : ByteArray) (a n : Nat) (h : a + n ≤ s.size) (W : World) : (Instr.sliceAt 9 (.string s) (some (.int .i64 (a : Int))) (some (.int .i64 ((a + n : Nat) : Int))) none).run Try.prog W = .ok (.string ⟨(((bys s).drop a).take n).toArray⟩) W := by
  rw [run_sliceAt_string (P := Try.prog) (t := 9) (h := Try.underlying9)]
  have := Go.run_slice_string (P := Try.prog) (w := W) 9 s .i64 .i64 (a : Int) ((a + n : Nat) : Int) Try.underlying9 (by omega) (by omega) (by omega)
  rw [this]
  have e : s.extract (a : Int).toNat ((a + n : Nat) : Int).toNat = ⟨(((bys s).drop a).take n).toArray⟩ := by
    rw [Int.toNat_natCast, Int.toNat_natCast, txt_bys (s.extract _ _), bys_extract, Nat.add_sub_cancel_left]
  rw [e]
set_option maxRecDepth 100000 in
set_option maxHeartbeats 1000000 in
theorem bytesRd {w : World} {g p : Nat} {s : ByteArray} (h : BoxS w g s p) (hs : s.size ≤ 4294967296) (n : Nat) (hp : p % 8 = 0) (hn : p + 8 * n ≤ 8 * s.size) : Calls Try.prog 127 #[.pointer (some ⟨g, 0, none⟩), .int .i64 (n : Nat)] w fun e w' => e = .returned (.tuple #[.string ⟨(((bys s).drop (p / 8)).take n).toArray⟩, .int .i64 0]) ∧ BoxS w' g s (p + 8 * n) ∧ w.grownBy w' (some g) := by
  have HB := Lib.hid h
  have HT := Lib.hid (thereS h)
  have HL := Lib.hid (leftS h hs (by omega))
  have c1 := h.c1
  have c2 := h.c2
  have f2 := h.free 2
  have hg := h.lt
  have hp8 : (p : Int).tmod 8 = 0 := by rw [Int.tmod_eq_emod_of_nonneg (by omega)]; omega
  have hp9 : (p : Int) % 8 = 0 := by omega
  obtain ⟨a, ha⟩ : ∃ a, a = p / 8 := ⟨_, rfl⟩
  have hpd : (p : Int).tdiv 8 = (a : Nat) := by rw [Int.tdiv_eq_ediv_of_nonneg (by omega)]; omega
  have hpe : (p : Int) / 8 = (a : Nat) := by omega
  obtain ⟨q, hq⟩ : ∃ q, q = 8 * s.size - p := ⟨_, rfl⟩
  rw [← hq] at HL
  obtain ⟨q8, hq8⟩ : ∃ q8, q8 = q / 8 := ⟨_, rfl⟩
  have hqd : (q : Int).tdiv 8 = (q8 : Nat) := by rw [Int.tdiv_eq_ediv_of_nonneg (by omega)]; omega
  have hqe : (q : Int) / 8 = (q8 : Nat) := by omega
  have hnl : ¬ q8 < n := by omega
  have hqb : q8 ≤ 4294967296 := by omega
  have hsl := fun W => slice_mid s a n (by omega) W
  obtain ⟨m, hm⟩ : ∃ m, m = a + n := ⟨_, rfl⟩
  rw [← hm] at hsl
  have HSL := Lib.hid hsl
  have hst := fun x => (h.up (ext_below w x)).set2 (p + 8 * n)
  obtain ⟨r, hr⟩ : ∃ r, r = p + 8 * n := ⟨_, rfl⟩
  rw [← hr] at hst ⊢
  have HST := Lib.hid hst
  clear hsl hst
  have hpn : (p : Int) + 8 * (n : Int) = (r : Nat) := by omega
  have han : (a : Int) + (n : Int) = (m : Nat) := by omega
  have hab : m ≤ 4294967296 := by omega
  have hnb : n ≤ 4294967296 := by omega
  have hpb : r ≤ 40000000000 := by omega
  have hn0 : ¬ (n : Int) < 0 := by omega
  rw [← ha]
  have HP := Lib.hid hp
  clear h ha hq hq8 hp hn hs hm hr
  go_enter Try.func127, Try.ntmps127
  go_wp2_with (first | ((with_reducible go_at_call 88); (with_reducible refine HT.out.mono ?_); rintro e w' ⟨rfl, hw⟩; rw [hw]; clear hw) | ((with_reducible go_at_call 126); (with_reducible refine HL.out.mono ?_); rintro e w1 ⟨rfl, x1, rfl⟩) | ((with_reducible show wpList _ _ _ (Oper.mk _ (.slice _ _ _ _ _) _ _ _ _ :: _) _ _); refine wpList_slice_by rfl 9 (.tmp 45) (some (.tmp 46)) (some (.tmp 49)) none rfl _ (HSL.out _) ?_))
  go_ret2
  exact ⟨rfl, (HST.out x1).1, grown_trans (grown_below (ext_below w x1) _) (HST.out x1).2⟩
end Go.Cm

/- A machine in memory; the walks of what turns it to another mode. Conditions: the machine is there. -/
namespace Go.Cm
open Go.RowKit Go.Proofs

/-- what a machine's cells hold, beside its reader and its window -/
structure MV where
  at_ : Nat
  fin : Bool
  left : Nat
  vl : Value
  vd : Value
  made : Nat
  told : Nat
  waits : ByteArray
  wrong : Nat
  vs : Value
  vf : Value
def mvC (gr gw : Nat) (m : MV) : List Value := [.pointer (some ⟨gr, 0, none⟩), .pointer (some ⟨gw, 0, none⟩), .int .i64 m.at_, .bool m.fin, .int .i64 m.left, m.vl, m.vd, .int .i64 m.made, .int .i64 m.told, .string m.waits, .int .i64 m.wrong, m.vs, m.vf]
def MBox (w : World) (B gm gr gw : Nat) (m : MV) : Prop := Own w B 70 (.slice (some ⟨gm, 0, none⟩) 13 13) (mvC gr gw m)
theorem MBox.cell {w : World} {B gm gr gw : Nat} {m : MV} (h : MBox w B gm gr gw m) {i : Nat} (hi : i < 13) : w.cell? ⟨gm, i, none⟩ = some ((mvC gr gw m).getD i undef) := Own.cell h (by simpa [mvC] using hi)
theorem MBox.free {w : World} {B gm gr gw : Nat} {m : MV} (h : MBox w B gm gr gw m) (i : Nat) : w.frozen? ⟨gm, i, none⟩ = false := Own.free h i
theorem MBox.blk {w : World} {B gm gr gw : Nat} {m : MV} (h : MBox w B gm gr gw m) : B ≤ gm ∧ gm < w.heap.size := Own.blk h
theorem MBox.up {w w' : World} {B gm gr gw : Nat} {m : MV} (h : MBox w B gm gr gw m) (hb : Below w.heap.size w w') : MBox w' B gm gr gw m := Own.up h hb
theorem MBox.fx {S : Nat → Prop} {w w' : World} {B gm gr gw : Nat} {m : MV} (h : MBox w B gm gr gw m) (hf : Fx S w w') (h1 : ¬ S gm) : MBox w' B gm gr gw m := hf.own h (fun k hk => by injection hk with hk; subst hk; exact h1)
theorem MBox.set {w : World} {B gm gr gw : Nat} {m m' : MV} (h : MBox w B gm gr gw m) (i : Nat) (v : Value) (hv : (mvC gr gw m).set i v = mvC gr gw m') : MBox (w.setCell ⟨gm, i, none⟩ v) B gm gr gw m' ∧ w.grownBy (w.setCell ⟨gm, i, none⟩ v) (some gm) := by
  have := Own.store h i v
  rw [hv] at this
  exact this
/-- what makes the next bytes -/
def fnV (k : Nat) : Value := if k = 0 then .func (.func 58) #[] #[] else if k = 1 then .func (.func 110) #[] #[] else .func (.func 111) #[] #[]
def MV.turn (m : MV) (k : Nat) : MV := { m with at_ := k, vf := if k < 3 then fnV k else m.vf }
theorem thereM {w : World} {B gm gr gw : Nat} {m : MV} (h : MBox w B gm gr gw m) : Calls Try.prog 59 #[.pointer (some ⟨gm, 0, none⟩)] w fun e w' => e = .returned (.bool true) ∧ w' = w := by
  have c0 : w.cell? ⟨gm, 0, none⟩ = some (.pointer (some ⟨gr, 0, none⟩)) := h.cell (by decide)
  go_enter Try.func59, Try.ntmps59
  go_wp2
  go_ret
  exact ⟨rfl, rfl⟩
set_option maxRecDepth 100000 in
theorem turnM {w : World} {B gm gr gw : Nat} {m : MV} (h : MBox w B gm gr gw m) (k : Nat) (hk : k ≤ 3) : Calls Try.prog 86 #[.pointer (some ⟨gm, 0, none⟩), .int .i64 (k : Nat)] w fun e w' => e = .returned (.tuple #[]) ∧ MBox w' B gm gr gw (m.turn k) ∧ w.grownBy w' (some gm) := by
  obtain ⟨h2, g2⟩ := h.set 2 (.int .i64 (k : Nat)) (m' := { m with at_ := k }) rfl
  have c2 : w.cell? ⟨gm, 2, none⟩ = some (.int .i64 m.at_) := h.cell (by decide)
  have f2 := h.free 2
  have hg := h.blk.2
  have HG2 := Lib.hid g2
  have H2 := Lib.hid h2
  have c12 : (w.setCell ⟨gm, 2, none⟩ (.int .i64 (k : Nat))).cell? ⟨gm, 12, none⟩ = some m.vf := h2.cell (by decide)
  have f12 := h2.free 12
  have hg2 := h2.blk.2
  have HS := Lib.hid (fun (v : Value) => h2.set 12 v (m' := { m with at_ := k, vf := v }) rfl)
  clear h2 g2 h
  rcases (show k = 0 ∨ k = 1 ∨ k = 2 ∨ k = 3 by omega) with rfl | rfl | rfl | rfl
  · rw [show ((0 : Nat) : Int) = 0 from rfl] at c12 f12 hg2 HS HG2
    go_enter Try.func86, Try.ntmps86
    go_wp2
    go_end0
    exact ⟨rfl, (HS.out _).1, grown_trans HG2.out (HS.out _).2⟩
  · rw [show ((1 : Nat) : Int) = 1 from rfl] at c12 f12 hg2 HS HG2
    go_enter Try.func86, Try.ntmps86
    go_wp2
    go_end0
    exact ⟨rfl, (HS.out _).1, grown_trans HG2.out (HS.out _).2⟩
  · rw [show ((2 : Nat) : Int) = 2 from rfl] at c12 f12 hg2 HS HG2
    go_enter Try.func86, Try.ntmps86
    go_wp2
    go_end0
    exact ⟨rfl, (HS.out _).1, grown_trans HG2.out (HS.out _).2⟩
  · go_enter Try.func86, Try.ntmps86
    go_wp2
    go_end0
    exact ⟨rfl, H2.out, HG2.out⟩
def MV.close (m : MV) : MV := m.turn (if m.fin then 3 else 0)
set_option maxRecDepth 100000 in
theorem closeM {w : World} {B gm gr gw : Nat} {m : MV} (h : MBox w B gm gr gw m) : Calls Try.prog 125 #[.pointer (some ⟨gm, 0, none⟩)] w fun e w' => e = .returned (.tuple #[]) ∧ MBox w' B gm gr gw m.close ∧ w.grownBy w' (some gm) := by
  have c3 : w.cell? ⟨gm, 3, none⟩ = some (.bool m.fin) := h.cell (by decide)
  have hg := h.blk.2
  have HT3 := Lib.hid (turnM h 3 (by decide))
  have HT0 := Lib.hid (turnM h 0 (by decide))
  clear h
  unfold MV.close
  cases hf : m.fin with
  | true =>
    rw [hf] at c3
    simp only [if_true]
    clear hf
    go_enter Try.func125, Try.ntmps125
    go_wp2_with ((with_reducible go_at_call 86); (refine HT3.out.mono ?_); rintro e w1 ⟨rfl, h1, g1⟩; have H1 := Lib.hid h1; have G1 := Lib.hid g1; clear h1 g1)
    go_end0
    exact ⟨rfl, H1.out, G1.out⟩
  | false =>
    rw [hf] at c3
    simp only [if_neg (show ¬ (false = true) by decide)]
    clear hf
    go_enter Try.func125, Try.ntmps125
    go_wp2_with ((with_reducible go_at_call 86); (refine HT0.out.mono ?_); rintro e w1 ⟨rfl, h1, g1⟩; have H1 := Lib.hid h1; have G1 := Lib.hid g1; clear h1 g1)
    go_end0
    exact ⟨rfl, H1.out, G1.out⟩
end Go.Cm

/- A machine with its reader and its window in memory; the walks of a number, and of a copy. Conditions: the machine is there. -/
namespace Go.Cm
open Go.RowKit Go.Proofs

/-- the blocks that a machine writes -/
abbrev MSet (gm gr gw : Nat) (vb : Value) (k : Nat) : Prop := k = gm ∨ k = gr ∨ k = gw ∨ vb.ownBlock = some k
structure Mach (w : World) (B gm gr gw : Nat) (vb : Value) (s : ByteArray) (p : Nat) (H : Byts) (m : MV) : Prop where
  box : MBox w B gm gr gw m
  rd : BoxS w gr s p
  win : WinAt w B gw vb H
  n1 : gm ≠ gr
  n2 : gm ≠ gw
  n3 : gr ≠ gw
  b1 : vb.ownBlock ≠ some gm
  b2 : vb.ownBlock ≠ some gr
  Br : B ≤ gr
theorem Mach.up {w w' : World} {B gm gr gw p : Nat} {vb : Value} {s : ByteArray} {H : Byts} {m : MV} (h : Mach w B gm gr gw vb s p H m) (hb : Below w.heap.size w w') : Mach w' B gm gr gw vb s p H m :=
  ⟨h.box.up hb, h.rd.up hb, h.win.up hb, h.n1, h.n2, h.n3, h.b1, h.b2, h.Br⟩
theorem Mach.B {w : World} {B gm gr gw p : Nat} {vb : Value} {s : ByteArray} {H : Byts} {m : MV} (h : Mach w B gm gr gw vb s p H m) : B ≤ w.heap.size := Nat.le_trans h.Br (Nat.le_of_lt h.rd.lt)
/-- the reader goes on -/
theorem Mach.read {w w' : World} {B gm gr gw p q : Nat} {vb : Value} {s : ByteArray} {H : Byts} {m : MV} (h : Mach w B gm gr gw vb s p H m) (hr : BoxS w' gr s q) (hg : w.grownBy w' (some gr)) : Mach w' B gm gr gw vb s q H m ∧ Fx (MSet gm gr gw vb) w w' := by
  have hf : Fx (fun k => k = gr) w w' := fx_grown hg (fun k e => by injection e with e; exact e.symm)
  exact ⟨⟨h.box.fx hf h.n1, hr, h.win.fx hf (fun e => h.n3 e.symm) (fun k e z => h.b2 (by rw [e, z])), h.n1, h.n2, h.n3, h.b1, h.b2, h.Br⟩, hf.mono (fun k e => .inr (.inl e))⟩
/-- its own cells change -/
theorem Mach.mset {w w' : World} {B gm gr gw p : Nat} {vb : Value} {s : ByteArray} {H : Byts} {m m' : MV} (h : Mach w B gm gr gw vb s p H m) (hm : MBox w' B gm gr gw m') (hg : w.grownBy w' (some gm)) : Mach w' B gm gr gw vb s p H m' ∧ Fx (MSet gm gr gw vb) w w' := by
  have hf : Fx (fun k => k = gm) w w' := fx_grown hg (fun k e => by injection e with e; exact e.symm)
  exact ⟨⟨hm, ⟨hf.own h.rd.own (fun k e z => by cases e; exact h.n1 z.symm)⟩, h.win.fx hf (fun e => h.n2 e.symm) (fun k e z => h.b1 (by rw [e, z])), h.n1, h.n2, h.n3, h.b1, h.b2, h.Br⟩, hf.mono (fun k e => .inl e)⟩
/-- its window goes on -/
theorem Mach.wset {w w' : World} {B gm gr gw p : Nat} {vb vb' : Value} {s : ByteArray} {H H' : Byts} {m : MV} (h : Mach w B gm gr gw vb s p H m) (hw : WinAt w' B gw vb' H') (hk : ∀ k, vb'.ownBlock = some k → vb.ownBlock = some k ∨ w.heap.size ≤ k) (hf : WFx gw vb w w') : Mach w' B gm gr gw vb' s p H' m ∧ Fx (MSet gm gr gw vb) w w' := by
  have hgm := h.box.blk.2
  have hgr := h.rd.lt
  refine ⟨⟨h.box.fx hf (fun e => e.elim h.n2 h.b1), ⟨hf.own h.rd.own (fun k e z => by injection e with e; subst e; exact z.elim h.n3 h.b2)⟩, hw, h.n1, h.n2, h.n3, fun e => ?_, fun e => ?_, h.Br⟩, hf.mono (fun k e => e.elim (fun z => .inr (.inr (.inl z))) (fun z => .inr (.inr (.inr z))))⟩
  · rcases hk gm e with z | z
    · exact h.b1 z
    · omega
  · rcases hk gr e with z | z
    · exact h.b2 z
    · omega
/-- a table that lies in blocks a .. b -/
def TabIv (w : World) (v : Value) (a b : Nat) (L : List Nat) : Prop := ∃ g, v = .pointer (some ⟨g, 0, none⟩) ∧ b ≤ w.heap.size ∧ ∀ w' : World, (∀ k, a ≤ k → k < b → w'.heap[k]? = w.heap[k]?) → b ≤ w'.heap.size → TabAt w' a g L
theorem TabIv.fx {S : Nat → Prop} {w w' : World} {v : Value} {a b : Nat} {L : List Nat} (h : TabIv w v a b L) (hf : Fx S w w') (hS : ∀ k, a ≤ k → k < b → ¬ S k) : TabIv w' v a b L := by
  obtain ⟨g, h1, h2, h3⟩ := h
  refine ⟨g, h1, Nat.le_trans h2 hf.size, fun w'' h4 h5 => h3 w'' (fun k ha hb => ?_) h5⟩
  rw [h4 k ha hb, hf.block k (by omega) (hS k ha hb)]
theorem TabIv.here {w : World} {v : Value} {a b : Nat} {L : List Nat} (h : TabIv w v a b L) : ∃ g, v = .pointer (some ⟨g, 0, none⟩) ∧ TabAt w a g L := by
  obtain ⟨g, h1, h2, h3⟩ := h
  exact ⟨g, h1, h3 w (fun _ _ _ => rfl) h2⟩
set_option maxRecDepth 100000 in
theorem numberM {w : World} {B gm gr gw p : Nat} {s : ByteArray} {m : MV} (h : MBox w B gm gr gw m) (hr : BoxS w gr s p) (hs : s.size ≤ 4294967296) (hp : p ≤ 8 * s.size) (y : Nat × Nat × Bool) (hy1 : y.1 ≤ 40000) (hy2 : y.2.1 ≤ 32) :
    Calls Try.prog 140 #[.pointer (some ⟨gm, 0, none⟩), .int .i64 (y.1 : Nat), .int .i64 (y.2.1 : Nat), .bool y.2.2] w fun e w' => e = .returned (.tuple #[.int .i64 ((numB (numS s) (8 * s.size) p y).1 : Nat), .int .i64 ((numB (numS s) (8 * s.size) p y).2.1 : Nat)]) ∧ BoxS w' gr s (numB (numS s) (8 * s.size) p y).2.2 ∧ w.grownBy w' (some gr) := by
  obtain ⟨b, n, ok⟩ := y
  simp only at hy1 hy2 ⊢
  have HR := Lib.hid hr
  cases ok with
  | false =>
    unfold numB
    simp only [if_true]
    clear hr h
    go_enter Try.func140, Try.ntmps140
    go_wp2
    go_ret2
    exact ⟨rfl, HR.out, grown_below (Below.refl _ _) _⟩
  | true =>
    unfold numB
    simp only [if_neg (show ¬ (true = false) by decide)]
    have HBT := Lib.hid (bitsS hr hs n hy2 hp)
    unfold RetBits at HBT
    have hv : (bitsA (numS s) (8 * s.size) p n).1 < 2 ^ 32 := by
      unfold bitsA
      split
      · exact Nat.lt_of_lt_of_le (valN_lt _ _ _) (Nat.pow_le_pow_right (by decide) hy2)
      · exact Nat.pow_pos (by decide)
    generalize bitsA (numS s) (8 * s.size) p n = D at *
    obtain ⟨v, er, q⟩ := D
    simp only at HBT hv ⊢
    have c0 : w.cell? ⟨gm, 0, none⟩ = some (.pointer (some ⟨gr, 0, none⟩)) := h.cell (by decide)
    have hg := h.blk.2
    have hbv : b + v ≤ 10000000000 := by omega
    clear h hr
    go_enter Try.func140, Try.ntmps140
    go_wp2_with ((with_reducible go_at_call 122); (with_reducible refine HBT.out.mono ?_); rintro e w1 ⟨rfl, hb1, hg1⟩; have HB1 := Lib.hid hb1; have HG1 := Lib.hid hg1; clear hb1 hg1)
    go_ret2
    exact ⟨by go_num, HB1.out, HG1.out⟩
end Go.Cm

/- The walk of a copy's making. Conditions: the machine is there, its table of distances lies apart. -/
namespace Go.Cm
open Go.RowKit Go.Proofs

theorem TabAt.up' {w w' : World} {B g : Nat} {L : List Nat} (h : TabAt w B g L) (hb : Below w.heap.size w w') : TabAt w' B g L := by
  obtain ⟨E, fs, vf, h1, h2⟩ := h
  exact ⟨E, fs, vf, h1.up hb, h2⟩
/-- what a call that makes bytes answers: y is what the step does -/
def RetMake (B gm gr gw : Nat) (vb : Value) (s : ByteArray) (h0 : Byts) (m : MV) (M : MV → Prop) (y : Nat × IS) (w : World) (e : Ending) (w' : World) : Prop :=
  ∃ c p' H' vb' m', e = .returned (.tuple #[.string c, .int .i64 (y.1 : Nat)]) ∧ Mach w' B gm gr gw vb' s p' H' m' ∧ Fx (MSet gm gr gw vb) w w' ∧ (∀ k, vb'.ownBlock = some k → vb.ownBlock = some k ∨ w.heap.size ≤ k) ∧
    (y.1 = 0 → p' = y.2.p ∧ H' = y.2.h ∧ y.2.h = h0 ++ bys c ∧ M m') ∧ (y.1 ≠ 0 → m' = m)
set_option maxRecDepth 100000 in
set_option maxHeartbeats 2000000 in
theorem copiedM {w : World} {B gm gr gw p tc td : Nat} {vb : Value} {s : ByteArray} {z : IS} {m : MV} (h : Mach w B gm gr gw vb s p z.h m) (ht : TabIv w m.vd tc td z.di) (ha : ∀ k, tc ≤ k → k < td → ¬ MSet gm gr gw vb k) (h15 : ∀ x ∈ z.di, x ≤ 15) (hs : s.size ≤ 4294967296) (hp : p ≤ 8 * s.size) (sym : Nat) (hsy : sym < 100000) (hdl : z.di.length < 100000) :
    Calls Try.prog 129 #[.pointer (some ⟨gm, 0, none⟩), .int .i64 (sym : Nat)] w (RetMake B gm gr gw vb s z.h m (fun m' => m' = m) (cpyI (numS s) (8 * s.size) z sym p) w) := by
  obtain ⟨Y, hY⟩ : ∃ Y, Y = cpyI (numS s) (8 * s.size) z sym p := ⟨_, rfl⟩
  rw [← hY]
  have HY := Lib.hid hY
  clear hY
  unfold cpyI at HY
  have HLN := Lib.hid (fun W => lenP' sym hsy W)
  have hle := fun h => lenB_le (s := sym) h
  have hb1 : (lenB sym).1 ≤ 40000 ∧ (lenB sym).2.1 ≤ 32 := by
    by_cases h : (lenB sym).2.2 = true
    · obtain ⟨a, b, -⟩ := hle h; omega
    · have : lenB sym = (0, 0, false) := by
        unfold lenB at h ⊢
        by_cases h1 : sym = 285
        · rw [if_pos h1] at h; exact absurd rfl h
        · rw [if_neg h1] at h ⊢
          by_cases h2 : 257 ≤ sym ∧ sym < 285
          · rw [if_pos h2] at h; exact absurd rfl h
          · rw [if_neg h2]
      rw [this]; decide
  have HN1 := Lib.hid (fun (W : World) (hb : Below w.heap.size w W) => numberM (h.box.up hb) (h.rd.up hb) hs hp (lenB sym) hb1.1 hb1.2)
  have hn1 : (numB (numS s) (8 * s.size) p (lenB sym)).2.1 = 0 → (numB (numS s) (8 * s.size) p (lenB sym)).1 ≤ 300 ∧ (numB (numS s) (8 * s.size) p (lenB sym)).2.2 ≤ 8 * s.size := fun e => by
    obtain ⟨a1, a2, a3, a4⟩ := numB_ok e
    obtain ⟨l1, l2, l3, l4⟩ := hle a1
    have := valN_lt (numS s) p (lenB sym).2.1
    omega
  generalize numB (numS s) (8 * s.size) p (lenB sym) = D1 at *
  unfold symB at HLN
  generalize lenB sym = L1 at *
  obtain ⟨l1, l2, l3⟩ := L1
  obtain ⟨n, e1, p1⟩ := D1
  simp only at HY HLN HN1 hn1
  have HM := Lib.hid h
  have HNN := Lib.hid hn1
  clear h hn1 hle hb1
  go_enter Try.func129, Try.ntmps129
  go_upto_region 2 with (first | ((with_reducible go_at_call 141); (with_reducible refine (HLN.out _).mono ?_); rintro e w1 ⟨rfl, x1, rfl⟩) | ((with_reducible go_at_call 140); (with_reducible refine (HN1.out _ (ext_below w x1)).mono ?_); rintro e w2 ⟨rfl, hr2, hg2⟩; have HR2 := Lib.hid hr2; have HG2 := Lib.hid hg2; clear hr2 hg2))
  obtain ⟨hM2, hF2⟩ := (HM.out.up (ext_below w x1)).read HR2.out HG2.out
  have HM2 := Lib.hid hM2
  have HF2 := Lib.hid ((fx_below (S := MSet gm gr gw vb) (ext_below w x1)).trans hF2)
  clear hM2 hF2 HR2 HG2
  by_cases he1 : e1 = 0
  · subst he1
    rw [if_neg (fun h => h rfl)] at HY
    obtain ⟨hn3, hp1⟩ := HNN.out rfl
    have HN3 := Lib.hid hn3
    have HP1 := Lib.hid hp1
    have hT2 := ht.fx HF2.out (fun k h1 h2 => ha k h1 h2)
    obtain ⟨gt, hgt, hT⟩ := hT2.here
    have HTI := Lib.hid hT2
    have HRD := Lib.hid (readP (hT.up' (below_drewN w2 1)) (HM2.out.rd.up (below_drewN w2 1)) h15 hs hp1)
    rw [← World.drew_is_drewN] at HRD
    unfold RetRead at HRD
    have c0 : w2.cell? ⟨gm, 0, none⟩ = some (.pointer (some ⟨gr, 0, none⟩)) := HM2.out.box.cell (by decide)
    have c6 : w2.cell? ⟨gm, 6, none⟩ = some (.pointer (some ⟨gt, 0, none⟩)) := by rw [← hgt]; exact HM2.out.box.cell (by decide)
    have hgm := HM2.out.box.blk.2
    have hne : some gm ≠ some gr := fun e => HM2.out.n1 (by injection e)
    unfold cpyI2 at HY
    clear hT2 hT hn3 hp1 HNN
    go_wp2_with (fail)
    refine wp_region_phases (fun w' => ∃ x, w' = chg w2 (some gr) x) [([0,1,2,3,4,5,6,7],[8]), ([9,10,11,12,13],[])] (by kernel_rfl) (by kernel_rfl) (ex_chg (grown_drew _ _)) ?_
    (unfold wpPhases; simp only [pick, List.map_cons, List.map_nil, List.getD_cons_zero, List.getD_cons_succ])
    repeat (go_big_quiet_step (fail))
    refine wpQuiet_nil ?_
    unfold wpAct
    go_wp2_with ((with_reducible go_at_call 128); (with_reducible refine HRD.out.mono ?_); rintro e w3 ⟨a, er, d, rfl, hrn, hb3, hg3⟩; have HR3 := Lib.hid hrn; have HB3 := Lib.hid hb3; have HG3 := Lib.hid (grown_trans (grown_drew w2 (some gr)) hg3); clear hrn hb3 hg3)
    refine ⟨ex_chg HG3.out, ?_⟩
    unfold wpAct
    (unfold wpPhases; simp only [pick, List.map_cons, List.map_nil, List.getD_cons_zero, List.getD_cons_succ])
    repeat (go_big_quiet_step (fail))
    refine wpQuiet_nil ?_
    unfold wpAct
    unfold wpPhases
    intro hz; clear hz
    obtain ⟨ra, re, rd⟩ := read_one HR3.out (readF_ok z.di (numS s / 2 ^ p1) (8 * s.size - p1))
    rw [← ra, ← re, ← rd] at HY
    have HRL := Lib.hid (read_le HR3.out)
    have HRA : Hid (a < 100000) := Lib.hid (by
      rcases HR3.out with ⟨h1, -⟩ | ⟨-, h1, -⟩ <;> omega)
    obtain ⟨hM3, hF3⟩ := HM2.out.read HB3.out HG3.out
    have HM3 := Lib.hid hM3
    have HF3 := Lib.hid (HF2.out.trans hF3)
    clear hM3 hF3 HB3 HG3 HRD HM2 HF2 c0 c6 hgm ra re rd HTI hgt
    by_cases her : er = 0
    · subst her
      rw [if_neg (fun h => h rfl)] at HY
      have HP3 : Hid (p1 + d ≤ 8 * s.size) := Lib.hid (by have := HRL.out; have := HP1.out; omega)
      have HDS := Lib.hid (fun W => dstP' a HRA.out W)
      have hle := fun h => dstB_le (s := a) h
      have hb1 : (dstB a).1 ≤ 40000 ∧ (dstB a).2.1 ≤ 32 := by
        by_cases h : (dstB a).2.2 = true
        · obtain ⟨x1, x2, x3⟩ := hle h
          have : 0 < 2 ^ (dstB a).2.1 := Nat.pow_pos (by decide)
          omega
        · have : dstB a = (0, 0, false) := by
            unfold dstB at h ⊢
            by_cases h1 : a < 30
            · rw [if_pos h1] at h; exact absurd rfl h
            · rw [if_neg h1]
          rw [this]; decide
      have HN4 := Lib.hid (fun (W : World) (hb : Below w3.heap.size w3 W) => numberM (HM3.out.box.up hb) (HM3.out.rd.up hb) hs HP3.out (dstB a) hb1.1 hb1.2)
      have hn4 : (numB (numS s) (8 * s.size) (p1 + d) (dstB a)).2.1 = 0 → 1 ≤ (numB (numS s) (8 * s.size) (p1 + d) (dstB a)).1 ∧ (numB (numS s) (8 * s.size) (p1 + d) (dstB a)).1 ≤ 40000 := fun e => by
        obtain ⟨a1, a2, a3, a4⟩ := numB_ok e
        obtain ⟨x1, x2, x3⟩ := hle a1
        have := valN_lt (numS s) (p1 + d) (dstB a).2.1
        omega
      generalize numB (numS s) (8 * s.size) (p1 + d) (dstB a) = D4 at *
      unfold symB at HDS
      generalize dstB a = L4 at *
      obtain ⟨q1, q2, q3⟩ := L4
      obtain ⟨dd, e4, p4⟩ := D4
      simp only at HY HDS HN4 hn4
      have HN5 := Lib.hid hn4
      clear hn4 hle hb1 HR3 HRL HRA
      unfold cpyI3 at HY
      simp only at HY
      go_upto_region 8 with (first | ((with_reducible go_at_call 142); (with_reducible refine (HDS.out _).mono ?_); rintro e w4 ⟨rfl, x4, rfl⟩) | ((with_reducible go_at_call 140); (with_reducible refine (HN4.out _ (ext_below w3 x4)).mono ?_); rintro e w5 ⟨rfl, hr5, hg5⟩; have HR5 := Lib.hid hr5; have HG5 := Lib.hid hg5; clear hr5 hg5))
      obtain ⟨hM5, hF5⟩ := (HM3.out.up (ext_below w3 x4)).read HR5.out HG5.out
      have HM5 := Lib.hid hM5
      have HF5 := Lib.hid (HF3.out.trans ((fx_below (S := MSet gm gr gw vb) (ext_below w3 x4)).trans hF5))
      clear hM5 hF5 HR5 HG5 HM3 HF3
      by_cases he4 : e4 = 0
      · subst he4
        rw [if_neg (fun h => h rfl)] at HY
        obtain ⟨hd1, hd2⟩ := HN5.out rfl
        have HCP := Lib.hid (copyWn HM5.out.win HM5.out.B dd n hd1 hd2 (by have := HN3.out; omega))
        unfold RetCopy at HCP
        have c1 : w5.cell? ⟨gm, 1, none⟩ = some (.pointer (some ⟨gw, 0, none⟩)) := HM5.out.box.cell (by decide)
        have hgm := HM5.out.box.blk.2
        by_cases hbig : min z.h.length 32768 < dd
        · simp only [if_pos hbig] at HCP
          rw [if_pos hbig] at HY
          clear hbig hd1 hd2
          go_wp2_with ((with_reducible go_at_call 143); (with_reducible refine HCP.out.mono ?_); rintro e w6 ⟨rfl, hw6⟩; rw [hw6]; clear hw6)
          go_ret2
          refine ⟨⟨#[]⟩, p4, z.h, vb, m, by rw [HY.out]; rfl, HM5.out, HF5.out, fun k e => .inl e, fun e => ?_, fun _ => rfl⟩
          rw [HY.out] at e
          cases e
        · simp only [if_neg hbig] at HCP
          rw [if_neg hbig] at HY
          clear hbig hd1 hd2
          go_wp2_with ((with_reducible go_at_call 143); (with_reducible refine HCP.out.mono ?_); rintro e w6 ⟨c, v6, rfl, hc6, hl6, hw6, hk6, hf6⟩; have HC6 := Lib.hid hc6; have HW6 := Lib.hid hw6; have HK6 := Lib.hid hk6; have HF6 := Lib.hid hf6; clear hc6 hw6 hk6 hf6 hl6)
          go_ret2
          obtain ⟨hM7, hF7⟩ := HM5.out.wset HW6.out HK6.out HF6.out
          refine ⟨⟨c.toArray⟩, p4, z.h ++ c, v6, m, by rw [HY.out]; rfl, hM7, HF5.out.trans hF7, fun k e => (HK6.out k e).imp id (fun h => Nat.le_trans HF5.out.size h), fun e => ?_, fun _ => rfl⟩
          rw [HY.out]
          exact ⟨rfl, HC6.out.symm, by rw [bys_mk]; exact HC6.out, rfl⟩
      · rw [if_pos he4] at HY
        have hei : ((e4 : Int) != 0) = true := by simpa using he4
        go_wp2
        go_ret2
        refine ⟨⟨#[]⟩, p4, z.h, vb, m, by rw [HY.out]; rfl, HM5.out, HF5.out, fun k e => .inl e, fun e => ?_, fun _ => rfl⟩
        rw [HY.out] at e
        exact absurd e he4
    · rw [if_pos her] at HY
      have hei : ((er : Int) != 0) = true := by simpa using her
      go_wp2
      go_ret2
      refine ⟨⟨#[]⟩, p1 + d, z.h, vb, m, by rw [HY.out]; rfl, HM3.out, HF3.out, fun k e => .inl e, fun e => ?_, fun _ => rfl⟩
      rw [HY.out] at e
      exact absurd e her
  · rw [if_pos he1] at HY
    have hei : ((e1 : Int) != 0) = true := by simpa using he1
    go_wp2
    go_ret2
    refine ⟨⟨#[]⟩, p1, z.h, vb, m, by rw [HY.out]; rfl, HM2.out, HF2.out, fun k e => .inl e, fun e => ?_, fun _ => rfl⟩
    rw [HY.out] at e
    exact absurd e he1
end Go.Cm

/- The walk of a coded block's next bytes. Conditions: the machine is there, its tables lie apart. -/
namespace Go.Cm
open Go.RowKit Go.Proofs

def MRel (z : IS) (m : MV) : Prop := m.at_ = z.md ∧ m.fin = z.fin ∧ (z.md = 1 → m.left = z.left) ∧ (z.md < 3 → m.vf = fnV z.md)
def MKeep (m m' : MV) : Prop := m'.vl = m.vl ∧ m'.vd = m.vd ∧ m'.made = m.made ∧ m'.told = m.told ∧ m'.waits = m.waits ∧ m'.wrong = m.wrong ∧ m'.vs = m.vs
theorem MKeep.refl (m : MV) : MKeep m m := ⟨rfl, rfl, rfl, rfl, rfl, rfl, rfl⟩
theorem MRel.close {z : IS} {m : MV} (h : MRel z m) : MRel (closeI z) m.close ∧ MKeep m m.close := by
  obtain ⟨h1, h2, h3, h4⟩ := h
  unfold closeI MV.close MV.turn
  refine ⟨⟨by show (if m.fin = true then 3 else 0) = _; rw [h2], h2, fun e => ?_, fun e => ?_⟩, rfl, rfl, rfl, rfl, rfl, rfl, rfl⟩
  · have e' : (if z.fin = true then 3 else 0) = 1 := e
    split at e' <;> cases e'
  · have e' : (if z.fin = true then 3 else 0) < 3 := e
    show (if (if m.fin = true then 3 else 0) < 3 then fnV (if m.fin = true then 3 else 0) else m.vf) = fnV (if z.fin = true then 3 else 0)
    rw [h2, if_pos e']
theorem MRel.of {z z' : IS} {m : MV} (h : MRel z m) (h1 : z'.md = z.md) (h2 : z'.fin = z.fin) (h3 : z'.left = z.left) : MRel z' m := by
  obtain ⟨a, b, c, d⟩ := h
  exact ⟨a.trans h1.symm, b.trans h2.symm, fun e => by rw [h3]; exact c (by rw [← h1]; exact e), fun e => by rw [h1]; exact d (by rw [← h1]; exact e)⟩
theorem cpyI_same {N T s p : Nat} {z : IS} : (cpyI N T z s p).2.md = z.md ∧ (cpyI N T z s p).2.fin = z.fin ∧ (cpyI N T z s p).2.left = z.left := by
  unfold cpyI
  split
  · exact ⟨rfl, rfl, rfl⟩
  · unfold cpyI2
    split
    · exact ⟨rfl, rfl, rfl⟩
    · unfold cpyI3
      split
      · exact ⟨rfl, rfl, rfl⟩
      · split <;> exact ⟨rfl, rfl, rfl⟩
theorem RetMake.mono {B gm gr gw : Nat} {vb : Value} {s : ByteArray} {h0 : Byts} {m : MV} {M M' : MV → Prop} {y : Nat × IS} {w : World} {e : Ending} {w' : World} (h : RetMake B gm gr gw vb s h0 m M y w e w') (hM : y.1 = 0 → ∀ x, M x → M' x) : RetMake B gm gr gw vb s h0 m M' y w e w' := by
  obtain ⟨c, p', H', vb', m', h1, h2, h3, h4, h5, h6⟩ := h
  exact ⟨c, p', H', vb', m', h1, h2, h3, h4, fun e => (let ⟨a, b, c, d⟩ := h5 e; ⟨a, b, c, hM e _ d⟩), h6⟩
/-- a call's answer, where memory was changed ahead of it -/
theorem RetMake.from {B gm gr gw : Nat} {vb : Value} {s : ByteArray} {h0 : Byts} {m : MV} {M : MV → Prop} {y : Nat × IS} {w w1 : World} {e : Ending} {w' : World} (hf : Fx (MSet gm gr gw vb) w w1) (h : RetMake B gm gr gw vb s h0 m M y w1 e w') : RetMake B gm gr gw vb s h0 m M y w e w' := by
  obtain ⟨c, p', H', vb', m', h1, h2, h3, h4, h5, h6⟩ := h
  exact ⟨c, p', H', vb', m', h1, h2, hf.trans h3, fun k e => (h4 k e).imp id (fun q => Nat.le_trans hf.size q), h5, h6⟩
set_option maxRecDepth 100000 in
set_option maxHeartbeats 2000000 in
theorem codedM {w : World} {B gm gr gw ta tb tc td : Nat} {vb : Value} {s : ByteArray} {z : IS} {m : MV} (h : Mach w B gm gr gw vb s z.p z.h m) (hl : TabIv w m.vl ta tb z.li) (ht : TabIv w m.vd tc td z.di) (ha : ∀ k, tc ≤ k → k < td → ¬ MSet gm gr gw vb k)
    (h15l : ∀ x ∈ z.li, x ≤ 15) (h15 : ∀ x ∈ z.di, x ≤ 15) (hs : s.size ≤ 4294967296) (hp : z.p ≤ 8 * s.size) (hll : z.li.length < 100000) (hdl : z.di.length < 100000) (hr : MRel z m) :
    Calls Try.prog 111 #[.pointer (some ⟨gm, 0, none⟩)] w (RetMake B gm gr gw vb s z.h m (fun m' => MRel (codI (numS s) (8 * s.size) z).2 m' ∧ MKeep m m') (codI (numS s) (8 * s.size) z) w) := by
  obtain ⟨Y, hY⟩ : ∃ Y, Y = codI (numS s) (8 * s.size) z := ⟨_, rfl⟩
  rw [← hY]
  have HY := Lib.hid hY
  clear hY
  unfold codI codI2 at HY
  have HM := Lib.hid h
  obtain ⟨gt, hgt, hT⟩ := hl.here
  have HRD := Lib.hid (readP (hT.up' (below_drewN w 1)) (h.rd.up (below_drewN w 1)) h15l hs hp)
  rw [← World.drew_is_drewN] at HRD
  unfold RetRead at HRD
  have c0 : w.cell? ⟨gm, 0, none⟩ = some (.pointer (some ⟨gr, 0, none⟩)) := h.box.cell (by decide)
  have c5 : w.cell? ⟨gm, 5, none⟩ = some (.pointer (some ⟨gt, 0, none⟩)) := by rw [← hgt]; exact h.box.cell (by decide)
  have hgm := h.box.blk.2
  have hne : some gm ≠ some gr := fun e => h.n1 (by injection e)
  clear h hT
  go_enter Try.func111, Try.ntmps111
  go_wp2_with (fail)
  refine wp_region_phases (fun w' => ∃ x, w' = chg w (some gr) x) [([0,1,2,3,4,5,6,7],[8]), ([9,10,11,12,13],[])] (by kernel_rfl) (by kernel_rfl) (ex_chg (grown_drew _ _)) ?_
  (unfold wpPhases; simp only [pick, List.map_cons, List.map_nil, List.getD_cons_zero, List.getD_cons_succ])
  repeat (go_big_quiet_step (fail))
  refine wpQuiet_nil ?_
  unfold wpAct
  go_wp2_with ((with_reducible go_at_call 128); (with_reducible refine HRD.out.mono ?_); rintro e w3 ⟨a, er, d, rfl, hrn, hb3, hg3⟩; have HR3 := Lib.hid hrn; have HB3 := Lib.hid hb3; have HG3 := Lib.hid (grown_trans (grown_drew w (some gr)) hg3); clear hrn hb3 hg3)
  refine ⟨ex_chg HG3.out, ?_⟩
  unfold wpAct
  (unfold wpPhases; simp only [pick, List.map_cons, List.map_nil, List.getD_cons_zero, List.getD_cons_succ])
  repeat (go_big_quiet_step (fail))
  refine wpQuiet_nil ?_
  unfold wpAct
  unfold wpPhases
  intro hz; clear hz
  obtain ⟨ra, re, rd⟩ := read_one HR3.out (readF_ok z.li (numS s / 2 ^ z.p) (8 * s.size - z.p))
  rw [← ra, ← re, ← rd] at HY
  have HRL := Lib.hid (read_le HR3.out)
  have HRA : Hid (a < 100000) := Lib.hid (by
    rcases HR3.out with ⟨h1, -⟩ | ⟨-, h1, -⟩ <;> omega)
  obtain ⟨hM3, hF3⟩ := HM.out.read HB3.out HG3.out
  have HM3 := Lib.hid hM3
  have HF3 := Lib.hid hF3
  have HT3 := Lib.hid (ht.fx hF3 (fun k h1 h2 => ha k h1 h2))
  clear hM3 hF3 HB3 HG3 HRD HM c0 c5 hgm ra re rd hgt ht hl
  by_cases her : er = 0
  · subst her
    rw [if_neg (fun h => h rfl)] at HY
    have HP3 : Hid (z.p + d ≤ 8 * s.size) := Lib.hid (by have := HRL.out; omega)
    by_cases h256 : a = 256
    · rw [if_pos h256] at HY
      subst h256
      have HCL := Lib.hid (closeM HM3.out.box)
      go_wp2_with ((with_reducible go_at_call 125); (with_reducible refine HCL.out.mono ?_); rintro e w4 ⟨rfl, h4, g4⟩; have H4 := Lib.hid h4; have G4 := Lib.hid g4; clear h4 g4)
      go_ret2
      obtain ⟨hM4, hF4⟩ := HM3.out.mset H4.out G4.out
      refine ⟨⟨#[]⟩, z.p + d, z.h, vb, m.close, by rw [HY.out]; rfl, hM4, HF3.out.trans hF4, fun k e => .inl e, fun _ => ?_, fun e => ?_⟩
      · rw [HY.out]
        exact ⟨rfl, rfl, by simp [closeI, bys], (hr.of (z' := { z with p := z.p + d }) rfl rfl rfl).close⟩
      · rw [HY.out] at e; exact absurd rfl e
    · rw [if_neg h256] at HY
      have h256i : ((a : Int) == 256) = false := by simp; omega
      by_cases hgt : 256 < a
      · rw [if_pos hgt] at HY
        have hga : (a : Int) > 256 := by omega
        have hgn : 256 < a := hgt
        have hsm := cpyI_same (N := numS s) (T := 8 * s.size) (z := z) (s := a) (p := z.p + d)
        have HCO := Lib.hid (copiedM HM3.out HT3.out ha h15 hs HP3.out a HRA.out hdl)
        rw [← HY.out] at HCO hsm
        have HSM := Lib.hid hsm
        clear hsm hgt
        go_wp2_with ((with_reducible go_at_call 129); (with_reducible refine HCO.out.mono ?_); rintro e w4 hret; have HRT := Lib.hid (RetMake.from HF3.out hret); obtain ⟨c, p', H', vb', m', rfl, -⟩ := hret)
        go_ret2
        exact HRT.out.mono (fun _ x hx => by
          obtain ⟨s1, s2, s3⟩ := HSM.out
          rw [hx]
          exact ⟨hr.of s1 s2 s3, MKeep.refl m⟩)
      · rw [if_neg hgt] at HY
        have hga : ¬ 256 < a := hgt
        have ha8 : a < 256 := by omega
        clear hgt
        have hb8 : IntKind.u8.wrap (a : Int) = (a : Int) := by unfold IntKind.wrap; simp [IntKind.bits, IntKind.signed]; omega
        have h5b := own_lit w3 w3.heap.size #[.int .u8 (a : Nat)] 5 (by simp) (Nat.le_refl _)
        have hcv := run_bytes_string (P := Try.prog) (w3.alloc (.cells #[.int .u8 (a : Nat)] 5)) 43 9 5 Try.underlying43 Try.underlying5 Try.underlying9 (.slice (some ⟨w3.heap.size, 0, none⟩) 1 1) [UInt8.ofNat a] (by
          rw [byte_u8 a ha8]
          exact h5b.sl)
        have HCV := Lib.hid hcv
        have HA5 := Lib.hid (below_alloc w3 (.cells #[.int .u8 (a : Nat)] 5))
        have HM5 := Lib.hid (HM3.out.up HA5.out)
        have HF5 := Lib.hid (HF3.out.trans (fx_below (S := MSet gm gr gw vb) HA5.out))
        obtain ⟨cs, hcs⟩ : ∃ cs : ByteArray, cs = ⟨[UInt8.ofNat a].toArray⟩ := ⟨_, rfl⟩
        have HPU := Lib.hid (putWn HM5.out.win HM5.out.B cs (by rw [hcs]; show [UInt8.ofNat a].toArray.size ≤ _; simp))
        have HCS := Lib.hid hcs
        rw [← hcs] at HCV
        clear h5b hcv hcs
        go_upto_region 10 with ((with_reducible show wpList _ _ _ (Oper.mk _ (.convert _ _ _) _ _ _ _ :: _) _ _); refine wpList_conv_by rfl 43 9 (.tmp 38) rfl _ HCV.out ?_)
        have hby : bys cs = [UInt8.ofNat a] := by rw [HCS.out, bys_mk]
        rw [hby] at HPU
        generalize w3.alloc (.cells #[.int .u8 (a : Nat)] 5) = w5 at *
        have c1 : w5.cell? ⟨gm, 1, none⟩ = some (.pointer (some ⟨gw, 0, none⟩)) := HM5.out.box.cell (by decide)
        have hgm := HM5.out.box.blk.2
        clear HCV HA5 HM3 HF3 HT3
        go_wp2_with ((with_reducible go_at_call 84); (with_reducible refine HPU.out.mono ?_); rintro e w6 ⟨rfl, v6, hw6, hk6, hf6⟩; have HW6 := Lib.hid hw6; have HK6 := Lib.hid hk6; have HF6 := Lib.hid hf6; clear hw6 hk6 hf6)
        go_ret2
        obtain ⟨hM7, hF7⟩ := HM5.out.wset HW6.out HK6.out HF6.out
        refine ⟨cs, z.p + d, z.h ++ [UInt8.ofNat a], v6, m, by rw [HY.out]; rfl, hM7, HF5.out.trans hF7, fun k e => (HK6.out k e).imp id (fun h => Nat.le_trans HF5.out.size h), fun e => ?_, fun _ => rfl⟩
        rw [HY.out, hby]
        exact ⟨rfl, rfl, rfl, hr.of rfl rfl rfl, MKeep.refl m⟩
  · rw [if_pos her] at HY
    have hei : ((er : Int) != 0) = true := by simpa using her
    go_wp2
    go_ret2
    refine ⟨⟨#[]⟩, z.p + d, z.h, vb, m, by rw [HY.out]; rfl, HM3.out, HF3.out, fun k e => .inl e, fun e => ?_, fun _ => rfl⟩
    rw [HY.out] at e
    exact absurd e her
end Go.Cm

/- The walk of a stored block's next bytes. Conditions: the machine is there. -/
namespace Go.Cm
open Go.RowKit Go.Proofs

set_option maxRecDepth 100000 in
set_option maxHeartbeats 2000000 in
theorem storedM {w : World} {B gm gr gw : Nat} {vb : Value} {s : ByteArray} {z : IS} {m : MV} (h : Mach w B gm gr gw vb s z.p z.h m) (hs : s.size ≤ 4294967296) (hp : z.p ≤ 8 * s.size) (hal : z.p % 8 = 0) (hlf : z.left ≤ 65535) (hr : MRel z m) (hmd : z.md = 1) :
    Calls Try.prog 110 #[.pointer (some ⟨gm, 0, none⟩)] w (RetMake B gm gr gw vb s z.h m (fun m' => MRel (storI (8 * s.size) (bys s) z).2 m' ∧ MKeep m m') (storI (8 * s.size) (bys s) z) w) := by
  obtain ⟨Y, hY⟩ : ∃ Y, Y = storI (8 * s.size) (bys s) z := ⟨_, rfl⟩
  rw [← hY]
  have HY := Lib.hid hY
  clear hY
  unfold storI at HY
  have HM := Lib.hid h
  have hml := hr.2.2.1 hmd
  have HR := Lib.hid hr
  have c4 : w.cell? ⟨gm, 4, none⟩ = some (.int .i64 (z.left : Nat)) := by rw [← hml]; exact h.box.cell (by decide)
  have c0 : w.cell? ⟨gm, 0, none⟩ = some (.pointer (some ⟨gr, 0, none⟩)) := h.box.cell (by decide)
  have hgm := h.box.blk.2
  clear h hr
  by_cases h0 : z.left = 0
  · rw [if_pos h0] at HY
    rw [h0] at c4
    have HCL := Lib.hid (closeM HM.out.box)
    clear h0 hlf
    go_enter Try.func110, Try.ntmps110
    go_wp2_with ((with_reducible go_at_call 125); (with_reducible refine HCL.out.mono ?_); rintro e w4 ⟨rfl, h4, g4⟩; have H4 := Lib.hid h4; have G4 := Lib.hid g4; clear h4 g4)
    go_ret2
    obtain ⟨hM4, hF4⟩ := HM.out.mset H4.out G4.out
    refine ⟨⟨#[]⟩, z.p, z.h, vb, m.close, by rw [HY.out]; rfl, hM4, hF4, fun k e => .inl e, fun _ => ?_, fun e => ?_⟩
    · rw [HY.out]
      exact ⟨rfl, rfl, by simp [closeI, bys], HR.out.close⟩
    · rw [HY.out] at e; exact absurd rfl e
  · rw [if_neg h0] at HY
    have h0i : ((z.left : Int) == 0) = false := by simp; omega
    obtain ⟨q, hq⟩ : ∃ q, q = 8 * s.size - z.p := ⟨_, rfl⟩
    obtain ⟨q8, hq8⟩ : ∃ q8, q8 = q / 8 := ⟨_, rfl⟩
    obtain ⟨n, hn⟩ : ∃ n, n = min z.left q8 := ⟨_, rfl⟩
    have HLF := Lib.hid (fun x => leftS (HM.out.rd.up (ext_below w x)) hs hp)
    rw [← hq] at HLF
    rw [← hq, ← hq8, ← hn] at HY
    have hqd : (q : Int).tdiv 8 = (q8 : Nat) := by rw [Int.tdiv_eq_ediv_of_nonneg (by omega)]; omega
    have hqe : (q : Int) / 8 = (q8 : Nat) := by omega
    have hqb : q8 ≤ 4294967296 := by omega
    have HMN := Lib.hid hn
    have HNL : Hid (n ≤ z.left ∧ z.p + 8 * n ≤ 8 * s.size) := Lib.hid (by omega)
    obtain ⟨lf, hlf2⟩ : ∃ lf, lf = z.left := ⟨_, rfl⟩
    have HLE := Lib.hid hlf2
    rw [← hlf2] at c4 h0i HMN
    have hlf3 : lf ≤ 65535 := by omega
    clear hq hq8 h0 hlf hlf2 hn
    go_enter Try.func110, Try.ntmps110
    go_wp2_with (fail)
    refine wp_region_ext (by kernel_rfl) (by kernel_rfl) ?_
    repeat (first
      | (go_big_quiet_want; (with_reducible show Oper.quiet _ (Oper.mk _ (.call _) _ _ _ _) _ _ _); refine quiet_min (.tmp 17) (.tmp 23) 3 3 rfl lf q8 n rfl rfl HMN.out ?_; go_simp; go_big_quiet_on)
      | go_big_quiet_step ((go_at_call 126; exact calls_in (HLF.out _))))
    refine wpQuiet_nil ?_
    rintro w1 ⟨y1, rfl⟩
    have HB1 := Lib.hid (ext_below w y1)
    have HM1 := Lib.hid (HM.out.up HB1.out)
    generalize ext w y1 = w1 at *
    clear HLF hqd hqe
    by_cases hn0 : n = 0
    · rw [if_pos hn0] at HY
      subst hn0
      go_wp2
      go_ret2
      refine ⟨⟨#[]⟩, z.p, z.h, vb, m, by rw [HY.out]; rfl, HM1.out, fx_below HB1.out, fun k e => .inl e, fun e => ?_, fun _ => rfl⟩
      rw [HY.out] at e
      cases e
    · rw [if_neg hn0] at HY
      have hni : ((n : Int) == 0) = false := by simp; omega
      obtain ⟨hnl1, hnl2⟩ := HNL.out
      have HBY := Lib.hid (bytesRd HM1.out.rd hs n hal hnl2)
      obtain ⟨C, hC⟩ : ∃ C, C = ((bys s).drop (z.p / 8)).take n := ⟨_, rfl⟩
      rw [← hC] at HBY HY
      have hCl : C.length ≤ 65535 := by rw [hC, List.length_take]; have := HLE.out; omega
      obtain ⟨cs, hcs⟩ : ∃ cs : ByteArray, cs = ⟨C.toArray⟩ := ⟨_, rfl⟩
      rw [← hcs] at HBY
      have hby : bys cs = C := by rw [hcs, bys_mk]
      have HCZ : Hid (cs.size ≤ 50000000) := Lib.hid (by rw [← bys_len, hby]; omega)
      have HBC := Lib.hid hby
      have c0 : w1.cell? ⟨gm, 0, none⟩ = some (.pointer (some ⟨gr, 0, none⟩)) := HM1.out.box.cell (by decide)
      have c1 : w1.cell? ⟨gm, 1, none⟩ = some (.pointer (some ⟨gw, 0, none⟩)) := HM1.out.box.cell (by decide)
      have hgm1 := HM1.out.box.blk.2
      have hln : (lf : Int) - (n : Int) = ((lf - n : Nat) : Int) := by have := HLE.out; omega
      obtain ⟨ln, hln2⟩ : ∃ ln, ln = lf - n := ⟨_, rfl⟩
      rw [← hln2] at hln
      have hlnb : ln ≤ 65535 := by omega
      have HLN := Lib.hid hln2
      have hne : gm ≠ gr := HM1.out.n1
      clear hC hCl hcs hby hn0 hnl1 hnl2 hln2
      go_upto_region 8 with ((with_reducible go_at_call 127); (with_reducible refine HBY.out.mono ?_); rintro e w2 ⟨rfl, hb2, hg2⟩; have HB2 := Lib.hid hb2; have HG2 := Lib.hid hg2; clear hb2 hg2)
      obtain ⟨hM2, hF2⟩ := HM1.out.read HB2.out HG2.out
      have HM2 := Lib.hid hM2
      have HF2 := Lib.hid ((fx_below (S := MSet gm gr gw vb) HB1.out).trans hF2)
      obtain ⟨hS3, hG3⟩ := hM2.box.set 4 (.int .i64 (ln : Nat)) (m' := { m with left := ln }) rfl
      obtain ⟨hM3, hF3⟩ := hM2.mset hS3 hG3
      have c4' : w2.cell? ⟨gm, 4, none⟩ = some (.int .i64 (lf : Nat)) := by rw [HLE.out, ← hml]; exact hM2.box.cell (by decide)
      have f4 := hM2.box.free 4
      have g2 := hM2.box.blk.2
      have HM3 := Lib.hid hM3
      have HF3 := Lib.hid (HF2.out.trans hF3)
      have HPU := Lib.hid (putWn hM3.win hM3.B cs HCZ.out)
      have c1' : (w2.setCell ⟨gm, 4, none⟩ (.int .i64 (ln : Nat))).cell? ⟨gm, 1, none⟩ = some (.pointer (some ⟨gw, 0, none⟩)) := hM3.box.cell (by decide)
      clear hM2 hF2 hS3 hG3 hM3 hF3 HM1 HB1 HM
      go_wp2_with ((with_reducible go_at_call 84); (with_reducible refine HPU.out.mono ?_); rintro e w6 ⟨rfl, v6, hw6, hk6, hf6⟩; have HW6 := Lib.hid hw6; have HK6 := Lib.hid hk6; have HF6 := Lib.hid hf6; clear hw6 hk6 hf6)
      go_ret2
      obtain ⟨hM7, hF7⟩ := HM3.out.wset HW6.out HK6.out HF6.out
      refine ⟨cs, z.p + 8 * n, z.h ++ bys cs, v6, { m with left := ln }, by rw [HY.out]; rfl, hM7, HF3.out.trans hF7, fun k e => (HK6.out k e).imp id (fun h => Nat.le_trans HF3.out.size h), fun _ => ?_, fun e => ?_⟩
      · rw [HY.out, HBC.out]
        refine ⟨rfl, rfl, rfl, ⟨HR.out.1, HR.out.2.1, fun _ => ?_, HR.out.2.2.2⟩, rfl, rfl, rfl, rfl, rfl, rfl, rfl⟩
        show ln = z.left - n
        rw [HLN.out, HLE.out]
      · rw [HY.out] at e; exact absurd rfl e
end Go.Cm

/- A whole machine in memory. Conditions: as each says. -/
namespace Go.Cm
open Go.RowKit Go.Proofs

theorem TabM.agr {w w' : World} {B g sy : Nat} {E : Nat → Ent} {fs : List Sub} {vf : Value} (h : TabM w B g sy E fs vf) (ha : ∀ k, B ≤ k → k < w.heap.size → w'.heap[k]? = w.heap[k]?) : TabM w' B g sy E fs vf := by
  have key : ∀ {T : TypeId} {v : Value} {xs : List Value}, Own w B T v xs → Own w' B T v xs := fun ho => ho.of_blk (fun k e => ha k (ho.lt k e).1 (ho.lt k e).2)
  exact ⟨key h.box, key h.outer, h.ne, fun k f hf => ⟨key (h.rows k f hf).1, (h.rows k f hf).2⟩, h.apart⟩
theorem TabAt.iv {w w' : World} {g : Nat} {L : List Nat} (h : TabAt w' w.heap.size g L) : TabIv w' (.pointer (some ⟨g, 0, none⟩)) w.heap.size w'.heap.size L := by
  obtain ⟨E, fs, vf, h1, h2⟩ := h
  exact ⟨g, rfl, Nat.le_refl _, fun w'' ha _ => ⟨E, fs, vf, h1.agr ha, h2⟩⟩
def stC (x : Nat × Nat) : List Value := [.int .i64 (x.1 : Nat), .int .i64 (x.2 : Nat)]
/-- all blocks that a machine writes -/
abbrev FSet (gm gr gw : Nat) (vb vs : Value) (k : Nat) : Prop := MSet gm gr gw vb k ∨ vs.ownBlock = some k
/-- a machine with its starts; apart -/
structure Full0 (w : World) (B gm gr gw : Nat) (vb : Value) (s : ByteArray) (p : Nat) (H : Byts) (st : List (Nat × Nat)) (m : MV) : Prop where
  mach : Mach w B gm gr gw vb s p H m
  sts : OwnK 2 w B 59 m.vs (st.map stC)
  sd : ∀ k, m.vs.ownBlock = some k → k ≠ gm ∧ k ≠ gr ∧ k ≠ gw ∧ vb.ownBlock ≠ some k
/-- .. where nothing is wrong; its tables avoid X -/
structure Full (w : World) (B gm gr gw : Nat) (vb : Value) (X : Nat → Prop) (s : ByteArray) (z : IS) (m : MV) : Prop where
  f0 : Full0 w B gm gr gw vb s z.p z.h z.st m
  rel : MRel z m
  tabs : z.md = 2 → ∃ ta tb tc td, TabIv w m.vl ta tb z.li ∧ TabIv w m.vd tc td z.di ∧ ∀ k, (ta ≤ k ∧ k < tb) ∨ (tc ≤ k ∧ k < td) → ¬ FSet gm gr gw vb m.vs k ∧ ¬ X k
theorem ffx_next {gm gr gw : Nat} {vb vb' vs vs' : Value} {w w1 w2 : World} (h : Fx (FSet gm gr gw vb vs) w w1) (hk : ∀ k, vb'.ownBlock = some k → vb.ownBlock = some k ∨ w.heap.size ≤ k) (hk2 : ∀ k, vs'.ownBlock = some k → vs.ownBlock = some k ∨ w.heap.size ≤ k) (k : Fx (FSet gm gr gw vb' vs') w1 w2) : Fx (FSet gm gr gw vb vs) w w2 :=
  ⟨k.os.trans h.os, k.tape.trans h.tape, k.output.trans h.output, Nat.le_trans h.size k.size, fun i hi h1 => by
    rw [k.block i (Nat.lt_of_lt_of_le hi h.size) (fun e => ?_), h.block i hi h1]
    rcases e with (e | e | e | e) | e
    · exact h1 (.inl (.inl e))
    · exact h1 (.inl (.inr (.inl e)))
    · exact h1 (.inl (.inr (.inr (.inl e))))
    · rcases hk i e with h2 | h2
      · exact h1 (.inl (.inr (.inr (.inr h2))))
      · omega
    · rcases hk2 i e with h2 | h2
      · exact h1 (.inr h2)
      · omega⟩
/-- the starts stay where the machine alone goes on -/
theorem OwnK.fx {k : Nat} {S : Nat → Prop} {w w' : World} {B : Nat} {E : TypeId} {v : Value} {l : List (List Value)} (h : OwnK k w B E v l) (hf : Fx S w w') (hS : ∀ q, v.ownBlock = some q → ¬ S q) : OwnK k w' B E v l := by
  obtain ⟨⟨h0, h1⟩, h2⟩ := h
  refine ⟨⟨h0, ?_⟩, h2⟩
  rcases h1 with h1 | ⟨g, cap, cur, e, hb, hg, hr⟩
  · exact .inl h1
  · refine .inr ⟨g, cap, cur, e, hb, ?_, hr⟩
    rw [hf.block g (Array.getElem?_eq_some_iff.1 hg).1 (hS g (by rw [e]; rfl))]; exact hg
theorem Full0.make {w w' : World} {B gm gr gw p p' : Nat} {vb vb' : Value} {s : ByteArray} {H H' : Byts} {st : List (Nat × Nat)} {m m' : MV} (h : Full0 w B gm gr gw vb s p H st m) (hM : Mach w' B gm gr gw vb' s p' H' m') (hf : Fx (MSet gm gr gw vb) w w') (hk : ∀ k, vb'.ownBlock = some k → vb.ownBlock = some k ∨ w.heap.size ≤ k) (hv : m'.vs = m.vs) : Full0 w' B gm gr gw vb' s p' H' st m' := by
  have h1 : OwnK 2 w' B 59 m.vs (st.map stC) := h.sts.fx hf (fun q e z => by
    obtain ⟨a, b, c, d⟩ := h.sd q e
    rcases z with z | z | z | z
    · exact a z
    · exact b z
    · exact c z
    · exact d z)
  refine ⟨hM, by rw [hv]; exact h1, fun k e => ?_⟩
  · rw [hv] at e
    obtain ⟨a, b, c, d⟩ := h.sd k e
    refine ⟨a, b, c, fun z => ?_⟩
    rcases hk k z with q | q
    · exact d q
    · have := (h.sts.lt k e).2; omega
theorem Full0.up {w w' : World} {B gm gr gw p : Nat} {vb : Value} {s : ByteArray} {H : Byts} {st : List (Nat × Nat)} {m : MV} (h : Full0 w B gm gr gw vb s p H st m) (hb : Below w.heap.size w w') : Full0 w' B gm gr gw vb s p H st m := ⟨h.mach.up hb, h.sts.up hb, h.sd⟩
theorem Full0.mset {w w' : World} {B gm gr gw p : Nat} {vb : Value} {s : ByteArray} {H : Byts} {st : List (Nat × Nat)} {m m' : MV} (h : Full0 w B gm gr gw vb s p H st m) (hm : MBox w' B gm gr gw m') (hg : w.grownBy w' (some gm)) (hv : m'.vs = m.vs) : Full0 w' B gm gr gw vb s p H st m' ∧ Fx (FSet gm gr gw vb m.vs) w w' := by
  obtain ⟨a, b⟩ := h.mach.mset hm hg
  exact ⟨h.make a b (fun k e => .inl e) hv, b.mono (fun k e => .inl e)⟩
theorem Mach.fx {S : Nat → Prop} {w w' : World} {B gm gr gw p : Nat} {vb : Value} {s : ByteArray} {H : Byts} {m : MV} (h : Mach w B gm gr gw vb s p H m) (hf : Fx S w w') (hS : ∀ k, MSet gm gr gw vb k → ¬ S k) : Mach w' B gm gr gw vb s p H m :=
  ⟨h.box.fx hf (hS gm (.inl rfl)), ⟨hf.own h.rd.own (fun k e => by cases e; exact hS _ (.inr (.inl rfl)))⟩, h.win.fx hf (hS gw (.inr (.inr (.inl rfl)))) (fun k e => hS k (.inr (.inr (.inr e)))), h.n1, h.n2, h.n3, h.b1, h.b2, h.Br⟩
theorem Full0.push {w w5 : World} {B gm gr gw p : Nat} {vb v' : Value} {s : ByteArray} {H : Byts} {st : List (Nat × Nat)} {m : MV} {x : Nat × Nat} (h : Full0 w B gm gr gw vb s p H st m) (ho : OwnK 2 w5 B 59 v' (st.map stC ++ [stC x])) (hg : w.grownBy w5 m.vs.ownBlock) (hk : ∀ k, v'.ownBlock = some k → m.vs.ownBlock = some k ∨ w.heap.size ≤ k) :
    MBox w5 B gm gr gw m ∧ Full0 (w5.setCell ⟨gm, 11, none⟩ v') B gm gr gw vb s p H (st ++ [x]) { m with vs := v' } ∧ Fx (FSet gm gr gw vb m.vs) w (w5.setCell ⟨gm, 11, none⟩ v') := by
  have hf : Fx (fun k => m.vs.ownBlock = some k) w w5 := fx_grown hg (fun k e => e)
  have hM : Mach w5 B gm gr gw vb s p H m := h.mach.fx hf (fun k e z => by
    obtain ⟨a, b, c, d⟩ := h.sd k z
    rcases e with e | e | e | e
    · exact a e
    · exact b e
    · exact c e
    · exact d e)
  obtain ⟨hS, hG⟩ := hM.box.set 11 v' (m' := { m with vs := v' }) rfl
  obtain ⟨hM6, hF6⟩ := hM.mset hS hG
  have hgm := h.mach.box.blk.2
  have hgr := h.mach.rd.lt
  have hgw : gw < w.heap.size ∧ ∀ k, vb.ownBlock = some k → k < w.heap.size := by
    obtain ⟨b, hb, -⟩ := h.mach.win
    exact ⟨hb.box.blk.2, fun k e => (hb.own.lt k e).2⟩
  have hsd : ∀ k, v'.ownBlock = some k → k ≠ gm ∧ k ≠ gr ∧ k ≠ gw ∧ vb.ownBlock ≠ some k := fun k e => by
    rcases hk k e with z | z
    · exact h.sd k z
    · exact ⟨by omega, by omega, by omega, fun q => by have := hgw.2 k q; omega⟩
  refine ⟨hM.box, ⟨hM6, ?_, hsd⟩, ?_⟩
  · rw [List.map_append]
    exact ho.keep hG (.inr (fun e => (hsd gm e).1 rfl))
  · exact (hf.mono (fun k e => .inr e)).trans (hF6.mono (fun k e => .inl e))
end Go.Cm

/- The walk of a block's head. Conditions: the machine is there. -/
namespace Go.Cm
open Go.RowKit Go.Proofs

/-- what keeps of the machine's words -/
def MKeep2 (m m' : MV) : Prop := m'.made = m.made ∧ m'.told = m.told ∧ m'.waits = m.waits ∧ m'.wrong = m.wrong
/-- what a step of the machine answers -/
def RetFull (B gm gr gw : Nat) (vb : Value) (X : Nat → Prop) (s : ByteArray) (z : IS) (m : MV) (y : Nat × IS) (w : World) (e : Ending) (w' : World) : Prop :=
  ∃ c p' H' vb' m', e = .returned (.tuple #[.string c, .int .i64 (y.1 : Nat)]) ∧ Fx (FSet gm gr gw vb m.vs) w w' ∧ (∀ k, vb'.ownBlock = some k → vb.ownBlock = some k ∨ w.heap.size ≤ k) ∧ (∀ k, m'.vs.ownBlock = some k → m.vs.ownBlock = some k ∨ w.heap.size ≤ k) ∧ MKeep2 m m' ∧
    (y.1 = 0 → Full w' B gm gr gw vb' X s y.2 m' ∧ y.2.h = z.h ++ bys c) ∧ (y.1 ≠ 0 → Full0 w' B gm gr gw vb' s p' H' z.st m')
theorem start_one (a b : Nat) : ∀ u ∈ ([[Value.int .i64 (a : Nat), .int .i64 (b : Nat)]] : List (List Value)).flatten, u.oneCell' = true := by
  intro u hu; simp at hu; rcases hu with rfl | rfl <;> rfl
theorem start_len (a b : Nat) : ∀ x ∈ ([[Value.int .i64 (a : Nat), .int .i64 (b : Nat)]] : List (List Value)), x.length = 2 := by
  intro x hx; simp at hx; subst hx; rfl
set_option maxRecDepth 100000 in
set_option maxHeartbeats 4000000 in
theorem headM {w : World} {B gm gr gw pre : Nat} {vb : Value} {X : Nat → Prop} {s : ByteArray} {z : IS} {m : MV} (h : Full0 w B gm gr gw vb s z.p z.h z.st m) (hs : s.size ≤ 4294967296) (hp : z.p ≤ 8 * s.size) (hmade : m.made = z.h.length - pre) (hst : z.st.length ≤ 100000000) (hX : ∀ k, X k → k < w.heap.size) :
    Calls Try.prog 58 #[.pointer (some ⟨gm, 0, none⟩)] w (RetFull B gm gr gw vb X s z m (headI (numS s) (8 * s.size) pre z) w) := by
  obtain ⟨Y, hY⟩ : ∃ Y, Y = headI (numS s) (8 * s.size) pre z := ⟨_, rfl⟩
  rw [← hY]
  have HY := Lib.hid hY
  clear hY
  unfold headI at HY
  have HF := Lib.hid h
  have HX := Lib.hid hX
  clear hX
  have HAT := Lib.hid (atS h.mach.rd)
  have HRP := Lib.hid (readHP h.mach.rd hs hp)
  unfold RetHead at HRP
  have HER := Lib.hid (fun e => head_err (N := numS s) (T := 8 * s.size) (p := z.p) ⟨s.size, rfl⟩ hp e)
  have HKI := Lib.hid (fun e => head_kinds (N := numS s) (T := 8 * s.size) (p := z.p) e)
  have HSZ := Lib.hid (fun e => head_size (N := numS s) (T := 8 * s.size) (p := z.p) ⟨s.size, rfl⟩ hp e)
  generalize headF (numS s) (8 * s.size) z.p = D at *
  have HMD := Lib.hid hmade
  have c0 : w.cell? ⟨gm, 0, none⟩ = some (.pointer (some ⟨gr, 0, none⟩)) := h.mach.box.cell (by decide)
  have hgm := h.mach.box.blk.2
  clear h hmade
  go_enter Try.func58, Try.ntmps58
  go_upto_region 3 with (first | ((with_reducible go_at_call 61); (with_reducible refine HAT.out.mono ?_); rintro e w' ⟨rfl, hw⟩; rw [hw]; clear hw) | ((with_reducible go_at_call 85); (with_reducible refine HRP.out.mono ?_); rintro e w1 ⟨v1, v2, rfl, ho1, ho2, hx, hg⟩; have HX1 := Lib.hid hx; have HG1 := Lib.hid hg; have HO1 := Lib.hid ho1; have HO2 := Lib.hid ho2; obtain ⟨o1, c1, g1, hv1, -⟩ := ho1.cases; obtain ⟨o2, c2, g2, hv2, -⟩ := ho2.cases; subst hv1 hv2; generalize (ints (nls D.1.lits)).length = n1 at *; generalize (ints (nls D.1.dists)).length = n2 at *; clear ho1 ho2 hx hg))
  have HHA := Lib.hid (ownH w1 D.1.fin (D.1.kind : Nat) (D.1.size : Nat) o1 o2 n1 n2 c1 c2 87)
  have HBA := Lib.hid (below_alloc w1 (.cells #[.bool D.1.fin, .int .i64 (D.1.kind : Nat), .int .i64 (D.1.size : Nat), .slice o1 n1 c1, .slice o2 n2 c2] 87))
  obtain ⟨hM1, hF1⟩ := HF.out.mach.read HX1.out HG1.out
  have HM2 := Lib.hid (hM1.up HBA.out)
  have HB2 := Lib.hid HBA.out.size
  have HF2 := Lib.hid (hF1.trans (fx_below (S := MSet gm gr gw vb) HBA.out))
  have HO1' := Lib.hid (HO1.out.up HBA.out)
  have HO2' := Lib.hid (HO2.out.up HBA.out)
  have hw1 : w.heap.size ≤ w1.heap.size := HG1.out.size
  generalize w1.alloc (.cells #[.bool D.1.fin, .int .i64 (D.1.kind : Nat), .int .i64 (D.1.size : Nat), .slice o1 n1 c1, .slice o2 n2 c2] 87) = w2 at *
  have HW1 := Lib.hid hw1
  generalize w1.heap.size = b1 at *
  clear hM1 hF1 HX1 HG1 HO1 HO2 HBA HAT HRP c0 hgm
  have HU2 := Lib.hid (HF.out.make HM2.out HF2.out (fun k e => .inl e) rfl)
  by_cases he : D.2.1 = 0
  · rw [if_neg (by rw [he]; exact fun h => h rfl)] at HY
    have hei : ((D.2.1 : Int) != 0) = false := by rw [he]; rfl
    have HKI2 := Lib.hid (HKI.out he)
    have HER2 := Lib.hid (HER.out he)
    have HSZ2 := Lib.hid (HSZ.out he)
    go_upto_region 5 with (fail)
    obtain ⟨row, hrw⟩ : ∃ row, row = m.vs.ownBlock := ⟨_, rfl⟩
    have HROW := Lib.hid hrw
    have hne : some gm ≠ row := fun e => (HU2.out.sd gm (by rw [← hrw, ← e])).1 rfl
    have c11 : w2.cell? ⟨gm, 11, none⟩ = some m.vs := HM2.out.box.cell (by decide)
    have c7 : w2.cell? ⟨gm, 7, none⟩ = some (.int .i64 (m.made : Nat)) := HM2.out.box.cell (by decide)
    have hgm := HM2.out.box.blk.2
    obtain ⟨mm, hmm⟩ : ∃ mm, mm = m.made := ⟨_, rfl⟩
    have HMM := Lib.hid hmm
    rw [← hmm] at c7
    have HTO := Lib.hid ((HU2.out.sts.up (below_drewN w2 1)).up (below_alloc _ (.cells #[.int .i64 (z.p : Nat), .int .i64 (mm : Nat)] 59)))
    rw [← World.drew_is_drewN] at HTO
    have hsl := slK_lit 2 w2.drew #[.int .i64 (z.p : Nat), .int .i64 (mm : Nat)] 59 [[.int .i64 (z.p : Nat), .int .i64 (mm : Nat)]] rfl (start_len _ _) (by simp)
    have HSL : Hid (SlK 2 (w2.drew.alloc (.cells #[.int .i64 (z.p : Nat), .int .i64 (mm : Nat)] 59)) (.slice (some ⟨w2.heap.size, 0, none⟩) 1 1) [[.int .i64 (z.p : Nat), .int .i64 (mm : Nat)]]) := Lib.hid (by simpa using hsl)
    have HLN : Hid ((z.st.map stC).length + [[Value.int .i64 (z.p : Nat), .int .i64 (mm : Nat)]].length ≤ 1000000000) := Lib.hid (by rw [List.length_map, List.length_singleton]; omega)
    have HT4 : Hid (B ≤ (w2.drew.alloc (.cells #[.int .i64 (z.p : Nat), .int .i64 (mm : Nat)] 59)).heap.size) := Lib.hid (Nat.le_trans HM2.out.B (below_alloc w2.drew _).size)
    clear hrw hsl hmm
    refine wp_region_tail (fun w' => ∃ x, w' = chg w2 row x) [0,1,2,3,4,5,6,7,8,9,10] [11,12,13,14] [15] (by kernel_rfl) (by kernel_rfl) (ex_chg (grown_drew _ _)) ?_
    simp only [pick, List.map_cons, List.map_nil, List.getD_cons_zero, List.getD_cons_succ]
    repeat (go_big_quiet_step (fail))
    refine wpQuiet_nil ?_
    (unfold wpAct; go_wp2; refine ⟨ex_chg (grown_below (by repeat (first | exact Below.refl _ _ | assumption | refine b_drewN ?_ _ | refine Below.drew ?_ | refine b_ext' ?_ _ | refine b_alloc' ?_ _)) _), ?_⟩)
    unfold wpAct
    go_wp2_with (at_builtin; go_loud (refine wpList_appK 2 rfl (.tmp 27) (.tmp 34) 45 rfl B 59 (.agg #[.int .i64 0, .int .i64 0]) 16 Try.underlying45 (by kernel_rfl) rfl (by decide) (by decide) m.vs _ rfl HTO.out _ _ rfl HSL.out (start_len _ _) (start_one _ _) HLN.out HT4.out ?_); intro v' w5 hown1 hg1 hk1; rw [← HROW.out] at hg1 hk1; have HO5 := Lib.hid hown1; have HG5 := Lib.hid hg1; have HK5 := Lib.hid hk1; clear hown1 hg1 hk1)
    refine ⟨ex_chg (grown_trans (grown_below (by repeat (first | exact Below.refl _ _ | assumption | refine b_drewN ?_ _ | refine Below.drew ?_ | refine b_ext' ?_ _ | refine b_alloc' ?_ _)) _) HG5.out), ?_⟩
    (unfold wpAct; go_wp2; refine ⟨ex_chg (grown_trans (grown_below (by repeat (first | exact Below.refl _ _ | assumption | refine b_drewN ?_ _ | refine Below.drew ?_ | refine b_ext' ?_ _ | refine b_alloc' ?_ _)) _) HG5.out), ?_⟩)
    (unfold wpAct; go_wp2; refine ⟨ex_chg (grown_trans (grown_below (by repeat (first | exact Below.refl _ _ | assumption | refine b_drewN ?_ _ | refine Below.drew ?_ | refine b_ext' ?_ _ | refine b_alloc' ?_ _)) _) HG5.out), ?_⟩)
    unfold wpAct
    have HU3 := Lib.hid ((HU2.out.up (below_drewN w2 1)).up (below_alloc _ (.cells #[.int .i64 (z.p : Nat), .int .i64 (mm : Nat)] 59)))
    rw [← World.drew_is_drewN] at HU3
    obtain ⟨o5, k5, q5, off5, hv5, -, -⟩ := HO5.out.sl
    obtain ⟨l5, hl5⟩ : ∃ l5, l5 = (z.st.map stC ++ [[Value.int .i64 (z.p : Nat), .int .i64 (mm : Nat)]]).length := ⟨_, rfl⟩
    rw [← hl5] at hv5
    subst hv5
    obtain ⟨hB5, hU6, hF6⟩ := HU3.out.push (x := (z.p, mm)) HO5.out (by have h := HG5.out; rw [HROW.out] at h; exact h) (by have h := HK5.out; rw [HROW.out] at h; exact h)
    have c115 : w5.cell? ⟨gm, 11, none⟩ = some m.vs := hB5.cell (by decide)
    have f115 := hB5.free 11
    have g5 := hB5.blk.2
    have HU6 := Lib.hid hU6
    have hb3 : Below w2.heap.size w2 (w2.drew.alloc (.cells #[.int .i64 (z.p : Nat), .int .i64 (mm : Nat)] 59)) := (below_drewN w2 1).trans ((below_alloc _ _).mono (Nat.le_refl _))
    have HF6 := Lib.hid ((fx_below (S := FSet gm gr gw vb m.vs) hb3).trans hF6)
    have HK6 : Hid (∀ k, (Value.slice o5 l5 k5).ownBlock = some k → m.vs.ownBlock = some k ∨ w2.heap.size ≤ k) := Lib.hid (fun k e => by
      have h := HK5.out k e
      rw [HROW.out] at h
      exact h.imp id (fun q => Nat.le_trans hb3.size q))
    clear hB5 hU6 hF6 HU3 hl5 HTO HSL HLN HT4 HG5 HK5 HO5
    unfold wpAct
    go_wp2
    refine ⟨trivial, ?_⟩
    unfold wpAct
    generalize w5.setCell ⟨gm, 11, none⟩ (.slice o5 l5 k5) = w6 at *
    clear c115 f115 g5 c11 c7 hgm hb3
    have hlt : gm < w.heap.size ∧ gr < w.heap.size ∧ gw < w.heap.size ∧ (∀ k, vb.ownBlock = some k → k < w.heap.size) ∧ (∀ k, m.vs.ownBlock = some k → k < w.heap.size) := by
      obtain ⟨b, hb, -⟩ := HF.out.mach.win
      exact ⟨HF.out.mach.box.blk.2, HF.out.mach.rd.lt, hb.box.blk.2, fun k e => (hb.own.lt k e).2, fun k e => (HF.out.sts.lt k e).2⟩
    have HLT := Lib.hid hlt
    have hge : ∀ k, w.heap.size ≤ k → ¬ FSet gm gr gw vb m.vs k := fun k hk e => by
      obtain ⟨a, b, c, d, f⟩ := hlt
      rcases e with (e | e | e | e) | e
      · omega
      · omega
      · omega
      · have := d k e; omega
      · have := f k e; omega
    have HGE := Lib.hid hge
    have HH6 := Lib.hid (HF6.out.own HHA.out (fun k e => by cases e; exact hge _ HW1.out))
    have HI1 := Lib.hid (HF6.out.own HO1'.out (fun k e => hge k (HO1'.out.lt k e).1))
    have HI2 := Lib.hid (HF6.out.own HO2'.out (fun k e => hge k (HO2'.out.lt k e).1))
    obtain ⟨hS7, hG7⟩ := HU6.out.mach.box.set 3 (.bool D.1.fin) (m' := { m with vs := .slice o5 l5 k5, fin := D.1.fin }) rfl
    obtain ⟨hU7, hF7⟩ := HU6.out.mset hS7 hG7 rfl
    have hbne : gm ≠ b1 := fun e => by have := hlt.1; have := HW1.out; omega
    have HH7 := Lib.hid (HH6.out.keep hG7 (.inr (fun e => hbne (by injection e with e; exact e.symm))))
    have HI17 := Lib.hid (HI1.out.keep hG7 (.inr (fun e => by have h1 := (HI1.out.lt gm e).1; have := hlt.1; omega)))
    have HI27 := Lib.hid (HI2.out.keep hG7 (.inr (fun e => by have h1 := (HI2.out.lt gm e).1; have := hlt.1; omega)))
    have HU7 := Lib.hid hU7
    have HF7 := Lib.hid (ffx_next HF6.out (fun k e => .inl e) (fun k e => HK6.out k e) hF7)
    have c3 : w6.cell? ⟨gm, 3, none⟩ = some (.bool m.fin) := HU6.out.mach.box.cell (by decide)
    have f3 := HU6.out.mach.box.free 3
    have g6 := HU6.out.mach.box.blk.2
    have p0 : w6.cell? ⟨b1, 0, none⟩ = some (.bool D.1.fin) := HH6.out.cell (by simp)
    have p1 : (w6.setCell ⟨gm, 3, none⟩ (.bool D.1.fin)).cell? ⟨b1, 1, none⟩ = some (.int .i64 (D.1.kind : Nat)) := HH7.out.cell (by simp)
    have hb6 := HH6.out.blk.2
    clear hS7 hG7 hU7 hF7 hge hlt HI1 HI2 HO1' HO2' HHA HH6 HU2 HM2
    go_upto_region 7 with (fail)
    generalize w6.setCell ⟨gm, 3, none⟩ (.bool D.1.fin) = w7 at *
    have HKK7 : Hid (∀ k, (Value.slice o5 l5 k5).ownBlock = some k → m.vs.ownBlock = some k ∨ w2.heap.size ≤ k) := HK6
    have HF7' := Lib.hid ((HF2.out.mono (fun k hk => (Or.inl hk : FSet gm gr gw vb m.vs k))).trans HF7.out)
    have HKW : Hid (∀ k, (Value.slice o5 l5 k5).ownBlock = some k → m.vs.ownBlock = some k ∨ w.heap.size ≤ k) := Lib.hid (fun k e => (HK6.out k e).imp id (fun q => Nat.le_trans (Nat.le_trans HW1.out HB2.out) q))
    clear p0 c3 f3 g6 hb6 HF6 HU6 HF7 HK6 HKK7
    have hb7 := HH7.out.blk.2
    have g7 := HU7.out.mach.box.blk.2
    have HME : Hid (mm = z.h.length - pre) := Lib.hid (HMM.out.trans HMD.out)
    by_cases hk0 : D.1.kind = 0
    · rw [if_pos hk0] at HY
      rw [hk0] at p1
      have p2 : w7.cell? ⟨b1, 2, none⟩ = some (.int .i64 (D.1.size : Nat)) := HH7.out.cell (by simp)
      have c4 : w7.cell? ⟨gm, 4, none⟩ = some (.int .i64 (m.left : Nat)) := HU7.out.mach.box.cell (by decide)
      have f4 := HU7.out.mach.box.free 4
      obtain ⟨hS8, hG8⟩ := HU7.out.mach.box.set 4 (.int .i64 (D.1.size : Nat)) (m' := { m with vs := .slice o5 l5 k5, fin := D.1.fin, left := D.1.size }) rfl
      obtain ⟨hU8, hF8⟩ := HU7.out.mset hS8 hG8 rfl
      have HU8 := Lib.hid hU8
      have HF8 := Lib.hid (ffx_next (vs' := .slice o5 l5 k5) HF7'.out (fun k e => .inl e) (fun k e => HKW.out k e) hF8)
      have HTN := Lib.hid (turnM hU8.mach.box 1 (by decide))
      clear hS8 hG8 hU8 hF8
      go_wp2_with ((with_reducible go_at_call 86); (refine HTN.out.mono ?_); rintro e w9 ⟨rfl, h9, g9⟩; have H9 := Lib.hid h9; have G9 := Lib.hid g9; clear h9 g9)
      go_ret2
      obtain ⟨hU9, hF9⟩ := HU8.out.mset H9.out G9.out rfl
      refine ⟨⟨#[]⟩, 0, [], vb, MV.turn { m with vs := .slice o5 l5 k5, fin := D.1.fin, left := D.1.size } 1, by rw [HY.out]; rfl, ffx_next (vs' := .slice o5 l5 k5) HF8.out (fun k e => .inl e) (fun k e => HKW.out k e) hF9, fun k e => .inl e, fun k e => HKW.out k e, ⟨rfl, rfl, rfl, rfl⟩, fun _ => ?_, fun e => ?_⟩
      · rw [HY.out]
        refine ⟨⟨?_, ⟨rfl, rfl, fun _ => rfl, fun _ => rfl⟩, fun e => by cases e⟩, by simp [bys]⟩
        show Full0 w9 B gm gr gw vb s D.2.2 z.h (z.st ++ [(z.p, z.h.length - pre)]) _
        rw [← HME.out]
        exact hU9
      · rw [HY.out] at e; exact absurd rfl e
    · rw [if_neg hk0] at HY
      obtain ⟨her1, her2⟩ := HER2.out hk0
      have hki : ((D.1.kind : Int) == 0) = false := by simpa using hk0
      have p3 : w7.cell? ⟨b1, 3, none⟩ = some (.slice o1 n1 c1) := HH7.out.cell (by simp)
      have HN1 := Lib.hid (newP (.slice o1 n1 c1) (nls D.1.lits) w7 HI17.out.sl)
      unfold RetTab at HN1
      rw [nls_toNat] at HN1
      have HE1 := Lib.hid her1
      have HE2 := Lib.hid her2
      clear her1 her2
      go_upto_region 11 with (fail)
      go_wp2_with (fail)
      (with_reducible refine HN1.out.mono ?_)
      rintro e w8 ⟨hb8, ⟨-, t1, rfl, ht1⟩ | ⟨h1, -⟩⟩
      · have HU8 := Lib.hid (HU7.out.up hb8)
        have HH8 := Lib.hid (HH7.out.up hb8)
        have HI28 := Lib.hid (HI27.out.up hb8)
        have HT8 := Lib.hid ht1.iv
        have HS8 := Lib.hid hb8.size
        have HF8 := Lib.hid (HF7'.out.trans (fx_below (S := FSet gm gr gw vb m.vs) hb8))
        have c5 : w8.cell? ⟨gm, 5, none⟩ = some m.vl := HU8.out.mach.box.cell (by decide)
        have f5 := HU8.out.mach.box.free 5
        have g8 := HU8.out.mach.box.blk.2
        have p4 : w8.cell? ⟨b1, 4, none⟩ = some (.slice o2 n2 c2) := HH8.out.cell (by simp)
        have hb1 := HH8.out.blk.2
        obtain ⟨hS9, hG9⟩ := HU8.out.mach.box.set 5 (.pointer (some ⟨t1, 0, none⟩)) (m' := { m with vs := .slice o5 l5 k5, fin := D.1.fin, vl := .pointer (some ⟨t1, 0, none⟩) }) rfl
        obtain ⟨hU9, hF9⟩ := HU8.out.mset hS9 hG9 rfl
        have HU9 := Lib.hid hU9
        have HG9 := Lib.hid hG9
        have HF9 := Lib.hid (ffx_next (vs' := .slice o5 l5 k5) HF8.out (fun k e => .inl e) (fun k e => HKW.out k e) hF9)
        have HH9 := Lib.hid (HH8.out.keep hG9 (.inr (fun e => hbne (by injection e with e; exact e.symm))))
        have hlt7 : gm < w7.heap.size := g7
        have HI29 := Lib.hid (HI28.out.keep hG9 (.inr (fun e => by have h1 := (HI28.out.lt gm e).1; have := HLT.out.1; omega)))
        have p49 : (w8.setCell ⟨gm, 5, none⟩ (.pointer (some ⟨t1, 0, none⟩))).cell? ⟨b1, 4, none⟩ = some (.slice o2 n2 c2) := HH9.out.cell (by simp)
        have hb9 := HH9.out.blk.2
        clear hb8 ht1 hS9 hG9 hU9 hF9
        go_upto_region 13 with (fail)
        generalize w8.setCell ⟨gm, 5, none⟩ (.pointer (some ⟨t1, 0, none⟩)) = w9 at *
        clear c5 f5 g8 p4 hb1 p1 p3
        have HN2 := Lib.hid (newP (.slice o2 n2 c2) (nls D.1.dists) w9 HI29.out.sl)
        unfold RetTab at HN2
        rw [nls_toNat] at HN2
        go_wp2_with (fail)
        (with_reducible refine HN2.out.mono ?_)
        rintro e w10 ⟨hb10, ⟨-, t2, rfl, ht2⟩ | ⟨h2, -⟩⟩
        · have HU10 := Lib.hid (HU9.out.up hb10)
          have HF10 := Lib.hid (HF9.out.trans (fx_below (S := FSet gm gr gw vb m.vs) hb10))
          have hnot : ∀ k, w7.heap.size ≤ k → ¬ FSet gm gr gw vb (.slice o5 l5 k5) k := fun k hk e => by
            obtain ⟨a, b, c, d, -⟩ := HLT.out
            have h7 : w.heap.size ≤ w7.heap.size := HF7'.out.size
            rcases e with (e | e | e | e) | e
            · omega
            · omega
            · omega
            · have := d k e; omega
            · have := (HU7.out.sts.lt k e).2; omega
          have HNOT := Lib.hid hnot
          have hs79 : w7.heap.size ≤ w9.heap.size := Nat.le_trans HS8.out HG9.out.size
          have HS79 := Lib.hid hs79
          have hf9 : Fx (fun k => k = gm) w8 w9 := fx_grown HG9.out (fun k e => by injection e with e; exact e.symm)
          have HTA := Lib.hid ((HT8.out.fx hf9 (fun k hk _ e => by omega)).fx (fx_below (S := fun _ => False) hb10) (fun _ _ _ h => h))
          have HTB := Lib.hid ht2.iv
          have c6 : w10.cell? ⟨gm, 6, none⟩ = some m.vd := HU10.out.mach.box.cell (by decide)
          have f6 := HU10.out.mach.box.free 6
          have g10 := HU10.out.mach.box.blk.2
          obtain ⟨hS11, hG11⟩ := HU10.out.mach.box.set 6 (.pointer (some ⟨t2, 0, none⟩)) (m' := { m with vs := .slice o5 l5 k5, fin := D.1.fin, vl := .pointer (some ⟨t1, 0, none⟩), vd := .pointer (some ⟨t2, 0, none⟩) }) rfl
          obtain ⟨hU11, hF11⟩ := HU10.out.mset hS11 hG11 rfl
          have HU11 := Lib.hid hU11
          have HG11 := Lib.hid hG11
          have HF11 := Lib.hid (ffx_next (vs' := .slice o5 l5 k5) HF10.out (fun k e => .inl e) (fun k e => HKW.out k e) hF11)
          have HTN := Lib.hid (turnM hU11.mach.box 2 (by decide))
          clear hb10 ht2 hS11 hG11 hU11 hF11 hf9 hnot hs79
          go_wp2_with ((with_reducible go_at_call 86); (refine HTN.out.mono ?_); rintro e w12 ⟨rfl, h9, g9⟩; have H12 := Lib.hid h9; have G12 := Lib.hid g9; clear h9 g9)
          go_ret2
          obtain ⟨hU12, hF12⟩ := HU11.out.mset H12.out G12.out rfl
          refine ⟨⟨#[]⟩, 0, [], vb, MV.turn { m with vs := .slice o5 l5 k5, fin := D.1.fin, vl := .pointer (some ⟨t1, 0, none⟩), vd := .pointer (some ⟨t2, 0, none⟩) } 2, by rw [HY.out]; rfl, ffx_next (vs' := .slice o5 l5 k5) HF11.out (fun k e => .inl e) (fun k e => HKW.out k e) hF12, fun k e => .inl e, fun k e => HKW.out k e, ⟨rfl, rfl, rfl, rfl⟩, fun _ => ?_, fun e => ?_⟩
          · rw [HY.out]
            have hfa : Fx (fun k => k = gm) w10 w12 := fx_grown (grown_trans HG11.out G12.out) (fun k e => by injection e with e; exact e.symm)
            refine ⟨⟨?_, ⟨rfl, rfl, fun e => (by cases e), fun _ => rfl⟩, fun _ => ?_⟩, by simp [bys]⟩
            · show Full0 w12 B gm gr gw vb s D.2.2 z.h (z.st ++ [(z.p, z.h.length - pre)]) _
              rw [← HME.out]
              exact hU12
            · refine ⟨_, _, _, _, HTA.out.fx hfa (fun k hk _ e => by omega), HTB.out.fx hfa (fun k hk _ e => by have := HS79.out; omega), fun k hk => ⟨HNOT.out k ?_, fun e => ?_⟩⟩
              · have := HS79.out
                omega
              · have := HX.out k e
                have h7 : w.heap.size ≤ w7.heap.size := HF7'.out.size
                have := HS79.out
                omega
          · rw [HY.out] at e; exact absurd rfl e
        · exact absurd HE2.out h2
      · exact absurd HE1.out h1
  · rw [if_pos he] at HY
    have hei : ((D.2.1 : Int) != 0) = true := by simpa using he
    go_wp2
    go_ret2
    refine ⟨⟨#[]⟩, D.2.2, z.h, vb, m, by rw [HY.out]; rfl, HF2.out.mono (fun k hk => .inl hk), fun k e => .inl e, fun k e => .inl e, ⟨rfl, rfl, rfl, rfl⟩, fun e => ?_, fun _ => HU2.out⟩
    rw [HY.out] at e
    exact absurd e he
end Go.Cm

/- A step of the machine, in any mode. Conditions: the machine is there. -/
namespace Go.Cm
open Go.RowKit Go.Proofs

theorem cpyI_keep {N T s p : Nat} {z : IS} : (cpyI N T z s p).2.st = z.st ∧ (cpyI N T z s p).2.li = z.li ∧ (cpyI N T z s p).2.di = z.di := by
  unfold cpyI cpyI2 cpyI3
  split
  · exact ⟨rfl, rfl, rfl⟩
  · split
    · exact ⟨rfl, rfl, rfl⟩
    · split
      · exact ⟨rfl, rfl, rfl⟩
      · split <;> exact ⟨rfl, rfl, rfl⟩
theorem codI_keep {N T : Nat} {z : IS} : (codI N T z).2.st = z.st ∧ (codI N T z).2.li = z.li ∧ (codI N T z).2.di = z.di := by
  unfold codI codI2
  split
  · exact ⟨rfl, rfl, rfl⟩
  · split
    · exact ⟨rfl, rfl, rfl⟩
    · split
      · exact cpyI_keep
      · exact ⟨rfl, rfl, rfl⟩
theorem storI_keep {T : Nat} {bs : Byts} {z : IS} (h : z.md = 1) : (storI T bs z).2.st = z.st ∧ (storI T bs z).2.md ≠ 2 := by
  unfold storI
  split
  · exact ⟨rfl, (close_ne z).2⟩
  · split
    · exact ⟨rfl, by rw [h]; decide⟩
    · exact ⟨rfl, by show z.md ≠ 2; rw [h]; decide⟩
theorem RetMake.full {w : World} {B gm gr gw : Nat} {vb : Value} {X : Nat → Prop} {s : ByteArray} {z : IS} {m : MV} {y : Nat × IS} {e : Ending} {w' : World} (hF : Full w B gm gr gw vb X s z m) (h : RetMake B gm gr gw vb s z.h m (fun m' => MRel y.2 m' ∧ MKeep m m') y w e w') (h1 : y.2.st = z.st)
    (h2 : y.1 = 0 → y.2.md = 2 → z.md = 2 ∧ y.2.li = z.li ∧ y.2.di = z.di) : RetFull B gm gr gw vb X s z m y w e w' := by
  obtain ⟨c, p', H', vb', m', he, hM, hf, hk, hy, hn⟩ := h
  have hf2 : Fx (FSet gm gr gw vb m.vs) w w' := hf.mono (fun k e => .inl e)
  by_cases h0 : y.1 = 0
  · obtain ⟨rfl, rfl, hc, hrel, hkp⟩ := hy h0
    have hvs : m'.vs = m.vs := hkp.2.2.2.2.2.2
    refine ⟨c, y.2.p, y.2.h, vb', m', he, hf2, hk, fun k e => .inl (by rw [← hvs]; exact e), ⟨hkp.2.2.1, hkp.2.2.2.1, hkp.2.2.2.2.1, hkp.2.2.2.2.2.1⟩, fun _ => ⟨⟨?_, hrel, fun h3 => ?_⟩, hc⟩, fun h3 => absurd h0 h3⟩
    · rw [h1]; exact hF.f0.make hM hf hk hvs
    · obtain ⟨hz, e1, e2⟩ := h2 h0 h3
      obtain ⟨ta, tb, tc, td, k1, k2, k3⟩ := hF.tabs hz
      have l1 : tb ≤ w.heap.size := by obtain ⟨_, _, q, _⟩ := k1; exact q
      have l2 : td ≤ w.heap.size := by obtain ⟨_, _, q, _⟩ := k2; exact q
      rw [e1, e2, hkp.1, hkp.2.1, hvs]
      refine ⟨ta, tb, tc, td, k1.fx hf2 (fun k a b => (k3 k (.inl ⟨a, b⟩)).1), k2.fx hf2 (fun k a b => (k3 k (.inr ⟨a, b⟩)).1), fun k hk' => ⟨fun e => ?_, (k3 k hk').2⟩⟩
      have hlt : k < w.heap.size := by omega
      refine (k3 k hk').1 ?_
      rcases e with (e | e | e | e) | e
      · exact .inl (.inl e)
      · exact .inl (.inr (.inl e))
      · exact .inl (.inr (.inr (.inl e)))
      · rcases hk k e with q | q
        · exact .inl (.inr (.inr (.inr q)))
        · omega
      · exact .inr e
  · have hm := hn h0
    subst hm
    exact ⟨c, p', H', vb', m', he, hf2, hk, fun k e => .inl e, ⟨rfl, rfl, rfl, rfl⟩, fun h3 => absurd h3 h0, fun _ => hF.f0.make hM hf hk rfl⟩
theorem nls_inj {a b : List Nat} (h : nls a = nls b) : a = b := by rw [← nls_toNat a, h, nls_toNat]
theorem lens_ok {L : List Nat} (h : errI (nls L) = 0) : L.length ≤ 320 ∧ ∀ x ∈ L, x ≤ 15 := by
  obtain ⟨M, h1, h2, h3, -⟩ := errI_list h
  rw [nls_inj h1]; exact ⟨h2, h3⟩
/-- a step of any mode -/
theorem makesM {w : World} {B gm gr gw pre : Nat} {vb : Value} {X : Nat → Prop} {s : ByteArray} {z : IS} {m : MV} (hF : Full w B gm gr gw vb X s z m) (hi : IOk (8 * s.size) pre z) (hmd : z.md ≠ 3) (hs : s.size ≤ 4294967296) (hmade : m.made = z.h.length - pre) (hst : z.st.length ≤ 100000000) (hX : ∀ k, X k → k < w.heap.size) :
    ∃ f, m.vf = .func (.func f) #[] #[] ∧ (∀ args w, (callFunc f args).run Try.prog w = .ok (.enter f args) w) ∧ Calls Try.prog f #[.pointer (some ⟨gm, 0, none⟩)] w (RetFull B gm gr gw vb X s z m (stI (numS s) (8 * s.size) pre (bys s) z) w) := by
  have h3 := hi.md
  have hv := hF.rel.2.2.2 (by omega)
  unfold stI
  rcases (show z.md = 0 ∨ z.md = 1 ∨ z.md = 2 by omega) with h0 | h0 | h0
  · rw [h0] at hv
    refine ⟨_, hv, enters_of Try.func58 (by kernel_rfl) rfl, ?_⟩
    rw [if_pos h0]
    exact headM hF.f0 hs hi.p hmade hst hX
  · rw [h0] at hv
    refine ⟨_, hv, enters_of Try.func110 (by kernel_rfl) rfl, ?_⟩
    rw [if_neg (by rw [h0]; decide), if_pos h0]
    obtain ⟨k1, k2⟩ := storI_keep (T := 8 * s.size) (bs := bys s) h0
    exact (storedM hF.f0.mach hs hi.p (hi.al h0) hi.left hF.rel h0).mono (fun e w' h => h.full hF k1 (fun _ q => absurd q k2))
  · rw [h0] at hv
    refine ⟨_, hv, enters_of Try.func111 (by kernel_rfl) rfl, ?_⟩
    rw [if_neg (by rw [h0]; decide), if_neg (by rw [h0]; decide), if_pos h0]
    obtain ⟨k1, k2, k3⟩ := codI_keep (N := numS s) (T := 8 * s.size) (z := z)
    obtain ⟨ta, tb, tc, td, t1, t2, t3⟩ := hF.tabs h0
    obtain ⟨a1, a2⟩ := lens_ok (hi.li.resolve_right (fun e => e h0))
    obtain ⟨b1, b2⟩ := lens_ok (hi.di.resolve_right (fun e => e h0))
    exact (codedM hF.f0.mach t1 t2 (fun k x y e => (t3 k (.inr ⟨x, y⟩)).1 (.inl e)) a2 b2 hs hi.p (by omega) (by omega) hF.rel).mono (fun e w' h => h.full hF k1 (fun _ _ => ⟨h0, k2, k3⟩))
end Go.Cm

/- Bytes of one's own that were made of a text, and a text behind them. Conditions: as each says. -/
namespace Go.Cm
open Go.RowKit Go.Proofs

theorem run_storeCells_nf (P : Program) (g o : Nat) (t : TypeId) (fz : Nat × Nat) : ∀ (vs : List Value) (i : Nat) (cur : Array Value) (w : World), w.heap[g]? = some (.cells cur t fz) → (cur.size ≤ fz.1 ∨ fz.2 = 0) → o + i + vs.length ≤ cur.size → (∀ v ∈ vs, v.oneCell' = true) →
    (storeCells ⟨g, o, none⟩ vs i).run P w = .ok () (w.setRow g (cur.toList.take (o + i) ++ vs ++ cur.toList.drop (o + i + vs.length)).toArray)
  | [], i, cur, w, hg, _, _, _ => by
    simp only [storeCells, List.append_nil, List.length_nil, Nat.add_zero, List.take_append_drop, Array.toArray_toList]
    rw [setRow_self w g cur t fz hg]
    rfl
  | v :: rest, i, cur, w, hg, hf, hl, h1 => by
    have hi : o + i < cur.size := by simp at hl; omega
    have hadd : (⟨g, o, none⟩ : Addr).add i = ⟨g, o + i, none⟩ := by unfold Addr.add; split <;> simp_all
    have hcell : w.cell? ⟨g, o + i, none⟩ = some cur[o + i] := by simp [World.cell?, hg, hi]
    have hfro : w.frozen? ⟨g, o + i, none⟩ = false := by
      obtain ⟨a, b⟩ := fz
      simp only [World.frozen?, hg, Bool.and_eq_false_iff, decide_eq_false_iff_not]
      simp only at hf
      omega
    have hst : (store ((⟨g, o, none⟩ : Addr).add i) v).run P w = .ok () (w.setRow g (cur.setIfInBounds (o + i) v)) := by
      rw [hadd, run_store P w _ v _ (h1 v (by simp)), hcell]
      simp [hfro, setCell_eq_setRow w g (o + i) cur t fz v hg]
    have ih := run_storeCells_nf P g o t fz rest (i + 1) (cur.setIfInBounds (o + i) v) (w.setRow g (cur.setIfInBounds (o + i) v)) (setRow_heap w g cur _ t _ hg) (by simpa using hf) (by simp at hl ⊢; omega) (fun x hx => h1 x (by simp [hx]))
    simp only [storeCells, Sem.run_bind, hst, Result.andThen_ok, ih, setRow_setRow]
    congr 3
    have e := list_seg_step cur.toList (o + i) v rest (by simp at hl ⊢; omega)
    simpa [Array.toList_setIfInBounds, Nat.add_assoc] using e
/-- bytes of one's own; nothing of them is shared with a text -/
def OwnF (w : World) (B : Nat) (E : TypeId) (v : Value) (xs : List Value) : Prop :=
  xs.length ≤ 140737488351232 ∧ ((v = .slice none 0 0 ∧ xs = []) ∨
   ∃ g cap cur fz, v = .slice (some ⟨g, 0, none⟩) xs.length cap ∧ B ≤ g ∧ w.heap[g]? = some (.cells cur E fz) ∧ (cur.size ≤ fz.1 ∨ fz.2 = 0) ∧ xs.length ≤ cap ∧ cap ≤ maxLen ∧ cur.size = cap ∧ cur.toList.take xs.length = xs)
theorem OwnF.lt {w : World} {B E : Nat} {v : Value} {xs : List Value} (h : OwnF w B E v xs) : ∀ k, v.ownBlock = some k → B ≤ k ∧ k < w.heap.size := by
  intro k hk
  obtain ⟨-, ⟨rfl, -⟩ | ⟨g, cap, cur, fz, rfl, hb, hg, -⟩⟩ := h
  · cases hk
  · injection hk with hk; subst hk
    exact ⟨hb, (Array.getElem?_eq_some_iff.1 hg).1⟩
theorem OwnF.fx {S : Nat → Prop} {w w' : World} {B E : Nat} {v : Value} {xs : List Value} (h : OwnF w B E v xs) (hf : Fx S w w') (hS : ∀ k, v.ownBlock = some k → ¬ S k) : OwnF w' B E v xs := by
  obtain ⟨h0, h1⟩ := h
  refine ⟨h0, ?_⟩
  rcases h1 with h1 | ⟨g, cap, cur, fz, e, hb, hg, hr⟩
  · exact .inl h1
  · refine .inr ⟨g, cap, cur, fz, e, hb, ?_, hr⟩
    rw [hf.block g (Array.getElem?_eq_some_iff.1 hg).1 (hS g (by rw [e]; rfl))]; exact hg
theorem OwnF.sl {w : World} {B : Nat} {E : TypeId} {v : Value} {xs : List Value} (h : OwnF w B E v xs) : Sl w v xs := by
  obtain ⟨hl, h⟩ := h
  rcases h with ⟨rfl, rfl⟩ | ⟨g, cap, cur, fz, rfl, hb, hg, hf, hnc, hcm, hcs, htake⟩
  · exact Sl.nil w
  · refine ⟨some ⟨g, 0, none⟩, cap, g, 0, rfl, ⟨fun _ => rfl, hnc, hcm, by omega, fun _ => (Array.getElem?_eq_some_iff.1 hg).1⟩, fun i hi => ?_⟩
    rw [cell_of_row _ _ _ _ _ _ hg, Nat.zero_add]
    have : cur[i]? = (cur.toList.take xs.length)[i]? := by rw [List.getElem?_take, if_pos hi]; simp
    rw [this, htake, List.getElem?_eq_getElem hi]
    simp [List.getD, hi]
theorem wpList_bytes_own {P : Program} {ops : Array Oper} {rest : List Oper} {o : Oper} {a : Act} {w : World} {Q : Exit → Act → World → Prop} (hgd : o.guard = none) (src dst e : TypeId) (x : Operand) (ho : o.op = .convert src dst x) (hs : P.underlying src = some .string) (hd : P.underlying dst = some (.slice e)) (he : P.underlying e = some (.int .u8)) (s : ByteArray) (hx : a.eval x = .string s) (hsz : s.size ≤ 100000000)
    (h : ∀ v' w', OwnF w' w.heap.size e v' (bytesV (bys s)) → Below w.heap.size w w' → wpList P ops Q rest (a.put o.dst v') w') : wpList P ops Q (o :: rest) a w := by
  have hr := run_bytes_of_string (P := P) w src dst e s hs hd he
  refine wpList_plain hgd fun K hK => ?_
  unfold Oper.wp execOp
  simp only [ho, hx, Sem.run_bind, Sem.run_pure, Result.andThen_ok, hr]
  refine hK _ _ (h _ _ ?_ ?_)
  · have hl : (bytesV (bys s)).length = s.size := by rw [bytesV_length, bys_len]
    have hmx : s.size ≤ maxLen := by simp only [maxLen]; omega
    have hge := grownCap_ge w s.size 0 e
    have hgs : (bytesRow s (grownCap w s.size 0 e)).size = grownCap w s.size 0 e := by
      unfold bytesRow
      simp only [Array.size_append, Array.size_map, Array.size_replicate]
      show s.data.size + (grownCap w s.size 0 e - s.data.size) = _
      have : s.data.size = s.size := rfl
      omega
    have hg : (w.drew.alloc (.cells (bytesRow s (grownCap w s.size 0 e)) e ((bytesRow s (grownCap w s.size 0 e)).size, (bytesRow s (grownCap w s.size 0 e)).size + 1))).heap[w.heap.size]? = some (.cells (bytesRow s (grownCap w s.size 0 e)) e ((bytesRow s (grownCap w s.size 0 e)).size, (bytesRow s (grownCap w s.size 0 e)).size + 1)) := by
      show (w.heap.push _)[w.heap.size]? = _
      simp
    refine ⟨by rw [hl]; omega, .inr ⟨w.heap.size, grownCap w s.size 0 e, _, _, by rw [hl], Nat.le_refl _, hg, .inl (Nat.le_refl _), by rw [hl]; exact hge, grownCap_le_maxLen w s.size 0 e hmx, hgs, ?_⟩⟩
    rw [hl]
    unfold bytesRow
    have e1 : (s.data.map (fun b => Value.int .u8 b.toNat)).toList = bytesV (bys s) := by simp [bytesV, bys]
    rw [Array.toList_append, e1, ← hl, List.take_left]
  · exact (below_drewN w 1).trans ((below_alloc w.drew _).mono (Nat.le_refl _))
theorem run_app_strF {P : Program} (w : World) (B : Nat) (t u ty E : TypeId) (z : Value) (bytes : Nat) (ht : P.underlying t = some (.slice E)) (hu : P.underlying u = some .string) (hinf : (P.info? E).map (fun i => (i.zero, i.size, i.bytes)) = some (some z, 1, bytes)) (hz : z.cells.size = 1) (hby : bytes ≤ 24)
    (v : Value) (xs : List Value) (hown : OwnF w B E v xs) (s : ByteArray) (hlen : xs.length + s.size ≤ 4294967296) (hB : B ≤ w.heap.size) :
    ∃ v' w', (Builtin.append_ #[t, u] ty #[v, .string s]).run P w = .ok v' w' ∧ OwnF w' B E v' (xs ++ bytesV s.data.toList) ∧ w.grownBy w' v.ownBlock ∧ (∀ k, v'.ownBlock = some k → v.ownBlock = some k ∨ w.heap.size ≤ k) := by
  obtain ⟨i, hi, hz0, hz1, hz2⟩ : ∃ i0, P.info? E = some i0 ∧ i0.zero = some z ∧ i0.size = 1 ∧ i0.bytes = bytes := by
    cases hq : P.info? E with
    | none => simp [hq] at hinf
    | some i0 => simp [hq] at hinf; exact ⟨i0, rfl, hinf.1, hinf.2.1, hinf.2.2⟩
  have hnl : (bytesV s.data.toList).length = s.size := by rw [bytesV_length]; simp
  have h1 := bytesV_one s.data.toList
  have hl1 : xs.length + s.size ≤ maxLen := by simp only [maxLen]; omega
  have hl2 : (xs.length + s.size) * bytes ≤ 140737488355328 := by
    have := Nat.mul_le_mul hlen hby; omega
  have hf := fun w' => run_firstCells_str (P := P) w' 1 s
  have hsl := hown.sl
  rcases hown with ⟨hsm, hrow⟩
  rcases hrow with ⟨rfl, rfl⟩ | ⟨g, cap, cur, fz, rfl, hbg, hg, hfz, hnc, hcm, hcs, htake⟩
  · obtain ⟨v', w', h2, ⟨⟨h3, h4⟩, h5⟩, h6, h7⟩ := run_app_str (P := P) w B t u ty E z bytes ht hu hinf hz hby (.slice none 0 0) [] (Own.nil w B E) s hlen hB
    refine ⟨v', w', h2, ⟨h5, ?_⟩, h6, h7⟩
    rcases h4 with ⟨a, b⟩ | ⟨g, cap, cur, a, b, c, d, e, f, i⟩
    · exact .inl ⟨a, List.length_eq_zero_iff.1 b⟩
    · exact .inr ⟨g, cap, cur, (0, 0), a, b, c, .inr rfl, d, e, by omega, by simpa using i⟩
  generalize bytesV s.data.toList = news at *
  have hlen' : (xs ++ news).length ≤ 140737488351232 := by rw [List.length_append, hnl]; omega
  by_cases hroom : xs.length + s.size ≤ cap
  · have hfit : xs.length + news.length ≤ cur.size := by rw [hnl, hcs]; omega
    have hst := run_storeCells_nf P g xs.length E fz news 0 cur w hg hfz (by simpa using hfit) h1
    simp only [Nat.add_zero] at hst
    generalize hR : (cur.toList.take xs.length ++ news ++ cur.toList.drop (xs.length + news.length)).toArray = R at hst
    have hRs : R.size = cur.size := by
      rw [← hR]
      simp only [List.size_toArray, List.length_append, List.length_take, List.length_drop, Array.length_toList]
      omega
    refine ⟨.slice (some ⟨g, 0, none⟩) (xs.length + s.size) cap, w.setRow g R, ?_, ⟨hlen', .inr ⟨g, cap, R, fz, ?_, hbg, setRow_heap w g cur R E _ hg, by rw [hRs]; exact hfz, ?_, hcm, by rw [hRs]; exact hcs, ?_⟩⟩, ⟨rfl, rfl, rfl, by simp, fun k _ hk => setRow_other w g k _ (fun e => hk (by simp [Value.ownBlock, e]))⟩, fun k hk => .inl hk⟩
    · have hf0 := hf w
      simp [Builtin.append_, run_underlying ht, run_underlying hu, sizeOf, typeInfo, hi, hz1, Builtin.lenOf, hroom, hf0, Addr.add_lit, hst]
    · rw [List.length_append, hnl]
    · rw [List.length_append, hnl]; exact hroom
    · rw [← hR, htake]
      exact List.take_left
  · have holds : ∀ j u, xs[j]? = some u → w.cell? ((⟨g, 0, none⟩ : Addr).add j) = some u := fun j u hj => by
      obtain ⟨hjl, hju⟩ := List.getElem?_eq_some_iff.1 hj
      rw [add_off, cell_of_row _ _ _ _ _ _ hg, Nat.zero_add]
      have : cur[j]? = (cur.toList.take xs.length)[j]? := by rw [List.getElem?_take, if_pos hjl]; simp
      rw [this, htake, hj]
    have hge := grownCap_ge w (xs.length + s.size) cap E
    have hcm2 : grownCap w (xs.length + s.size) cap E ≤ maxLen := grownCap_le_maxLen w (xs.length + s.size) cap E hl1
    refine ⟨.slice (some ⟨w.heap.size, 0, none⟩) (xs.length + s.size) (grownCap w (xs.length + s.size) cap E), w.drew.alloc (.cells (xs.toArray ++ news.toArray ++ Builtin.zeroCells z.cells (grownCap w (xs.length + s.size) cap E - (xs.length + s.size))) E), ?_, ⟨hlen', .inr ⟨w.heap.size, _, _, (0, 0), by rw [List.length_append, hnl], hB, heap_alloc_new w.drew _, .inr rfl, by rw [List.length_append, hnl]; exact hge, hcm2, ?_, ?_⟩⟩, ⟨rfl, rfl, rfl, by simp, fun k hk _ => Below.heap_alloc w.drew _ k hk⟩, fun k hk => .inr (by simp [Value.ownBlock] at hk; omega)⟩
    · have hn : ¬ (xs.length + s.size ≤ cap) := hroom
      have h63' : ¬ (9223372036854775807 < ((xs.length : Int) + (s.size : Int))) := by omega
      have h48' : ¬ (281474976710656 < Builtin.nextslicecap (xs.length + s.size) cap * i.bytes) := by
        have := growslice_fits (need := xs.length + s.size) (old := cap) (bytes := bytes) (by omega) hl2
        rw [hz2]; omega
      have hf0 := hf w.drew
      have hfo := run_firstCells_some (P := P) w.drew 1 xs.length ⟨g, 0, none⟩ xs.length cap xs (by omega) (by simpa using holds)
      simp [Builtin.append_, run_underlying ht, run_underlying hu, sizeOf, typeInfo, zeroValue, hi, hz0, hz1, Builtin.lenOf, hn, h63', h48', Question.forced, hf0, hfo, newRow, grownCap]
      congr 2
      apply Array.ext'
      simp [List.append_assoc]
    · simp only [Array.size_append, List.size_toArray, size_zeroCells, hz, hnl]
      omega
    · simp only [Array.toList_append]
      show List.take _ (xs ++ news ++ _) = _
      exact List.take_left
theorem wpList_app_strF {P : Program} {ops : Array Oper} {rest : List Oper} {o : Oper} {a : Act} {w : World} {Q : Exit → Act → World → Prop} (hgd : o.guard = none) (s x : Operand) (t u : TypeId)
    (ho : o.op = .call { callee := .builtin .append, args := #[s, x], argTypes := #[t, u] })
    (B E : TypeId) (z : Value) (bytes : Nat) (ht : P.underlying t = some (.slice E)) (hu : P.underlying u = some .string) (hinf : (P.info? E).map (fun i => (i.zero, i.size, i.bytes)) = some (some z, 1, bytes)) (hz : z.cells.size = 1) (hby : bytes ≤ 24)
    (v : Value) (xs : List Value) (hs : a.eval s = v) (hown : OwnF w B E v xs) (tx : ByteArray) (hxe : a.eval x = .string tx) (hlen : xs.length + tx.size ≤ 4294967296) (hB : B ≤ w.heap.size)
    (h : ∀ v' w', OwnF w' B E v' (xs ++ bytesV tx.data.toList) → w.grownBy w' v.ownBlock → (∀ k, v'.ownBlock = some k → v.ownBlock = some k ∨ w.heap.size ≤ k) → wpList P ops Q rest (a.put o.dst v') w') : wpList P ops Q (o :: rest) a w := by
  obtain ⟨v', w', hr, h2, h3, h4⟩ := run_app_strF (P := P) w B t u o.type E z bytes ht hu hinf hz hby v xs hown tx hlen hB
  refine wpList_plain hgd fun K hK => ?_
  unfold Oper.wp execOp
  simp only [ho, resolve, invoke, builtin, Sem.run_bind, Sem.run_pure, Result.andThen_ok, List.map_toArray, List.map_cons, List.map_nil, hs, hxe, hr]
  exact hK _ _ (h v' w' h2 h3 h4)
end Go.Cm

/- A machine that was played k steps. Conditions: as each says. -/
namespace Go.Cm
open Go.RowKit Go.Proofs

theorem headI_st {N T pre : Nat} {z : IS} : (headI N T pre z).2.st.length ≤ z.st.length + 1 := by
  unfold headI
  split
  · exact Nat.le_succ _
  · simp
theorem stI_st {N T pre : Nat} {bs : Byts} {z : IS} : (stI N T pre bs z).2.st.length ≤ z.st.length + 1 := by
  unfold stI
  split
  · exact headI_st
  · split
    · rename_i h; rw [(storI_keep h).1]; exact Nat.le_succ _
    · split
      · rw [codI_keep.1]; exact Nat.le_succ _
      · exact Nat.le_succ _
theorem bigI_st {pre : Nat} {y : Nat × IS} : (bigI pre y).2.st = y.2.st := by
  have key : ∀ M, (if y.1 ≠ 0 then y else if M < y.2.h.length - pre then (3, { y.2 with h := y.2.h.take (pre + M) }) else y).2.st = y.2.st := by
    intro M
    by_cases h1 : y.1 ≠ 0
    · rw [if_pos h1]
    · rw [if_neg h1]
      by_cases h2 : M < y.2.h.length - pre
      · rw [if_pos h2]
      · rw [if_neg h2]
  have h := key 16777216
  unfold bigI
  exact h
theorem playI_st {N T pre : Nat} {bs : Byts} {z0 : IS} : ∀ k, (playI N T pre bs z0 k).2.st.length ≤ z0.st.length + k
  | 0 => Nat.le_refl _
  | k + 1 => by
    have ih := playI_st (N := N) (T := T) (pre := pre) (bs := bs) (z0 := z0) k
    show (if (playI N T pre bs z0 k).1 ≠ 0 ∨ (playI N T pre bs z0 k).2.md = 3 then playI N T pre bs z0 k else bigI pre (stI N T pre bs (playI N T pre bs z0 k).2)).2.st.length ≤ _
    split
    · omega
    · rw [bigI_st]
      have := stI_st (N := N) (T := T) (pre := pre) (bs := bs) (z := (playI N T pre bs z0 k).2)
      omega
/-- k steps over the bytes of s -/
noncomputable def playS (s : ByteArray) (pre : Nat) (z0 : IS) (k : Nat) : Nat × IS := playI (numS s) (8 * s.size) pre (bys s) z0 k
/-- a step over the bytes of s -/
noncomputable def stepS (s : ByteArray) (pre : Nat) (z : IS) : Nat × IS := stI (numS s) (8 * s.size) pre (bys s) z
noncomputable def finS (s : ByteArray) (pre : Nat) (z0 : IS) : Nat × IS := finI (numS s) (8 * s.size) pre (bys s) z0
section
variable {s : ByteArray} {pre : Nat} {z0 : IS}
theorem t8 (s : ByteArray) : 8 ∣ 8 * s.size := ⟨s.size, rfl⟩
theorem playS_next {k : Nat} (h : ¬ StopI (playS s pre z0 k)) : playS s pre z0 (k + 1) = bigI pre (stepS s pre (playS s pre z0 k).2) := play_next h
theorem playS_err {k : Nat} (h : ¬ StopI (playS s pre z0 k)) (he : (stepS s pre (playS s pre z0 k).2).1 ≠ 0) : playS s pre z0 (k + 1) = ((stepS s pre (playS s pre z0 k).2).1, (playS s pre z0 k).2) := by
  have e := stI_err he
  rw [playS_next h]
  unfold bigI
  rw [if_pos he]
  show stI _ _ _ _ _ = _
  exact Prod.ext rfl e
theorem playS_big {k M : Nat} (hM : M = 16777216) (h : ¬ StopI (playS s pre z0 k)) (he : (stepS s pre (playS s pre z0 k).2).1 = 0) (hb : M < (stepS s pre (playS s pre z0 k).2).2.h.length - pre) :
    playS s pre z0 (k + 1) = (3, { (stepS s pre (playS s pre z0 k).2).2 with h := (stepS s pre (playS s pre z0 k).2).2.h.take (pre + M) }) := by
  rw [playS_next h]
  unfold bigI
  rw [← hM]
  rw [if_neg (by rw [he]; exact fun h => h rfl), if_pos hb]
theorem playS_ok {k M : Nat} (hM : M = 16777216) (h : ¬ StopI (playS s pre z0 k)) (he : (stepS s pre (playS s pre z0 k).2).1 = 0) (hb : ¬ M < (stepS s pre (playS s pre z0 k).2).2.h.length - pre) :
    playS s pre z0 (k + 1) = stepS s pre (playS s pre z0 k).2 := by
  rw [playS_next h]
  unfold bigI
  rw [← hM]
  rw [if_neg (by rw [he]; exact fun h => h rfl), if_neg hb]
theorem playS_keep (hi : IOk (8 * s.size) pre z0) (k : Nat) : (pre ≤ (playS s pre z0 k).2.h.length ∧ (playS s pre z0 k).2.h.length - pre ≤ 16777216) ∧ ((playS s pre z0 k).1 = 0 → IOk (8 * s.size) pre (playS s pre z0 k).2 ∧ (StopI (playS s pre z0 k) ∨ muI (8 * s.size) (playS s pre z0 k).2 + k ≤ muI (8 * s.size) z0)) := by
  obtain ⟨a, b, -⟩ := play_keep (N := numS s) (bs := bys s) (t8 s) hi k
  exact ⟨a, b⟩
theorem playS_st (hz : z0.st = []) (k : Nat) : (playS s pre z0 k).2.st.length ≤ k := by
  have h := playI_st (N := numS s) (T := 8 * s.size) (pre := pre) (bs := bys s) (z0 := z0) k
  rw [hz, List.length_nil, Nat.zero_add] at h
  exact h
theorem muI_le {T : Nat} (z : IS) : muI T z ≤ 2 * T + 1 := by unfold muI; split <;> omega
end
theorem Full0.fx {S : Nat → Prop} {w w' : World} {B gm gr gw p : Nat} {vb : Value} {s : ByteArray} {H : Byts} {st : List (Nat × Nat)} {m : MV} (h : Full0 w B gm gr gw vb s p H st m) (hf : Fx S w w') (hS : ∀ k, FSet gm gr gw vb m.vs k → ¬ S k) : Full0 w' B gm gr gw vb s p H st m :=
  ⟨h.mach.fx hf (fun k e => hS k (.inl e)), h.sts.fx hf (fun q e => hS q (.inr e)), h.sd⟩
/-- .. where the changed blocks are among those that the tables avoid -/
theorem Full.fx {S X : Nat → Prop} {w w' : World} {B gm gr gw : Nat} {vb : Value} {s : ByteArray} {z : IS} {m : MV} (h : Full w B gm gr gw vb X s z m) (hf : Fx S w w') (hS : ∀ k, FSet gm gr gw vb m.vs k → ¬ S k) (hX : ∀ k, S k → X k) : Full w' B gm gr gw vb X s z m :=
  ⟨h.f0.fx hf hS, h.rel, fun e => by
    obtain ⟨ta, tb, tc, td, k1, k2, k3⟩ := h.tabs e
    exact ⟨ta, tb, tc, td, k1.fx hf (fun k a b q => (k3 k (.inl ⟨a, b⟩)).2 (hX k q)), k2.fx hf (fun k a b q => (k3 k (.inr ⟨a, b⟩)).2 (hX k q)), k3⟩⟩
/-- they avoid new blocks -/
theorem Full.reX {X X' : Nat → Prop} {w : World} {B gm gr gw : Nat} {vb : Value} {s : ByteArray} {z : IS} {m : MV} (h : Full w B gm gr gw vb X s z m) (hX : ∀ k, X' k → X k ∨ w.heap.size ≤ k) : Full w B gm gr gw vb X' s z m :=
  ⟨h.f0, h.rel, fun e => by
    obtain ⟨ta, tb, tc, td, k1, k2, k3⟩ := h.tabs e
    have l1 : tb ≤ w.heap.size := by obtain ⟨_, _, q, _⟩ := k1; exact q
    have l2 : td ≤ w.heap.size := by obtain ⟨_, _, q, _⟩ := k2; exact q
    refine ⟨ta, tb, tc, td, k1, k2, fun k hk => ⟨(k3 k hk).1, fun q => ?_⟩⟩
    rcases hX k q with q | q
    · exact (k3 k hk).2 q
    · omega⟩
theorem Full.up {X : Nat → Prop} {w w' : World} {B gm gr gw : Nat} {vb : Value} {s : ByteArray} {z : IS} {m : MV} (h : Full w B gm gr gw vb X s z m) (hb : Below w.heap.size w w') : Full w' B gm gr gw vb X s z m :=
  h.fx (fx_below (S := fun _ => False) hb) (fun _ _ e => e) (fun _ e => e.elim)
/-- its cells change, but for those that tell where it stands -/
theorem Full.mset {X : Nat → Prop} {w w' : World} {B gm gr gw : Nat} {vb : Value} {s : ByteArray} {z : IS} {m m' : MV} (h : Full w B gm gr gw vb X s z m) (hm : MBox w' B gm gr gw m') (hg : w.grownBy w' (some gm)) (hv : m'.vs = m.vs) (h1 : m'.at_ = m.at_) (h2 : m'.fin = m.fin) (h3 : m'.left = m.left) (h4 : m'.vf = m.vf) (h5 : m'.vl = m.vl) (h6 : m'.vd = m.vd) : Full w' B gm gr gw vb X s z m' := by
  obtain ⟨hf0, hf⟩ := h.f0.mset hm hg hv
  refine ⟨hf0, ?_, fun e => ?_⟩
  · obtain ⟨r1, r2, r3, r4⟩ := h.rel
    exact ⟨by rw [h1]; exact r1, by rw [h2]; exact r2, by rw [h3]; exact r3, by rw [h4]; exact r4⟩
  · obtain ⟨ta, tb, tc, td, k1, k2, k3⟩ := h.tabs e
    rw [h5, h6, hv]
    exact ⟨ta, tb, tc, td, k1.fx hf (fun k a b => (k3 k (.inl ⟨a, b⟩)).1), k2.fx hf (fun k a b => (k3 k (.inr ⟨a, b⟩)).1), k3⟩
/-- a machine that was played k steps, but for what waits -/
structure LiveB (w : World) (B gm gr gw : Nat) (vb : Value) (X : Nat → Prop) (s : ByteArray) (pre : Nat) (z0 : IS) (m : MV) (k : Nat) : Prop where
  kb : k ≤ muI (8 * s.size) z0 + 1
  wrong : m.wrong = (playS s pre z0 k).1
  made : m.made = (playS s pre z0 k).2.h.length - pre
  bad : ∃ p H st, Full0 w B gm gr gw vb s p H st m
  good : (playS s pre z0 k).1 = 0 → Full w B gm gr gw vb X s (playS s pre z0 k).2 m
/-- .. with what waits -/
structure Live (w : World) (B gm gr gw : Nat) (vb : Value) (X : Nat → Prop) (s : ByteArray) (pre : Nat) (z0 : IS) (m : MV) (k : Nat) : Prop where
  live : LiveB w B gm gr gw vb X s pre z0 m k
  text : ∃ t : Byts, t.length = m.told ∧ (playS s pre z0 k).2.h.drop pre = t ++ bys m.waits
section
variable {w w' : World} {B gm gr gw : Nat} {vb : Value} {X : Nat → Prop} {s : ByteArray} {pre : Nat} {z0 : IS} {m m' : MV} {k : Nat}
theorem LiveB.box (h : LiveB w B gm gr gw vb X s pre z0 m k) : MBox w B gm gr gw m := by obtain ⟨p, H, st, h⟩ := h.bad; exact h.mach.box
theorem LiveB.lt (h : LiveB w B gm gr gw vb X s pre z0 m k) : ∀ q, FSet gm gr gw vb m.vs q → q < w.heap.size := by
  obtain ⟨p, H, st, h⟩ := h.bad
  intro q e
  obtain ⟨b, hb, -⟩ := h.mach.win
  rcases e with (e | e | e | e) | e
  · rw [e]; exact h.mach.box.blk.2
  · rw [e]; exact h.mach.rd.lt
  · rw [e]; exact hb.box.blk.2
  · exact (hb.own.lt q e).2
  · exact (h.sts.lt q e).2
theorem LiveB.fx {S : Nat → Prop} (h : LiveB w B gm gr gw vb X s pre z0 m k) (hf : Fx S w w') (hS : ∀ q, FSet gm gr gw vb m.vs q → ¬ S q) (hX : ∀ q, S q → X q) : LiveB w' B gm gr gw vb X s pre z0 m k := by
  obtain ⟨p, H, st, hb⟩ := h.bad
  exact ⟨h.kb, h.wrong, h.made, ⟨p, H, st, hb.fx hf hS⟩, fun e => (h.good e).fx hf hS hX⟩
theorem LiveB.up (h : LiveB w B gm gr gw vb X s pre z0 m k) (hb : Below w.heap.size w w') : LiveB w' B gm gr gw vb X s pre z0 m k :=
  h.fx (fx_below (S := fun _ => False) hb) (fun _ _ e => e) (fun _ e => e.elim)
theorem LiveB.reX {X' : Nat → Prop} (h : LiveB w B gm gr gw vb X s pre z0 m k) (hX : ∀ q, X' q → X q ∨ w.heap.size ≤ q) : LiveB w B gm gr gw vb X' s pre z0 m k :=
  ⟨h.kb, h.wrong, h.made, h.bad, fun e => (h.good e).reX hX⟩
/-- its words 'waits' and 'told' change -/
theorem LiveB.mset (h : LiveB w B gm gr gw vb X s pre z0 m k) (hm : MBox w' B gm gr gw m') (hg : w.grownBy w' (some gm)) (hw : m' = { m with waits := m'.waits, told := m'.told }) : LiveB w' B gm gr gw vb X s pre z0 m' k ∧ Fx (FSet gm gr gw vb m.vs) w w' := by
  obtain ⟨p, H, st, hb⟩ := h.bad
  have hv : m'.vs = m.vs := by rw [hw]
  obtain ⟨h1, h2⟩ := hb.mset hm hg hv
  exact ⟨⟨h.kb, by rw [hw]; exact h.wrong, by rw [hw]; exact h.made, ⟨p, H, st, h1⟩, fun e => (h.good e).mset hm hg hv (by rw [hw]) (by rw [hw]) (by rw [hw]) (by rw [hw]) (by rw [hw]) (by rw [hw])⟩, h2⟩
end
end Go.Cm
