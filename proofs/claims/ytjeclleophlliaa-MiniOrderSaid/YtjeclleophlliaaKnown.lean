/- The walk of the fixed calls that each statement asks. Conditions: none. -/
import Derived.Test.YtjeclleophlliaaMakeP
import Derived.Test.YtjeclleophlliaaAlikeP
import Derived.Test.YtjeclleophlliaaReachP
namespace Go.Cm
open Go.RowKit Go.Proofs

def d0 : Dfa := ⟨List.replicate 256 0, [[1], [0]], [1, 1]⟩
theorem d0_valid : Valid d0 := by
  refine ⟨by decide, by decide, rfl, 1, by kernel_rfl, fun i hi => ?_⟩
  have hi' : i < 2 := hi
  match i, hi' with
  | 0, _ =>
    refine ⟨by decide, by decide, rfl, fun j hj => ?_⟩
    obtain rfl : j = 0 := by have h2 : j < 1 := hj; omega
    exact ⟨by decide, by decide⟩
  | 1, _ =>
    refine ⟨by decide, by decide, rfl, fun j hj => ?_⟩
    obtain rfl : j = 0 := by have h2 : j < 1 := hj; omega
    exact ⟨by decide, by decide⟩
theorem d0_rule {i : Nat} (hi : i < 2) : ruleN d0 i = 1 := by
  match i, hi with
  | 0, _ => rfl
  | 1, _ => rfl
theorem d0_eqv {i j : Nat} (hi : i < 2) (hj : j < 2) : Eqv d0 i j :=
  Eqv.of_bisim d0_valid (fun _ _ => True) (fun a b ha hb _ => ⟨by rw [d0_rule ha, d0_rule hb], fun _ _ => trivial⟩) hi hj trivial
theorem d0_reach : reach d0 = [0, 1] := by kernel_rfl
theorem d0_heads : (heads d0).length = 1 := by
  have h1 : repN d0 1 = repN d0 0 := repN_eq.2 (d0_eqv (by decide) (by decide))
  unfold heads
  rw [d0_reach]
  simp [pickBy, h1]
theorem d0_alike : alikeI d0 = [[0, 1]] := by
  rw [alikeI_yes d0_valid]
  have e1 : firsts d0 1 = [0] := by
    rw [show (1 : Nat) = 0 + 1 from rfl, firsts_succ_yes (fun j hj => absurd hj (Nat.not_lt_zero j))]; rfl
  have e2 : firsts d0 2 = [0] := by
    rw [show (2 : Nat) = 1 + 1 from rfl, firsts_succ_no (fun h => h 0 (by decide) (d0_eqv (by decide) (by decide))), e1]
  have e3 : members d0 0 2 = [0, 1] := by
    rw [show (2 : Nat) = 1 + 1 from rfl, members_succ_yes (d0_eqv (by decide) (by decide)), show (1 : Nat) = 0 + 1 from rfl, members_succ_yes (d0_eqv (by decide) (by decide))]; rfl
  show (alikeUpto d0 2 2).map nl = _
  unfold alikeUpto
  rw [e2, List.map_cons, List.map_nil, List.map_cons, List.map_nil, e3]; rfl
theorem d0_reachI : reachI d0 = [0, 1] := by rw [reachI_yes d0_valid, d0_reach]; rfl
set_option maxRecDepth 10000 in
theorem d0_after : afterI (makeD d0) [120] = 1 := by
  rw [make_after d0_valid (List.length_replicate)]
  unfold afterI
  rw [if_pos d0_valid]
  have h1 : d0.cls.getD 120 0 = 0 := by simp [d0, List.getD]
  have h2 : runFrom d0 0 [120] = 1 := by
    show (d0.next.getD 0 []).getD (d0.cls.getD 120 0).toNat 0 = 1
    rw [h1]; rfl
  rw [h2]; rfl
theorem zero_invalid : ¬ Valid zeroD := fun h => absurd h.1 (by decide)

/-- the automaton of literal parts, as the build gives it -/
def zWith (u v : Value) : Array Value := (ints (List.replicate 256 0) ++ [u, v]).toArray
theorem zWith_list (u v : Value) : (zWith u v).toList = ints (List.replicate 256 0) ++ [u, v] := rfl
theorem build_with (W : World) (a a' : Option Addr) (n c n' c' : Nat) : (Instr.build 26 #[(1, .slice a n c), (2, .slice a' n' c')]).run Try.prog W = .ok (.agg (zWith (.slice a n c) (.slice a' n' c'))) W := by kernel_rfl
theorem wpList_build_with {ops : Array Oper} {rest : List Oper} {o : Oper} {a : Act} {w : World} {Q : Exit → Act → World → Prop} (hgd : o.guard = none) (x y : Operand) (ho : o.op = .build 26 #[(1, x), (2, y)])
    {b b' : Option Addr} {n c n' c' : Nat} (hx : a.eval x = .slice b n c) (hy : a.eval y = .slice b' n' c') (h : wpList Try.prog ops Q rest (a.put o.dst (.agg (zWith (.slice b n c) (.slice b' n' c')))) w) : wpList Try.prog ops Q (o :: rest) a w := by
  refine wpList_plain hgd fun K hK => ?_
  have hb := build_with w b b' n c n' c'
  unfold Oper.wp execOp
  simp only [ho, List.map_toArray, List.map_cons, List.map_nil, hx, hy, Sem.run_bind, hb, Result.andThen_ok, Sem.run_pure]
  exact hK _ _ h
theorem list_of_dfaV {w : World} {A : Array Value} {d : Dfa} (h : DfaV w A d) : ∃ vn vr, A.toList = ints d.cls ++ [vn, vr] ∧ vn.oneCell' = true ∧ vr.oneCell' = true := by
  obtain ⟨hs, hl, hc, ⟨vn, hn, hrw⟩, ⟨vr, hr, hru⟩⟩ := h
  obtain ⟨oa, cap, b, off, rfl, -, -⟩ := hrw.open
  obtain ⟨oq, capq, bq, offq, rfl, -, -⟩ := hru.open
  refine ⟨.slice oa d.next.length cap, .slice oq d.rules.length capq, ?_, rfl, rfl⟩
  apply List.ext_getElem?
  intro i
  have h256 : (ints d.cls).length = 256 := by rw [ints_length, hl]
  rw [Array.getElem?_toList]
  rcases Nat.lt_or_ge i 256 with h | h
  · rw [hc i h, List.getElem?_append_left (by omega)]
    simp [ints, List.getD, hl, h]
  · rw [List.getElem?_append_right (by omega), h256]
    rcases Nat.lt_or_ge i 258 with h2 | h2
    · obtain rfl | rfl : i = 256 ∨ i = 257 := by omega
      · rw [hn]; rfl
      · rw [hr]; rfl
    · rw [List.getElem?_eq_none (by simp; omega), Array.getElem?_eq_none (by omega)]
/-- an automaton stored into a new variable -/
theorem store_new {ops : Array Oper} {rest : List Oper} {o : Oper} {a : Act} {w w0 : World} {Q : Exit → Act → World → Prop} (hgd : o.guard = none) (x y : Operand) (ho : o.op = .store 26 x y)
    (g : Nat) (hx : a.eval x = .pointer (some ⟨g, 0, none⟩)) (C : Array Value) (hy : a.eval y = .agg C) {d : Dfa} (hC : DfaV w0 C d) {nv rv : Value} {cl : List Int} (hB : BoxD w g nv rv cl)
    (h : ∀ w', w'.heap[g]? = some (.cells C 26 (0, 0)) → w.grownBy w' (some g) → wpList Try.prog ops Q rest (a.put o.dst undef) w') : wpList Try.prog ops Q (o :: rest) a w := by
  obtain ⟨vn, vr, hl, h1, h2⟩ := list_of_dfaV hC
  refine store_dfa hgd x y ho g hx C hy hl hC.hlen h1 h2 hB fun w' hb hg => h w' ?_ hg
  obtain ⟨A, hA, -, hAl⟩ := hb.open
  rw [hA]
  have : A = C := by
    cases A; cases C
    simp only at hAl hl
    rw [hAl, hl]
  rw [this]
theorem dfa_len {w : World} {A : Array Value} {d : Dfa} (h : DfaV w A d) : ∃ oa cap, A[256]? = some (.slice oa d.next.length cap) := by
  obtain ⟨hs, hl, hc, ⟨vn, hn, hrw⟩, -⟩ := h
  obtain ⟨oa, cap, b, off, rfl, -, -⟩ := hrw.open
  exact ⟨oa, cap, hn⟩

theorem op_load_dfa {o : Oper} {a : Act} {w : World} {K : Act → World → Prop} {Q : Exit → Act → World → Prop} (x : Operand) (ho : o.op = .load 26 x) (g : Nat) (hx : a.eval x = .pointer (some ⟨g, 0, none⟩)) (A : Array Value) (hs : A.size = 258)
    (hg : w.heap[g]? = some (.cells A 26 (0, 0))) (h : K (a.put o.dst (.agg A)) w) : o.wp Try.prog a w K Q := by
  have hl := run_loadVar_sub (P := Try.prog) w g 0 258 26 26 A (0, 0) _ hg Try.underlying26 rfl (by kernel_rfl) (by rw [hs]; decide)
  have e : A.extract 0 (0 + 258) = A := by rw [Nat.zero_add, ← hs]; simp
  rw [e] at hl
  unfold Oper.wp execOp
  simp only [ho, hx, Instr.loadAt, Instr.sureAddr, Sem.run_bind, Sem.run_pure, Result.andThen_ok, hl]
  exact h
theorem BoxD.at {w : World} {g g' : Nat} {nv rv : Value} {cl : List Int} (h : BoxD w g nv rv cl) (e : g = g') : BoxD w g' nv rv cl := e ▸ h
theorem make0 : makeE d0 = 0 := makeE_yes d0_valid
theorem makeZ : makeE zeroD = 4 := makeE_no zero_invalid
theorem make0_len : (makeI d0).next.length = 1 := by rw [makeI_yes d0_valid, make_len, d0_heads]
theorem make0_after : afterI (makeI d0) [120] = 1 := by rw [makeI_yes d0_valid, d0_after]

set_option maxRecDepth 100000 in
set_option maxHeartbeats 4000000 in
theorem known (w : World) : Calls Try.prog 8 #[] w fun e w' => e = .returned (.bool true) ∧ ∃ x, w' = ext w x := by
  have hz := zero_dfa
  have hbd := build_dfa
  obtain ⟨Z, hZ⟩ : ∃ Z, Z = zArr := ⟨_, rfl⟩
  rw [← hZ] at hz hbd
  have HZ := Lib.hid hZ; clear hZ
  have HW5 : Hid (Below w.heap.size w ((((w.alloc (.cells #[.int .i64 1] 3)).alloc (.cells #[.int .i64 0] 3)).alloc (.cells #[.slice (some ⟨w.heap.size, 0, none⟩) 1 1, .slice (some ⟨w.heap.size + 1, 0, none⟩) 1 1] 24)).alloc (.cells #[.int .i64 1, .int .i64 1] 3))) := Lib.hid (by repeat (first | exact Below.refl _ _ | assumption | refine b_drewN ?_ _ | refine Below.drew ?_ | refine b_ext' ?_ _ | refine b_alloc' ?_ _))
  have hDV : DfaV ((((w.alloc (.cells #[.int .i64 1] 3)).alloc (.cells #[.int .i64 0] 3)).alloc (.cells #[.slice (some ⟨w.heap.size, 0, none⟩) 1 1, .slice (some ⟨w.heap.size + 1, 0, none⟩) 1 1] 24)).alloc (.cells #[.int .i64 1, .int .i64 1] 3)) (zWith (.slice (some ⟨w.heap.size + 1 + 1, 0, none⟩) 2 2) (.slice (some ⟨w.heap.size + 1 + 1 + 1, 0, none⟩) 2 2)) d0 := by
    have h1 := sl_lit w #[.int .i64 1] 3 (by simp)
    have h2 := sl_lit (w.alloc (.cells #[.int .i64 1] 3)) #[.int .i64 0] 3 (by simp)
    have h3 := sl_lit ((w.alloc (.cells #[.int .i64 1] 3)).alloc (.cells #[.int .i64 0] 3)) #[.slice (some ⟨w.heap.size, 0, none⟩) 1 1, .slice (some ⟨w.heap.size + 1, 0, none⟩) 1 1] 24 (by simp)
    have h4 := sl_lit (((w.alloc (.cells #[.int .i64 1] 3)).alloc (.cells #[.int .i64 0] 3)).alloc (.cells #[.slice (some ⟨w.heap.size, 0, none⟩) 1 1, .slice (some ⟨w.heap.size + 1, 0, none⟩) 1 1] 24)) #[.int .i64 1, .int .i64 1] 3 (by simp)
    have h1' := (h1.up (below_alloc _ (.cells #[.int .i64 0] 3))).up (below_alloc _ (.cells #[.slice (some ⟨w.heap.size, 0, none⟩) 1 1, .slice (some ⟨w.heap.size + 1, 0, none⟩) 1 1] 24))
    have h2' := h2.up (below_alloc _ (.cells #[.slice (some ⟨w.heap.size, 0, none⟩) 1 1, .slice (some ⟨w.heap.size + 1, 0, none⟩) 1 1] 24))
    have hrows : RowsAt (((w.alloc (.cells #[.int .i64 1] 3)).alloc (.cells #[.int .i64 0] 3)).alloc (.cells #[.slice (some ⟨w.heap.size, 0, none⟩) 1 1, .slice (some ⟨w.heap.size + 1, 0, none⟩) 1 1] 24)) (.slice (some ⟨w.heap.size + 1 + 1, 0, none⟩) 2 2) [[1], [0]] := by
      refine ⟨[.slice (some ⟨w.heap.size, 0, none⟩) 1 1, .slice (some ⟨w.heap.size + 1, 0, none⟩) 1 1], by simpa using h3, rfl, fun i hi => ?_⟩
      have hi' : i < 2 := hi
      match i, hi' with
      | 0, _ => exact h1'
      | 1, _ =>
        show Sl _ (.slice (some ⟨w.heap.size + 1, 0, none⟩) 1 1) [.int .i64 0]
        simpa using h2'
    have hrules : IntsAt ((((w.alloc (.cells #[.int .i64 1] 3)).alloc (.cells #[.int .i64 0] 3)).alloc (.cells #[.slice (some ⟨w.heap.size, 0, none⟩) 1 1, .slice (some ⟨w.heap.size + 1, 0, none⟩) 1 1] 24)).alloc (.cells #[.int .i64 1, .int .i64 1] 3)) (.slice (some ⟨w.heap.size + 1 + 1 + 1, 0, none⟩) 2 2) [1, 1] := by simpa [IntsAt, ints] using h4
    exact dfaV_of (zWith_list _ _) List.length_replicate (hrows.up (below_alloc _ _)) hrules
  obtain ⟨C, hC⟩ : ∃ C, C = zWith (.slice (some ⟨w.heap.size + 1 + 1, 0, none⟩) 2 2) (.slice (some ⟨w.heap.size + 1 + 1 + 1, 0, none⟩) 2 2) := ⟨_, rfl⟩
  rw [← hC] at hDV
  have HC := Lib.hid hC; clear hC
  have HDV := Lib.hid hDV; clear hDV
  go_enter Try.func8, Try.ntmps8
  have HBN : Hid (∀ W : World, BoxD (W.alloc (.cells Z 26)) W.heap.size (.slice none 0 0) (.slice none 0 0) (List.replicate 256 0)) := Lib.hid (fun W => HZ.out ▸ box_new W)
  have HZV : Hid (∀ W : World, DfaAt W (.agg Z) zeroD) := Lib.hid (fun W => ⟨Z, rfl, HZ.out ▸ zero_at W⟩)
  have HCS := Lib.hid HDV.out.hsize
  go_wp2_with (first | (refine wpList_build_with rfl _ _ rfl rfl rfl ?_; rw [← HC.out]) | (refine store_new rfl _ _ rfl (w.heap.size + 4) rfl C rfl HDV.out (BoxD.at (HBN.out _) (by simp)) ?_; intro w1 hg1 hgr1; have HG1 := Lib.hid hg1; have HW1 : Hid (Below w.heap.size w w1) := Lib.hid ((HW5.out.trans ((below_alloc _ (.cells Z 26)).mono (by simp; omega))).grown hgr1 (by simp; omega) (fun j hj => by cases hj; omega)); have HDV1 : Hid (DfaV w1 C d0) := Lib.hid (HDV.out.up ((below_alloc _ (.cells Z 26)).grown hgr1 (by simp) (fun j hj => by cases hj; simp))); clear hg1 hgr1) | (refine load_dfa rfl _ rfl (w.heap.size + 4) rfl C HCS.out HG1.out ?_))
  have hsA : w.heap.size + 4 < w1.heap.size := lt_of_block HG1.out
  refine (makeP (.agg C) d0 w1 ⟨C, rfl, HDV1.out⟩).mono ?_
  rintro e w2 ⟨v2, rfl, ⟨C2, rfl, hv2⟩, hb2⟩
  rw [make0]
  have HV2 := Lib.hid hv2
  have HB2 := Lib.hid hb2
  have hs2 := hb2.size
  clear hv2 hb2
  go_wp2_with (refine store_new rfl _ _ rfl w2.heap.size rfl C2 rfl HV2.out (HBN.out w2) ?_; intro w3 hg3 hgr3; have HG3 := Lib.hid hg3; have HGR3 := Lib.hid hgr3; clear hg3 hgr3)
  have hs3 := lt_of_block HG3.out
  have HW23 : Hid (Below w2.heap.size w2 w3) := Lib.hid ((below_alloc _ (.cells Z 26)).grown HGR3.out (by simp) (fun j hj => by cases hj; exact Nat.le_refl _))
  refine (makeP (.agg Z) zeroD w3 (HZV.out _)).mono ?_
  rintro e w4 ⟨v4, rfl, ⟨C4, rfl, hv4⟩, hb4⟩
  rw [makeZ]
  have HV4 := Lib.hid hv4
  have HB4 := Lib.hid hb4
  have hs4 := hb4.size
  clear hv4 hb4
  have hs3' := HW23.out.size
  have hG14 : w4.heap[w.heap.size + 4]? = some (.cells C 26 (0, 0)) := (HB4.out.block _ (by omega)).trans ((HW23.out.block _ (by omega)).trans ((HB2.out.block _ hsA).trans HG1.out))
  have hsB : w.heap.size + 4 < w4.heap.size := lt_of_block hG14
  have HG14 := Lib.hid hG14; clear hG14
  go_wp2_with (first | (refine store_new rfl _ _ rfl w4.heap.size rfl C4 rfl HV4.out (HBN.out w4) ?_; intro w5 hg5 hgr5; have HG5 := Lib.hid hg5; have HGR5 := Lib.hid hgr5; have HGA := Lib.hid ((((below_alloc w4 (.cells Z 26)).grown hgr5 (by simp) (fun j hj => by cases hj; exact Nat.le_refl _)).block _ hsB).trans HG14.out); clear hg5 hgr5) | (refine load_dfa rfl _ rfl (w.heap.size + 4) rfl C HCS.out HGA.out ?_))
  have hs5 := lt_of_block HG5.out
  have hw45 : Below w4.heap.size w4 w5 := (below_alloc _ (.cells Z 26)).grown HGR5.out (by simp) (fun j hj => by cases hj; exact Nat.le_refl _)
  have hw35 : Below w3.heap.size w3 w5 := HB4.out.trans (hw45.mono hs4)
  have hw25 : Below w2.heap.size w2 w5 := HW23.out.trans (hw35.mono (by omega))
  have hw15 : Below w1.heap.size w1 w5 := HB2.out.trans (hw25.mono hs2)
  have HW15 := Lib.hid hw15
  have HW25 := Lib.hid hw25
  have HW05 := Lib.hid (HW1.out.trans (hw15.mono HW1.out.size))
  have HGB := Lib.hid ((hw35.block _ hs3).trans HG3.out)
  have HD5 : Hid (DfaAt w5 (.agg C) d0) := Lib.hid ⟨C, rfl, HDV1.out.up hw15⟩
  have HE5 : Hid (DfaAt w5 (.agg C2) (makeI d0)) := Lib.hid ⟨C2, rfl, HV2.out.up hw25⟩
  have HC2S := Lib.hid HV2.out.hsize
  clear hw45 hw35 hw25 hw15
  refine (alikeP (.agg C) d0 w5 HD5.out).mono ?_
  rintro e w6 ⟨rv, rfl, hrv, hb6⟩
  rw [d0_alike] at hrv
  obtain ⟨o6, c6, b6, f6, rfl, hd6, hr6⟩ := hrv.open
  obtain ⟨o7, c7, b7, f7, hc7, hd7, -, hi7⟩ := hr6 0 (by decide)
  have hlt6 := hd6.hblk (by decide)
  have hs6 := hb6.size
  have hc7' : w6.cell? ⟨b6, f6, none⟩ = some (.slice o7 2 c7) := hc7
  have hd6' : Hd w6 o6 1 c6 b6 f6 := hd6
  have hix6 : ∀ W : World, (Instr.indexAt 23 (.slice o6 1 c6) (.int .i64 0)).run Try.prog W = .ok (.pointer (some ⟨b6, f6, none⟩)) W := fun W => by
    have h := index_any (P := Try.prog) 23 24 Try.underlying23 (by kernel_rfl) hd6' W .i64 0 (by decide) (by decide)
    simpa using h
  clear hd6'
  have HI7 : Hid (IntsAt w6 (.slice o7 2 c7) [0, 1]) := Lib.hid hi7
  have HB6 := Lib.hid hb6
  have HGA6 := Lib.hid ((hb6.block _ (Nat.lt_of_lt_of_le hsA HW15.out.size)).trans HGA.out)
  have HGB6 := Lib.hid ((hb6.block _ (by omega)).trans HGB.out)
  obtain ⟨oa2, cap2, hn2⟩ := dfa_len HV2.out
  rw [make0_len] at hn2
  have hcn : w6.cell? ⟨w2.heap.size, 256, none⟩ = some (.slice oa2 1 cap2) := (cell_of_row w6 w2.heap.size 256 C2 26 (0, 0) HGB6.out).trans hn2
  have h26 : w2.heap.size < w6.heap.size := by have := HW25.out.size; omega
  have HAF := Lib.hid (fun W (hW : Below w5.heap.size w5 W) => after (.agg C2) (makeI d0) ⟨#[120]⟩ W (HE5.out.up hW) (by decide))
  have HRE := Lib.hid (fun W (hW : Below w5.heap.size w5 W) => reachedP (.agg C) d0 W (HD5.out.up hW))
  clear hb6 hc7 hr6 hrv hd7 hi7 hn2
  have HD6 := Lib.hid hd6; clear hd6
  go_wp2_with (fail)
  refine op_load_dfa _ rfl w2.heap.size rfl C2 HC2S.out HGB6.out ?_
  go_wp2_with (fail)
  refine (HAF.out w6 HB6.out).mono ?_
  rintro e w' ⟨rfl, x, rfl⟩
  rw [show afterI (makeI d0) (ByteArray.mk #[120]).data.toList = 1 from make0_after]
  go_wp2_with (fail)
  refine (ints_eq (.slice o7 2 c7) (.slice (some ⟨(ext w6 x).heap.size, 0, none⟩) 2 2) [0, 1] [0, 1] ((ext w6 x).alloc (.cells #[.int .i64 0, .int .i64 1] 3)) ((HI7.out.up (ext_below _ _)).up (below_alloc _ _)) (by simpa [IntsAt, ints] using sl_lit (ext w6 x) #[.int .i64 0, .int .i64 1] 3 (by simp))).mono ?_
  rintro e w' ⟨rfl, x2, rfl⟩
  have hdt : decide (([0, 1] : List Int) = [0, 1]) = true := by decide
  rw [hdt]
  have hb7 : Below w6.heap.size w6 (ext ((ext w6 x).alloc (.cells #[.int .i64 0, .int .i64 1] 3)) x2) := (by repeat (first | exact Below.refl _ _ | assumption | refine b_drewN ?_ _ | refine Below.drew ?_ | refine b_ext' ?_ _ | refine b_alloc' ?_ _))
  obtain ⟨w7, hw7⟩ : ∃ W, W = ext ((ext w6 x).alloc (.cells #[.int .i64 0, .int .i64 1] 3)) x2 := ⟨_, rfl⟩
  rw [← hw7] at hb7 ⊢
  clear hw7 hdt
  have HB57 := Lib.hid (HB6.out.trans (hb7.mono hs6))
  have HG7 := Lib.hid ((hb7.block _ (Nat.lt_of_lt_of_le (Nat.lt_of_lt_of_le hsA HW15.out.size) hs6)).trans HGA6.out)
  have HB7 := Lib.hid hb7; clear hb7
  go_wp2_with (fail)
  refine op_load_dfa _ rfl (w.heap.size + 4) rfl C HCS.out HG7.out ?_
  go_wp2_with (fail)
  refine (HRE.out w7 HB57.out).mono ?_
  rintro e w8 ⟨r8, rfl, hr8, hb8⟩
  rw [d0_reachI] at hr8
  have HR8 := Lib.hid hr8
  have HB8 := Lib.hid hb8
  clear hr8 hb8
  go_wp2_with (fail)
  refine (ints_eq r8 (.slice (some ⟨w8.heap.size, 0, none⟩) 2 2) [0, 1] [0, 1] (w8.alloc (.cells #[.int .i64 0, .int .i64 1] 3)) (HR8.out.up (below_alloc _ _)) (by simpa [IntsAt, ints] using sl_lit w8 #[.int .i64 0, .int .i64 1] 3 (by simp))).mono ?_
  rintro e w' ⟨rfl, x3, rfl⟩
  have hdt : decide (([0, 1] : List Int) = [0, 1]) = true := by decide
  rw [hdt]
  clear hdt
  go_wp2_with (fail)
  go_ret
  refine ⟨rfl, ex_ext ?_⟩
  have h8 : Below w.heap.size w w8 := HW05.out.trans ((HB57.out.trans (HB8.out.mono HB57.out.size)).mono HW05.out.size)
  exact b_ext' (b_alloc' h8 _) x3
end Go.Cm
