/- Texts of this claim, joined: walks of small functions and plain facts about them. Conditions: as each says. -/
import Derived.Test.YticlfmakdblbkaaGJ
import Derived.Test.YticlfmakdblbkaaGI
/- The walk of the law BlockNil. Conditions: the argument's lists read as lists. -/
namespace Go.Cm
open Go.RowKit Go.Proofs

theorem thereNil (w : World) : Calls Try.prog 39 #[.pointer none] w fun e w' => e = .returned (.bool false) ∧ w' = w := by
  go_enter Try.func39, Try.ntmps39
  go_wp2
  go_ret
  exact ⟨rfl, rfl⟩
theorem thereZ {w : World} {g : Nat} (h : w.cell? ⟨g, 0, none⟩ = some (.bool false)) (_hg : g < w.heap.size) : Calls Try.prog 39 #[.pointer (some ⟨g, 0, none⟩)] w fun e w' => e = .returned (.bool false) ∧ w' = w := by
  go_enter Try.func39, Try.ntmps39
  go_wp2
  go_ret
  exact ⟨rfl, rfl⟩
theorem copyNil (w : World) : Calls Try.prog 32 #[.pointer none] w fun e w' => e = .returned (.pointer none) ∧ w' = w := by
  go_enter Try.func32, Try.ntmps32
  go_wp2_with (go_at_call 39; refine (thereNil _).mono ?_; rintro e w' ⟨rfl, hw'⟩; rw [hw']; clear hw')
  go_ret
  exact ⟨rfl, rfl⟩
theorem copyZ {w : World} {g : Nat} (h : w.cell? ⟨g, 0, none⟩ = some (.bool false)) (hg : g < w.heap.size) : Calls Try.prog 32 #[.pointer (some ⟨g, 0, none⟩)] w fun e w' => e = .returned (.pointer none) ∧ w' = w := by
  have HT := Lib.hid (thereZ h hg)
  go_enter Try.func32, Try.ntmps32
  go_wp2_with (go_at_call 39; refine HT.out.mono ?_; rintro e w' ⟨rfl, hw'⟩; rw [hw']; clear hw')
  go_ret
  exact ⟨rfl, rfl⟩
theorem thereNilW (w : World) : Calls Try.prog 43 #[.pointer none] w fun e w' => e = .returned (.bool false) ∧ w' = w := by
  go_enter Try.func43, Try.ntmps43
  go_wp2
  go_ret
  exact ⟨rfl, rfl⟩
theorem putNil (a b : Int) (w : World) : Calls Try.prog 21 #[.pointer none, .int .i64 a, .int .i64 b] w fun e w' => e = .returned (.int .i64 25) ∧ w' = w := by
  go_enter Try.func21, Try.ntmps21
  go_wp2_with (go_at_call 43; refine (thereNilW _).mono ?_; rintro e w' ⟨rfl, hw'⟩; rw [hw']; clear hw')
  go_ret
  exact ⟨rfl, rfl⟩

theorem lightP (f : Bool) (k z : Int) (u1 u2 : Value) (l1 l2 : List Int) (w : World) (h1 : IntsAt w u1 l1) (h2 : IntsAt w u2 l2) : Calls Try.prog 17 #[.agg #[.bool f, .int .i64 k, .int .i64 z, u1, u2]] w fun e w' => e = .returned (.bool (decide (l1.length ≤ 400 ∧ l2.length ≤ 400))) ∧ ∃ x, w' = ext w x := by
  obtain ⟨o1, c1, b1, f1, rfl, hd1, -⟩ := h1.open
  obtain ⟨o2, c2, b2, f2, rfl, hd2, -⟩ := h2.open
  have hm1 := hd1.len
  have hm2 := hd2.len
  clear h1 h2 hd1 hd2
  generalize l1.length = n1 at *
  generalize l2.length = n2 at *
  by_cases ha : n1 ≤ 400
  · have hai : (n1 : Int) ≤ 400 := by omega
    by_cases hb : n2 ≤ 400
    · have hbi : (n2 : Int) ≤ 400 := by omega
      rw [decide_eq_true ⟨ha, hb⟩]
      go_enter Try.func17, Try.ntmps17
      go_wp2
      go_ret
      exact ⟨rfl, (ex_ext (by repeat (first | exact Below.refl _ _ | assumption | refine b_drewN ?_ _ | refine Below.drew ?_ | refine b_ext' ?_ _ | refine b_alloc' ?_ _)))⟩
    · have hbi : ¬ (n2 : Int) ≤ 400 := by omega
      rw [decide_eq_false (fun h => hb h.2)]
      go_enter Try.func17, Try.ntmps17
      go_wp2
      go_ret
      exact ⟨rfl, (ex_ext (by repeat (first | exact Below.refl _ _ | assumption | refine b_drewN ?_ _ | refine Below.drew ?_ | refine b_ext' ?_ _ | refine b_alloc' ?_ _)))⟩
  · have hai : ¬ (n1 : Int) ≤ 400 := by omega
    rw [decide_eq_false (fun h => ha h.1)]
    go_enter Try.func17, Try.ntmps17
    go_wp2
    go_ret
    exact ⟨rfl, (ex_ext (by repeat (first | exact Below.refl _ _ | assumption | refine b_drewN ?_ _ | refine Below.drew ?_ | refine b_ext' ?_ _ | refine b_alloc' ?_ _)))⟩
theorem givenP (f : Bool) (k z : Int) (o1 o2 : Option Addr) (n1 n2 c1 c2 : Nat) (w : World) :
    Calls Try.prog 19 #[.agg #[.bool f, .int .i64 k, .int .i64 z, .slice o1 n1 c1, .slice o2 n2 c2]] w fun e w' => e = .returned (.agg #[.bool f, .int .i64 k, .int .i64 z, .slice o1 n1 c1, .slice o2 n2 c2]) ∧ ∃ x, w' = ext w x := by
  have HR0 : Hid (∀ w1 : World, (w.alloc (.cells #[.bool f, .int .i64 k, .int .i64 z, .slice o1 n1 c1, .slice o2 n2 c2] 36)).alloc (.cells #[Value.bool false, .int .i64 0, .int .i64 0, .slice none 0 0, .slice none 0 0] 33) = w1 → Own w1 (w.heap.size + 1) 33 (.slice (some ⟨w.heap.size + 1, 0, none⟩) 5 5) zH.toList ∧ Below w.heap.size w w1) := Lib.hid (fun w1 e => by
    subst e
    have h1 := own_lit (w.alloc (.cells #[.bool f, .int .i64 k, .int .i64 z, .slice o1 n1 c1, .slice o2 n2 c2] 36)) (w.heap.size + 1) zH 33 (by simp [zH]) (by simp)
    exact ⟨by simpa [zH] using h1, (by repeat (first | exact Below.refl _ _ | assumption | refine b_drewN ?_ _ | refine Below.drew ?_ | refine b_ext' ?_ _ | refine b_alloc' ?_ _))⟩)
  obtain ⟨hr0, hb0⟩ := HR0.out _ rfl
  have HR1 := Lib.hid hr0
  have HB1 := Lib.hid hb0
  clear hr0 hb0 HR0
  go_enter Try.func19, Try.ntmps19
  go_wp2_with (refine wpList_store_agg rfl 33 _ _ rfl (w.heap.size + 1) 33 (w.heap.size + 1) 5 5 rfl #[.bool f, .int .i64 k, .int .i64 z, .slice o1 n1 c1, .slice o2 n2 c2] rfl (by kernel_rfl) _ HR1.out (by simp [zH]) (head_one _ _ _ _ _ _ _ _ _) ?_; intro wz hownz hgz; (have HGZ := Lib.hid hgz; have HRZ := Lib.hid hownz; clear hownz hgz))
  have hrz := HRZ.out
  rw [List.drop_of_length_le (by simp [zH]), List.append_nil] at hrz
  refine ret_one_cell (s := 2) (ad := ⟨w.heap.size + 1, 0, none⟩) (x := .agg #[.bool f, .int .i64 k, .int .i64 z, .slice o1 n1 c1, .slice o2 n2 c2]) rfl rfl rfl (load_whole (n := 5) hrz _ Try.underlying33 rfl (by kernel_rfl)) ?_
  exact ⟨rfl, ex_ext (HB1.out.grown HGZ.out HB1.out.size (fun k e => by injection e with e; omega))⟩
def RetNilH (w : World) (e : Ending) (w' : World) : Prop := e = .returned (.tuple #[.agg #[.bool false, .int .i64 0, .int .i64 0, .slice none 0 0, .slice none 0 0], .int .i64 25]) ∧ Below w.heap.size w w'
theorem readNilH (w : World) (v : Value) (hv : v = .pointer none ∨ ∃ g, v = .pointer (some ⟨g, 0, none⟩) ∧ w.cell? ⟨g, 0, none⟩ = some (.bool false) ∧ g < w.heap.size) : Calls Try.prog 12 #[v] w (RetNilH w) := by
  have HR0 : Hid (∀ w1 : World, w.alloc (.cells #[Value.bool false, .int .i64 0, .int .i64 0, .slice none 0 0, .slice none 0 0] 33) = w1 → Own w1 w.heap.size 33 (.slice (some ⟨w.heap.size, 0, none⟩) 5 5) zH.toList ∧ Below w.heap.size w w1) := Lib.hid (fun w1 e => by
    subst e
    have h1 := own_lit w w.heap.size zH 33 (by simp [zH]) (Nat.le_refl _)
    exact ⟨by simpa [zH] using h1, (by repeat (first | exact Below.refl _ _ | assumption | refine b_drewN ?_ _ | refine Below.drew ?_ | refine b_ext' ?_ _ | refine b_alloc' ?_ _))⟩)
  obtain ⟨hr0, hb0⟩ := HR0.out _ rfl
  have HCP : Hid (Calls Try.prog 32 #[v] (w.alloc (.cells #[Value.bool false, .int .i64 0, .int .i64 0, .slice none 0 0, .slice none 0 0] 33)) fun e w' => e = .returned (.pointer none) ∧ w' = w.alloc (.cells #[Value.bool false, .int .i64 0, .int .i64 0, .slice none 0 0, .slice none 0 0] 33)) := Lib.hid (by
    rcases hv with rfl | ⟨g, rfl, hc, hg⟩
    · exact copyNil _
    · exact copyZ (by rw [World.cell?_alloc_past _ _ _ hg]; exact hc) (by simp; omega))
  have HR1 := Lib.hid hr0
  have HB1 := Lib.hid hb0
  clear hr0 hb0 HR0 hv
  go_enter Try.func12, Try.ntmps12
  go_wp2_with (first | (go_at_call 32; (with_reducible refine HCP.out.mono ?_); rintro e w2 ⟨rfl, hw2⟩; rw [hw2]; clear hw2) | (refine wpList_store_agg rfl 33 _ _ rfl w.heap.size 33 w.heap.size 5 5 rfl zH rfl (by kernel_rfl) _ HR1.out (by simp [zH]) zH_one ?_; intro wz hownz hgz; (have HGZ := Lib.hid hgz; have HRZ : Hid (Own wz w.heap.size 33 (.slice (some ⟨w.heap.size, 0, none⟩) 5 5) zH.toList) := Lib.hid hownz; clear hownz hgz)))
  refine ret_cell_tmp (s := 2) (b := 3) (ad := ⟨w.heap.size, 0, none⟩) (x := .agg zH) (y := .int .i64 25) rfl rfl rfl rfl (load_whole (n := 5) HRZ.out _ Try.underlying33 rfl (by kernel_rfl)) ?_
  exact ⟨rfl, HB1.out.grown HGZ.out HB1.out.size (fun k e => by injection e with e; omega)⟩
theorem writeNilH (f : Bool) (k z : Int) (o1 o2 : Option Addr) (n1 n2 c1 c2 : Nat) (w : World) : Calls Try.prog 18 #[.pointer none, .agg #[.bool f, .int .i64 k, .int .i64 z, .slice o1 n1 c1, .slice o2 n2 c2]] w fun e w' => e = .returned (.int .i64 25) ∧ ∃ x, w' = ext w x := by
  go_enter Try.func18, Try.ntmps18
  go_wp2_with (go_at_call 21; refine (putNil 0 0 _).mono ?_; rintro e w' ⟨rfl, hw'⟩; rw [hw']; clear hw')
  go_ret
  exact ⟨rfl, (ex_ext (by repeat (first | exact Below.refl _ _ | assumption | refine b_drewN ?_ _ | refine Below.drew ?_ | refine b_ext' ?_ _ | refine b_alloc' ?_ _)))⟩
set_option maxRecDepth 100000 in
set_option maxHeartbeats 4000000 in
theorem blockNil (f : Bool) (k z : Int) (u1 u2 : Value) (l1 l2 : List Int) (w : World) (h1 : IntsAt w u1 l1) (h2 : IntsAt w u2 l2) : Calls Try.prog 4 #[.agg #[.bool f, .int .i64 k, .int .i64 z, u1, u2]] w fun e w' => e = .returned (.bool true) ∧ ∃ x, w' = ext w x := by
  have HLI := Lib.hid (fun (W : World) (hb : Below w.heap.size w W) => lightP f k z u1 u2 l1 l2 W (h1.up hb) (h2.up hb))
  obtain ⟨o1, c1, b1, f1, rfl, -⟩ := h1.open
  obtain ⟨o2, c2, b2, f2, rfl, -⟩ := h2.open
  clear h1 h2
  generalize l1.length = n1 at *
  generalize l2.length = n2 at *
  by_cases hl : n1 ≤ 400 ∧ n2 ≤ 400
  · rw [decide_eq_true hl] at HLI
    have HN1 := Lib.hid (fun (W : World) => readNilH W (.pointer none) (.inl rfl))
    have HN2 := Lib.hid (fun (W : World) (g : Nat) (hc : W.cell? ⟨g, 0, none⟩ = some (.bool false)) (hg : g < W.heap.size) => readNilH W (.pointer (some ⟨g, 0, none⟩)) (.inr ⟨g, rfl, hc, hg⟩))
    unfold RetNilH at HN1 HN2
    have HGV := Lib.hid (fun (W : World) => givenP f k z o1 o2 n1 n2 c1 c2 W)
    have HWN := Lib.hid (fun (W : World) => writeNilH f k z o1 o2 n1 n2 c1 c2 W)
    clear hl
    go_enter Try.func4, Try.ntmps4
    go_upto_region 3 with (go_at_call 17; (with_reducible refine (HLI.out _ (by repeat (first | exact Below.refl _ _ | assumption | refine b_drewN ?_ _ | refine Below.drew ?_ | refine b_ext' ?_ _ | refine b_alloc' ?_ _))).mono ?_); rintro e w1 ⟨rfl, x1, rfl⟩)
    have hA := (ownH w f k z o1 o2 n1 n2 c1 c2 36).up (ext_below _ x1)
    have HA := Lib.hid hA
    have HB1 : Hid (Below w.heap.size w (ext (w.alloc (.cells #[.bool f, .int .i64 k, .int .i64 z, .slice o1 n1 c1, .slice o2 n2 c2] 36)) x1)) := Lib.hid (by repeat (first | exact Below.refl _ _ | assumption | refine b_drewN ?_ _ | refine Below.drew ?_ | refine b_ext' ?_ _ | refine b_alloc' ?_ _))
    clear hA HLI
    generalize ext (w.alloc (.cells #[.bool f, .int .i64 k, .int .i64 z, .slice o1 n1 c1, .slice o2 n2 c2] 36)) x1 = w1 at *
    go_upto_region 4 with (go_at_call 12; (with_reducible refine (HN1.out _).mono ?_); rintro e w2 ⟨rfl, hb2⟩; (have HB2 := Lib.hid hb2; clear hb2))
    have HB3 := Lib.hid (below_up HB2.out (below_alloc w2 (.cells #[.bool false, .int .i64 0, .int .i64 0, .slice none 0 0, .slice none 0 0] 33)))
    generalize w2.alloc (.cells #[.bool false, .int .i64 0, .int .i64 0, .slice none 0 0, .slice none 0 0] 33) = w3 at *
    generalize w2.heap.size = b2 at *
    have hc : (w3.alloc (.cells #[Value.bool false, .string ⟨#[]⟩, .int .i64 0] 47)).cell? ⟨w3.heap.size, 0, none⟩ = some (.bool false) := by rw [World.cell?_alloc_new]; rfl
    have HC := Lib.hid hc
    have HB4 := Lib.hid (below_alloc w3 (.cells #[Value.bool false, .string ⟨#[]⟩, .int .i64 0] 47))
    clear hc HN1 HB2
    go_upto_region 5 with (go_at_call 12; (with_reducible refine (HN2.out _ _ HC.out (by simp)).mono ?_); rintro e w5 ⟨rfl, hb5⟩; (have HB5 := Lib.hid (below_up HB4.out hb5); clear hb5))
    have HB6 := Lib.hid (below_up HB3.out (below_up HB5.out (below_alloc w5 (.cells #[.bool false, .int .i64 0, .int .i64 0, .slice none 0 0, .slice none 0 0] 33))))
    generalize w5.alloc (.cells #[.bool false, .int .i64 0, .int .i64 0, .slice none 0 0, .slice none 0 0] 33) = w6 at *
    generalize w5.heap.size = b5 at *
    have hh := HA.out.up HB6.out
    have z0 := hh.cell (i := 0) (by simp)
    have z1 := hh.cell (i := 1) (by simp)
    have z2 := hh.cell (i := 2) (by simp)
    have z3 := hh.cell (i := 3) (by simp)
    have z4 := hh.cell (i := 4) (by simp)
    have hbl := hh.blk.2
    clear hh HA HB3 HB5 HC HB4 HN2
    go_wp2_with (first | (go_at_call 19; (with_reducible refine (HGV.out _).mono ?_); rintro e w7 ⟨rfl, x7, rfl⟩) | (go_at_call 18; (with_reducible refine (HWN.out _).mono ?_); rintro e w8 ⟨rfl, x8, rfl⟩) | (go_at_call 8; refine (knownP _).mono ?_; rintro e w9 ⟨rfl, x9, rfl⟩))
    go_ret
    have hb69 : Below w6.heap.size w6 (ext (ext (ext w6 x7) x8) x9) := (by repeat (first | exact Below.refl _ _ | assumption | refine b_drewN ?_ _ | refine Below.drew ?_ | refine b_ext' ?_ _ | refine b_alloc' ?_ _))
    exact ⟨rfl, ex_ext (HB1.out.trans ((below_up HB6.out hb69).mono HB1.out.size))⟩
  · rw [decide_eq_false hl] at HLI
    clear hl
    go_enter Try.func4, Try.ntmps4
    go_wp2_with (first | (go_at_call 17; (with_reducible refine (HLI.out _ (by repeat (first | exact Below.refl _ _ | assumption | refine b_drewN ?_ _ | refine Below.drew ?_ | refine b_ext' ?_ _ | refine b_alloc' ?_ _))).mono ?_); rintro e w1 ⟨rfl, x1, rfl⟩) | (go_at_call 8; refine (knownP _).mono ?_; rintro e w2 ⟨rfl, x2, rfl⟩))
    go_ret
    exact ⟨rfl, (ex_ext (by repeat (first | exact Below.refl _ _ | assumption | refine b_drewN ?_ _ | refine Below.drew ?_ | refine b_ext' ?_ _ | refine b_alloc' ?_ _)))⟩
end Go.Cm

/- An argument that is a head, opened. Conditions: none. -/
namespace Go.Cm
open Go.RowKit Go.Proofs Go.WideShapes Go.ChangeShapes Go.Deep

section
variable {H : Type} {enc : TypeId × Value → H} {w : World} {base : Nat} {held : Bool}
set_option maxRecDepth 10000 in
theorem open_head {v : Value} {x : DataW H} {p : List MemPlace} {r : Reach} {b0 : Nat} (hv : Value.okWide Try.prog w r b0 36 v) (h : DataW.Trod enc Try.prog w base (fun _ => true) held 36 v x p) (hw : ∀ n ∈ x.weights Try.prog 36, n ≤ reachBytes) :
    ∃ f k z u1 u2 l1 l2, v = .agg #[.bool f, .int .i64 k, .int .i64 z, u1, u2] ∧ IntsAt w u1 l1 ∧ IntsAt w u2 l2 := by
  obtain ⟨A, rfl, hsz⟩ := okWide_struct Try.underlying36 hv
  obtain ⟨fuel, hf⟩ := h
  obtain ⟨xs, n, -, hx, hlen, hxl, hg⟩ := DataW.trod_struct Try.underlying36 hf
  have hs : A.size = 5 := hsz.trans (by kernel_rfl)
  simp only [Prod.mk.injEq] at hx
  obtain ⟨hx1, -⟩ := hx
  match xs, hxl with
  | [x0, x1, x2, x3, x4], _ =>
    have h0 := hg 0 _ rfl
    have h1 := hg 1 _ rfl
    have h2 := hg 2 _ rfl
    have h3 := hg 3 _ rfl
    have h4 := hg 4 _ rfl
    have cb : Try.prog.cellsOf 4 = 1 := by kernel_rfl
    have c24 : Try.prog.cellsOf 31 = 1 := by kernel_rfl
    have c3 : Try.prog.cellsOf 3 = 1 := by kernel_rfl
    have b3 : Try.prog.bytesOf 3 = 8 := by kernel_rfl
    simp only [List.getElem?_cons_zero, List.getElem?_cons_succ] at h0 h1 h2 h3 h4
    have hwx : ∀ n ∈ DataW.weightsEach Try.prog [4, 3, 3, 31, 31] [x0.1, x1.1, x2.1, x3.1, x4.1], n ≤ reachBytes := fun k hk => hw k (by
      rw [hx1]
      simpa [DataW.weights, Try.underlying36] using hk)
    have hw3 : ∀ n ∈ x3.1.weights Try.prog 31, n ≤ reachBytes := fun k hk => hwx k (DataW.weights_mem_each (j := 3) rfl rfl k hk)
    have hw4 : ∀ n ∈ x4.1.weights Try.prog 31, n ≤ reachBytes := fun k hk => hwx k (DataW.weights_mem_each (j := 4) rfl rfl k hk)
    obtain ⟨f, ef, -⟩ := DataW.trod_bool Try.underlying4 h0
    obtain ⟨k, ek, -, -⟩ := DataW.trod_int Try.underlying3 h1
    obtain ⟨z, ez, -, -⟩ := DataW.trod_int Try.underlying3 h2
    obtain ⟨u1, l1, e1, hl1⟩ := open_IntsAt Try.underlying31 Try.underlying3 c3 (by rw [b3]; decide) h3 hw3
    obtain ⟨u2, l2, e2, hl2⟩ := open_IntsAt Try.underlying31 Try.underlying3 c3 (by rw [b3]; decide) h4 hw4
    refine ⟨f, k, z, u1, u2, l1, l2, ?_, hl1, hl2⟩
    have q0 : A[0]? = some (.bool f) := by
      have e := congrArg (fun l => l[0]?) ef
      simpa [cb, Value.cells] using e
    have q1 : A[1]? = some (.int .i64 k) := by
      have e := congrArg (fun l => l[0]?) ek
      simpa [c3, Value.cells] using e
    have q2 : A[2]? = some (.int .i64 z) := by
      have e := congrArg (fun l => l[0]?) ez
      simpa [c3, Value.cells] using e
    have q3 : A[3]? = some u1 := by
      have e := congrArg (fun l => l[0]?) e1
      simpa [c24, Value.cells] using e
    have q4 : A[4]? = some u2 := by
      have e := congrArg (fun l => l[0]?) e2
      simpa [c24, Value.cells] using e
    congr 1
    refine Array.ext (by rw [hs]; rfl) fun i hi hi2 => ?_
    have hi5 : i < 5 := by omega
    have hq : A[i]? = (#[Value.bool f, .int .i64 k, .int .i64 z, u1, u2] : Array Value)[i]? := by
      match i, hi5 with
      | 0, _ => rw [q0]; rfl
      | 1, _ => rw [q1]; rfl
      | 2, _ => rw [q2]; rfl
      | 3, _ => rw [q3]; rfl
      | 4, _ => rw [q4]; rfl
      | i + 5, h => omega
    rw [Array.getElem?_eq_getElem hi, Array.getElem?_eq_getElem hi2] at hq
    exact Option.some.inj hq
end
end Go.Cm
