/- The walk of MiniOrder. Conditions: the arguments read as an automaton and a list of bytes. -/
import Derived.Test.YtjeclleophlliaaLawM
import Derived.Test.YtjeclleophlliaaOrdM
import Derived.Test.YtjeclleophlliaaRegS
import Derived.Deep.DeepCutAuto
import Derived.Deep.CutRange
namespace Go.Cm
open Go.RowKit Go.Proofs

theorem count (x m : Int) (hx : 0 ≤ x) (hx2 : x ≤ 4294967296) (hm : 1 ≤ m) (hm2 : m ≤ 4294967296) (w : World) : Calls Try.prog 19 #[.int .i64 x, .int .i64 m] w fun e w' => e = .returned (.int .i64 (x % m)) ∧ w' = w := by
  have h0 : ¬ x < 0 := by omega
  have hm0 : ¬ m = 0 := by omega
  go_enter Try.func19, Try.ntmps19
  go_wp2
  go_ret
  exact ⟨rfl, rfl⟩

theorem set_list {l : List Value} : ∀ (k : Nat) (cs : Array Value), k + l.length ≤ cs.size → ((l.zipIdx k).foldl (fun cs (x : Value × Nat) => cs.setIfInBounds (0 + x.2) x.1) cs).toList = cs.toList.take k ++ l ++ cs.toList.drop (k + l.length) := by
  induction l with
  | nil => intro k cs _; simp
  | cons a l ih =>
    intro k cs hk
    rw [List.length_cons] at hk
    rw [List.zipIdx_cons, List.foldl_cons]
    have h1 := ih (k + 1) (cs.setIfInBounds (0 + k) a) (by simp; omega)
    rw [h1, Array.toList_setIfInBounds, Nat.zero_add]
    have e1 : (cs.toList.set k a).take (k + 1) = cs.toList.take k ++ [a] := by
      rw [List.take_succ_eq_append_getElem (by simp; omega), List.take_set_of_le (Nat.le_refl _)]
      simp
    rw [e1, List.drop_set_of_lt (by omega)]
    simp [show k + 1 + l.length = k + (l.length + 1) by omega]
theorem fill_cons {place : Nat → Option (Nat × Nat)} {cells : Array Value} {i off size : Nat} {v : Value} {rest : List (Nat × Value)} (h : place i = some (off, size)) (h1 : v.cells.size = size) (h2 : off + v.cells.size ≤ cells.size) :
    Instr.fill place cells ((i, v) :: rest) = Instr.fill place (v.cells.zipIdx.foldl (fun cs (x : Value × Nat) => cs.setIfInBounds (off + x.2) x.1) cells) rest := by
  have h3 : ¬ (off + v.cells.size > cells.size) := by omega
  rw [Instr.fill]
  simp only [h, h1]
  rw [h1] at h3
  simp [h3]
def bArr (B : Array Value) (v1 v2 : Value) : Array Value := (B.toList ++ [v1, v2]).toArray
theorem bArr_list {B : Array Value} {l : List Value} {v1 v2 : Value} (h : B.toList = l) : (bArr B v1 v2).toList = l ++ [v1, v2] := by unfold bArr; rw [h]
theorem build_three (W : World) (B : Array Value) (hB : B.size = 256) (a a' : Option Addr) (n c n' c' : Nat) : (Instr.build 26 #[(0, .agg B), (2, .slice a n c), (1, .slice a' n' c')]).run Try.prog W = .ok (.agg (bArr B (.slice a' n' c') (.slice a n c))) W := by
  have hz := zero_dfa W
  have hp : (#[(⟨"Class", 22, 0, false, "", "", 0⟩ : Field), ⟨"Next", 23, 256, false, "", "", 2048⟩, ⟨"Rules", 24, 257, false, "", "", 2072⟩].mapM fun f => do pure (f.offset, ← sizeOf f.type) : Sem (Array (Nat × Nat))).run Try.prog W = .ok #[(0, 256), (256, 1), (257, 1)] W := by kernel_rfl
  have hf : Instr.fill (fun x => (#[(0, 256), (256, 1), (257, 1)] : Array (Nat × Nat))[x]?) zArr [(0, .agg B), (2, .slice a n c), (1, .slice a' n' c')] = some (bArr B (.slice a' n' c') (.slice a n c)) := by
    have hl := set_list (l := B.toList) 0 zArr (by rw [zArr_size, Array.length_toList, hB]; decide)
    have h256 : (ints (List.replicate 256 0)).length = 256 := by rw [ints_length, List.length_replicate]
    rw [List.take_zero, List.nil_append, Nat.zero_add, Array.length_toList, hB, zArr_list, List.drop_append_of_le_length (by rw [h256]; exact Nat.le_refl _), List.drop_of_length_le (by rw [h256]; exact Nat.le_refl _), List.nil_append] at hl
    have hfold : B.zipIdx.foldl (fun cs (x : Value × Nat) => cs.setIfInBounds (0 + x.2) x.1) zArr = (B.toList ++ [Value.slice none 0 0, Value.slice none 0 0]).toArray := by
      rw [← hl, ← Array.foldl_toList, Array.toList_zipIdx]
    have e0 : (#[(0, 256), (256, 1), (257, 1)] : Array (Nat × Nat))[0]? = some (0, 256) := rfl
    have e1 : (#[(0, 256), (256, 1), (257, 1)] : Array (Nat × Nat))[1]? = some (256, 1) := rfl
    have e2 : (#[(0, 256), (256, 1), (257, 1)] : Array (Nat × Nat))[2]? = some (257, 1) := rfl
    have hbl : B.toList.length = 256 := by rw [Array.length_toList, hB]
    have hfin : (((B.toList ++ [Value.slice none 0 0, Value.slice none 0 0]).toArray.setIfInBounds 257 (Value.slice a n c)).setIfInBounds 256 (Value.slice a' n' c')) = bArr B (.slice a' n' c') (.slice a n c) := by
      apply Array.ext'
      rw [Array.toList_setIfInBounds, Array.toList_setIfInBounds]
      unfold bArr
      simp only
      rw [List.set_append_right _ _ (by rw [hbl]; decide), hbl, List.set_append_right _ _ (by rw [hbl]; decide), hbl]
      rfl
    have hsz : (B.toList ++ [Value.slice none 0 0, Value.slice none 0 0]).toArray.size = 258 := by simp [hB]
    rw [fill_cons (v := .agg B) (cells := zArr) e0 hB (by show 0 + B.size ≤ zArr.size; rw [hB, zArr_size]; decide)]
    rw [show (Value.agg B).cells = B from rfl, hfold]
    rw [fill_cons (v := .slice a n c) e2 rfl (by rw [hsz]; show 257 + 1 ≤ 258; decide)]
    rw [show (Value.slice a n c).cells.zipIdx.foldl (fun cs (x : Value × Nat) => cs.setIfInBounds (257 + x.2) x.1) (B.toList ++ [Value.slice none 0 0, Value.slice none 0 0]).toArray = (B.toList ++ [Value.slice none 0 0, Value.slice none 0 0]).toArray.setIfInBounds 257 (.slice a n c) from rfl]
    rw [fill_cons (v := .slice a' n' c') e1 rfl (by rw [Array.size_setIfInBounds, hsz]; show 256 + 1 ≤ 258; decide)]
    rw [Instr.fill, ← hfin]
    rfl
  unfold Instr.build
  rw [Sem.run_bind, hz, Result.andThen_ok, Sem.run_bind, run_underlying Try.underlying26, Result.andThen_ok]
  simp only [Value.cells]
  rw [Sem.run_bind, hp, Result.andThen_ok]
  simp only [hf]
  rfl

theorem wpList_mk {ops : Array Oper} {rest : List Oper} {o : Oper} {a : Act} {w : World} {Q : Exit → Act → World → Prop} (hgd : o.guard = none) (x y : Operand) (t E : TypeId) (ho : o.op = .makeSlice t x y) (z : Value) (bytes n : Nat) (ht : Try.prog.underlying t = some (.slice E)) (hinf : (Try.prog.info? E).map (fun i => (i.zero, i.size, i.bytes)) = some (some z, 1, bytes)) (hz : z.cells = #[z]) (hby : bytes ≤ 24) (hn : n ≤ 4294967296)
    (hx : a.eval x = .int .i64 n) (hy : a.eval y = .int .i64 n)
    (h : ∀ g w', Own w' w.heap.size E (.slice (some ⟨g, 0, none⟩) n n) (List.replicate n z) → Below w.heap.size w w' → w.heap.size ≤ g → g < w'.heap.size → wpList Try.prog ops Q rest (a.put o.dst (.slice (some ⟨g, 0, none⟩) n n)) w') : wpList Try.prog ops Q (o :: rest) a w := by
  have hrun := run_mk (P := Try.prog) t E z bytes n ht hinf hz hby hn w
  refine wpList_plain hgd fun K hK => ?_
  unfold Oper.wp execOp
  simp only [ho, hx, hy, Sem.run_bind, hrun, Result.andThen_ok, Sem.run_pure]
  exact hK _ _ (h w.heap.size _ (own_made w w.heap.size E z n (Nat.le_refl _) hn) (below_alloc w _) (Nat.le_refl _) (by simp))
theorem wpList_alloc_dfa {ops : Array Oper} {rest : List Oper} {o : Oper} {a : Act} {w : World} {Q : Exit → Act → World → Prop} (hgd : o.guard = none) (ho : o.op = .alloc 26)
    (h : ∀ g w', BoxD w' g (.slice none 0 0) (.slice none 0 0) (List.replicate 256 0) → Below w.heap.size w w' → w.heap.size ≤ g → g < w'.heap.size → wpList Try.prog ops Q rest (a.put o.dst (.pointer (some ⟨g, 0, none⟩))) w') : wpList Try.prog ops Q (o :: rest) a w := by
  refine wpList_plain hgd fun K hK => ?_
  have hrun : (Instr.alloc 26 true (.tuple #[])).run Try.prog w = .ok (.pointer (some ⟨w.heap.size, 0, none⟩)) (w.alloc (.cells zArr 26)) := by
    have hz := zero_dfa
    generalize zArr = Z at *
    simp [Instr.alloc, hz, newVar, newRow, Value.cells, go_sem]
  unfold Oper.wp execOp
  simp only [ho, Sem.run_bind, hrun, Result.andThen_ok, Sem.run_pure]
  exact hK _ _ (h w.heap.size _ (box_new w) (below_alloc w _) (Nat.le_refl _) (by simp))
theorem quiet_load_cls {C : World → Prop} {o : Oper} {a : Act} {K : Act → Prop} (x : Operand) (ho : o.op = .load 22 x) (g : Nat) (hx : a.eval x = .pointer (some ⟨g, 0, none⟩)) (A B : Array Value) (hs : A.size = 258) (hB : A.extract 0 256 = B)
    (hg : ∀ w', C w' → w'.heap[g]? = some (.cells A 26 (0, 0))) (h : K (a.put o.dst (.agg B))) : o.quiet Try.prog a C K := by
  refine ⟨.agg B, fun w' hw' => ?_, h⟩
  have hl := run_loadVar_sub (P := Try.prog) w' g 0 256 26 22 A (0, 0) _ (hg w' hw') Try.underlying22 rfl (by kernel_rfl) (by rw [hs]; decide)
  rw [Nat.zero_add, hB] at hl
  unfold Oper.quietAt execOp
  simp only [ho, hx, Instr.loadAt, Instr.sureAddr, Sem.run_bind, Sem.run_pure, Result.andThen_ok, hl, Oper.quietUpon]
  exact ⟨trivial, trivial⟩
theorem quiet_build {C : World → Prop} {o : Oper} {a : Act} {K : Act → Prop} (x y z : Operand) (ho : o.op = .build 26 #[(0, x), (2, y), (1, z)]) (B : Array Value) (hB : B.size = 256) (hx : a.eval x = .agg B) {b b' : Option Addr} {n c n' c' : Nat} (hy : a.eval y = .slice b n c) (hz : a.eval z = .slice b' n' c')
    (h : K (a.put o.dst (.agg (bArr B (.slice b' n' c') (.slice b n c))))) : o.quiet Try.prog a C K := by
  refine ⟨_, fun w' _ => ?_, h⟩
  have hr := build_three w' B hB b b' n c n' c'
  unfold Oper.quietAt execOp
  simp only [ho, List.map_toArray, List.map_cons, List.map_nil, hx, hy, hz, Sem.run_bind, Sem.run_pure, Result.andThen_ok, hr, Oper.quietUpon]
  exact ⟨trivial, trivial⟩
theorem swapped {k n m : Nat} (h : ¬ (k + 1 < m ∧ k < 40 ∧ 2 < n)) : m ≤ k + 1 ∨ (k + 1 < m ∧ 40 ≤ k) ∨ (k + 1 < m ∧ k < 40 ∧ n ≤ 2) := by omega
set_option maxRecDepth 100000 in
set_option maxHeartbeats 4000000 in
theorem miniOrder (v u : Value) (d : Dfa) (sw : List UInt8) (w : World) (h : DfaAt w v d) (hu : Sl w u (bytesV sw)) : Calls Try.prog 6 #[v, u] w fun e w' => e = .returned (.bool true) ∧ ∃ x, w' = ext w x := by
  obtain ⟨A, rfl, hv⟩ := h
  have HIN : Hid (DfaIn (w.alloc (.cells A 26)) w.heap.size A d) := Lib.hid ⟨heap_alloc_new w (.cells A 26), hv.up (below_alloc _ _)⟩
  have HS := Lib.hid hv.hsize
  have HCL := Lib.hid hv.hlen
  have HVV := Lib.hid hv
  obtain ⟨vn, hnA, hrw⟩ := hv.hnext
  obtain ⟨vq, hqA, hrq⟩ := hv.hrules
  obtain ⟨oa1, cap1, bn, fn, rfl, hdn, hrn⟩ := hrw.open
  obtain ⟨oq1, capq, bq, fq, rfl, hdq, hrr⟩ := hrq.open
  have HDN := Lib.hid hdn
  have HDQ := Lib.hid hdq
  have HRN := Lib.hid hrn
  have HRR := Lib.hid hrr
  have HNA := Lib.hid hnA
  have HQA := Lib.hid hqA
  clear hnA hrw hqA hrq hdn hrn hdq hrr
  have HSM := Lib.hid (fun W (hW : DfaIn W w.heap.size A d) => small (.agg A) d W ⟨A, rfl, hW.2⟩)
  have HRT := Lib.hid (fun W (hW : DfaIn W w.heap.size A d) => rightR (.agg A) d W ⟨A, rfl, hW.2⟩)
  clear hv
  obtain ⟨ou, cu, bu, fu, rfl, hdu, hru⟩ := hu
  rw [bytesV_length] at hdu hru ⊢
  have HDU := Lib.hid hdu
  have HRU : Hid (∀ i, i < sw.length → w.cell? ⟨bu, fu + i, none⟩ = some (.int .u8 ((sw.getD i 0).toNat : Int))) := Lib.hid (fun i hi => by
    rw [hru i hi]; simp [bytesV, List.getD, hi])
  clear hdu hru
  have hz := zero_dfa
  obtain ⟨Z, hZ⟩ : ∃ Z, Z = zArr := ⟨_, rfl⟩
  rw [← hZ] at hz
  have HBN : Hid (∀ W : World, BoxD (W.alloc (.cells Z 26)) W.heap.size (.slice none 0 0) (.slice none 0 0) (List.replicate 256 0)) := Lib.hid (fun W => hZ ▸ box_new W)
  clear hZ
  cases hsm : smallB d with
  | false =>
    go_enter Try.func6, Try.ntmps6
    go_wp2_with (first | (refine load_dfa rfl _ rfl w.heap.size rfl A HS.out HIN.out.1 ?_) | (go_at_call 7; refine (HSM.out _ HIN.out).mono ?_; rintro e w' ⟨rfl, x, rfl⟩; rw [hsm]) | (go_at_call 8; refine (known _).mono ?_; rintro e w' ⟨rfl, x2, rfl⟩))
    go_ret
    exact ⟨rfl, (ex_ext (by repeat (first | exact Below.refl _ _ | assumption | refine b_drewN ?_ _ | refine Below.drew ?_ | refine b_ext' ?_ _ | refine b_alloc' ?_ _)))⟩
  | true =>
    by_cases hv : Valid d
    · have HRB := Lib.hid (rightB_true hv)
      have hn1 := hv.1
      have hn2 : d.next.length ≤ 30 := by have := hsm; unfold smallB at this; simp at this; omega
      have HV := Lib.hid hv; clear hv
      go_enter Try.func6, Try.ntmps6
      go_wp2_with (first | (refine load_dfa rfl _ rfl w.heap.size rfl A HS.out HIN.out.1 ?_) | (go_at_call 7; refine (HSM.out _ HIN.out).mono ?_; rintro e w' ⟨rfl, x, rfl⟩; rw [hsm]; have HIN1 := Lib.hid (HIN.out.up (ext_below _ x))))
      refine op_load_dfa _ rfl w.heap.size rfl A HS.out HIN1.out.1 ?_
      go_wp2_with (fail)
      refine (HRT.out _ HIN1.out).mono ?_
      rintro e w' ⟨rfl, x1, rfl⟩
      rw [HRB.out]
      have hb0 : Below w.heap.size w (ext (ext (w.alloc (.cells A 26)) x) x1) := (by repeat (first | exact Below.refl _ _ | assumption | refine b_drewN ?_ _ | refine Below.drew ?_ | refine b_ext' ?_ _ | refine b_alloc' ?_ _))
      have hin : DfaIn (ext (ext (w.alloc (.cells A 26)) x) x1) w.heap.size A d := HIN1.out.up (ext_below _ x1)
      have hcn := (cell_of_row _ w.heap.size 256 A 26 (0, 0) hin.1).trans HNA.out
      generalize ext (ext (w.alloc (.cells A 26)) x) x1 = w1 at *
      have hs1 : w.heap.size < w1.heap.size := hin.lt
      have HB0 := Lib.hid hb0; clear hb0
      have HI1 := Lib.hid hin; clear hin
      clear hsm HSM HRT HRB HIN HIN1
      have HW1 := HB0
      have hixu := index_any (P := Try.prog) 38 5 Try.underlying38 (by kernel_rfl) HDU.out
      have hul : sw.length ≤ 140737488351232 := HDU.out.hsml
      have hmk := run_mk (P := Try.prog) 24 3 (.int .i64 0) 8 d.next.length Try.underlying24 (by kernel_rfl) rfl (by decide) (by omega)
      have hmk2 := run_mk (P := Try.prog) 23 24 (.slice none 0 0) 24 d.next.length Try.underlying23 (by kernel_rfl) rfl (by decide) (by omega)
      obtain ⟨Mb, hM⟩ : ∃ M, M = madeCells #[Value.int .i64 0] d.next.length := ⟨_, rfl⟩
      obtain ⟨Mc, hMc⟩ : ∃ M, M = madeCells #[Value.slice none 0 0] d.next.length := ⟨_, rfl⟩
      rw [← hM] at hmk
      rw [← hMc] at hmk2
      have HO1 : ∀ W : World, Hid (Own (W.alloc (.cells Mb 3)) W.heap.size 3 (.slice (some ⟨W.heap.size, 0, none⟩) d.next.length d.next.length) (ints (nl (List.replicate d.next.length 0)))) := fun W => Lib.hid (by
        have h1 := own_lit W W.heap.size Mb 3 (by rw [hM, size_madeCells]; omega) (Nat.le_refl _)
        rw [hM, size_madeCells, toList_madeCells_one, ints_replicate, ← hM] at h1
        have e : (List.replicate d.next.length 0 : List Int) = nl (List.replicate d.next.length 0) := by simp [nl]
        rw [e] at h1
        simpa using h1)
      have HO2 : ∀ W : World, Hid (Own (W.alloc (.cells Mc 24)) W.heap.size 24 (.slice (some ⟨W.heap.size, 0, none⟩) d.next.length d.next.length) (List.replicate d.next.length (.slice none 0 0))) := fun W => Lib.hid (by
        have h1 := own_lit W W.heap.size Mc 24 (by rw [hMc, size_madeCells]; omega) (Nat.le_refl _)
        rw [hMc, size_madeCells, toList_madeCells_one, ← hMc] at h1
        simpa using h1)
      clear hM hMc
      go_wp2
      have HNUM := HO1 w1
      have HB1 := Lib.hid (below_alloc w1 (.cells Mb 3))
      generalize hn : d.next.length = n at *
      have HN := Lib.hid hn; clear hn
      go_loopg [7] (n + 1) (fun gk i wr => ∃ (k : Nat) (nm : List Nat), k ≤ n ∧ i = .int .i64 k ∧ Own wr w1.heap.size 3 (.slice (some ⟨w1.heap.size, 0, none⟩) n n) (ints (nl nm)) ∧ Hid (nm.length = n) ∧ Hid (∀ a, a < k → nm.getD a 0 = a) ∧ Below w1.heap.size w1 wr ∧ gk = n + 1 - k)
      case atStart => exact ⟨0, _, Nat.zero_le _, rfl, HNUM.out, Lib.hid (by simp), Lib.hid (fun a ha => absurd ha (Nat.not_lt_zero a)), HB1.out, rfl⟩
      case round =>
        clear HNUM HB1
        obtain ⟨k, nm, hk, rfl, hown, HNL, HNV, hbel, rfl⟩ := hrel
        have HB := Lib.hid hbel; clear hbel
        have HO := Lib.hid hown; clear hown
        by_cases hlt : k < n
        · have hcw : wr.cell? ⟨w1.heap.size, k, none⟩ = some (.int .i64 ((nm.getD k 0 : Nat) : Int)) := by
            rw [HO.out.cell (by rw [ints_length, nl_length, HNL.out]; exact hlt), ints_getD _ _ (by rw [nl_length, HNL.out]; exact hlt), nl_getD]
          have hfw := HO.out.free k
          generalize nm.getD k 0 = y0 at *
          go_wp2
          go_roundg (n + 1 - (k + 1))
          case measure => omega
          case rel =>
            obtain ⟨h1, h2⟩ := HO.out.store k (.int .i64 (k : Nat))
            rw [ints_nl_set] at h1
            refine ⟨k + 1, nm.set k k, by omega, by go_num, h1, Lib.hid (by simp [HNL.out]), Lib.hid (fun a ha => ?_), HB.out.setCell (Nat.le_refl _) _, rfl⟩
            rw [getD_setN]
            rcases Nat.lt_succ_iff_lt_or_eq.1 ha with h | rfl
            · rw [if_neg (by omega)]; exact HNV.out a h
            · rw [if_pos ⟨rfl, by rw [HNL.out]; exact hlt⟩]
        · have hkn : k = n := by omega
          subst hkn
          have HP : Hid (PermOk k nm) := Lib.hid (by
            have : nm = List.range k := List.ext_getElem (by rw [HNL.out, List.length_range]) (fun i h1 h2 => by
              have h3 := HNV.out i (by rw [← HNL.out]; exact h1)
              rw [List.getD_eq_getElem?_getD, List.getElem?_eq_getElem h1] at h3
              simpa using h3)
            rw [this]; exact PermOk.start k)
          clear HNV HNL
          go_wp2
          have HPO := HP
          go_loopg [8] 41 (fun gk i wr => ∃ (j : Nat) (nm : List Nat), j ≤ 40 ∧ i = .int .i64 j ∧ Own wr w1.heap.size 3 (.slice (some ⟨w1.heap.size, 0, none⟩) k k) (ints (nl nm)) ∧ Hid (PermOk k nm) ∧ Below w1.heap.size w1 wr ∧ gk = 41 - j)
          case atStart => exact ⟨0, nm, Nat.zero_le _, rfl, HO.out, HP, HB.out, rfl⟩
          case round =>
            clear HO HB HP HPO
            obtain ⟨j, nm, hj, rfl, hown, HP, hbel, rfl⟩ := hrel
            have HB := Lib.hid hbel; clear hbel
            have HO := Lib.hid hown; clear hown
            go_upto_region 10 with fail
            go_cut [55] from 43 to 91 (fun s wx => s = .bool (decide (j + 1 < sw.length ∧ j < 40 ∧ 2 < k)) ∧ wx = wr)
            case first =>
              by_cases h1 : j + 1 < sw.length
              · have h1' : (j : Int) + 1 < (sw.length : Int) := by omega
                by_cases h2 : j < 40
                · by_cases h3 : 2 < k
                  · go_wp2
                    go_meet
                    case rel => exact ⟨by simp [h1, h2, h3] <;> omega, rfl⟩
                  · go_wp2
                    go_meet
                    case rel => exact ⟨by simp [h1, h2, h3] <;> omega, rfl⟩
                · go_wp2
                  go_meet
                  case rel => exact ⟨by simp [h1, h2] <;> omega, rfl⟩
              · have h1' : ¬ (j : Int) + 1 < (sw.length : Int) := by omega
                go_wp2
                go_meet
                case rel => exact ⟨by simp [h1] <;> omega, rfl⟩
            case rest =>
              obtain ⟨rfl, hwc⟩ := hcut
              subst wc
              by_cases hc : j + 1 < sw.length ∧ j < 40 ∧ 2 < k
              · have hd : decide (j + 1 < sw.length ∧ j < 40 ∧ 2 < k) = true := by simpa using hc
                rw [hd]
                clear hd
                obtain ⟨hc1, hc2, hc3⟩ := hc
                have hsz := HB.out.size
                have hbu := HDU.out.hblk (by omega)
                have hx1 := (HB.out.cell (p := ⟨bu, fu + j, none⟩) (show bu < w1.heap.size by omega)).trans ((HW1.out.cell (p := ⟨bu, fu + j, none⟩) hbu).trans (HRU.out j (by omega)))
                have hx2 := (HB.out.cell (p := ⟨bu, fu + (j + 1), none⟩) (show bu < w1.heap.size by omega)).trans ((HW1.out.cell (p := ⟨bu, fu + (j + 1), none⟩) hbu).trans (HRU.out (j + 1) hc1))
                have hb1 : (sw.getD j 0).toNat ≤ 255 := by have := (sw.getD j 0).toNat_lt; omega
                have hb2 : (sw.getD (j + 1) 0).toNat ≤ 255 := by have := (sw.getD (j + 1) 0).toNat_lt; omega
                generalize (sw.getD j 0).toNat = y1 at *
                generalize (sw.getD (j + 1) 0).toNat = y2 at *
                obtain ⟨a, ha, hak⟩ : ∃ a : Nat, (y1 : Int) % ((k : Int) - 1) = a ∧ a + 1 < k := by
                  have h1 := Int.emod_nonneg (y1 : Int) (show (k : Int) - 1 ≠ 0 by omega)
                  have h2 := Int.emod_lt_of_pos (y1 : Int) (show 0 < (k : Int) - 1 by omega)
                  exact ⟨((y1 : Int) % ((k : Int) - 1)).toNat, by omega, by omega⟩
                obtain ⟨b', hb', hbk⟩ : ∃ a : Nat, (y2 : Int) % ((k : Int) - 1) = a ∧ a + 1 < k := by
                  have h1 := Int.emod_nonneg (y2 : Int) (show (k : Int) - 1 ≠ 0 by omega)
                  have h2 := Int.emod_lt_of_pos (y2 : Int) (show 0 < (k : Int) - 1 by omega)
                  exact ⟨((y2 : Int) % ((k : Int) - 1)).toNat, by omega, by omega⟩
                have HA := Lib.hid ha; clear ha
                have HBE := Lib.hid hb'; clear hb'
                have hbu2 : bu < wr.heap.size := by omega
                have hca : ∀ i, i < k → wr.cell? ⟨w1.heap.size, i, none⟩ = some (.int .i64 ((nm.getD i 0 : Nat) : Int)) := fun i hi => by
                  rw [HO.out.cell (by rw [ints_length, nl_length, HP.out.len]; exact hi), ints_getD _ _ (by rw [nl_length, HP.out.len]; exact hi), nl_getD]
                have hc4 := hca (1 + a) (by omega)
                have hc5 := hca (1 + b') (by omega)
                have hf4 := HO.out.free (1 + a)
                have hf5 := HO.out.free (1 + b')
                have HPS := Lib.hid (HP.out.swap (a := 1 + a) (b := 1 + b') (by omega) (by omega) (by omega) (by omega))
                have hj1 : j < sw.length := by omega
                have hj2 : ∀ W : World, (Instr.indexAt 38 (.slice ou sw.length cu) (.int .i64 ((j : Int) + 1))).run Try.prog W = .ok (.pointer (some ⟨bu, fu + (j + 1), none⟩)) W := fun W => by
                  have h := hixu W .i64 ((j : Int) + 1) (by omega) (by omega)
                  rwa [show ((j : Int) + 1).toNat = j + 1 by omega] at h
                clear hca
                by_cases hab : a = b'
                · subst hab
                  generalize nm.getD (1 + a) 0 = va at *
                  go_wp2_with (first | (go_at_call 19; (with_reducible refine (count (y1 : Int) ((k : Int) - 1) (by omega) (by omega) (by omega) (by omega) _).mono ?_); rintro e w' ⟨rfl, rfl⟩; rw [HA.out]) | (go_at_call 19; (with_reducible refine (count (y2 : Int) ((k : Int) - 1) (by omega) (by omega) (by omega) (by omega) _).mono ?_); rintro e w' ⟨rfl, rfl⟩; rw [HBE.out]))
                  go_roundg (41 - (j + 1))
                  case measure => omega
                  case rel =>
                    obtain ⟨h1, h2⟩ := HO.out.store (1 + a) (.int .i64 (va : Nat))
                    obtain ⟨h3, h4⟩ := h1.store (1 + a) (.int .i64 (va : Nat))
                    rw [ints_nl_set, ints_nl_set] at h3
                    exact ⟨j + 1, _, by omega, by go_num, h3, HPS, (HB.out.setCell (Nat.le_refl _) _).setCell (Nat.le_refl _) _, rfl⟩
                · have hab2 : ¬ b' = a := fun e => hab e.symm
                  generalize nm.getD (1 + a) 0 = va at *
                  generalize nm.getD (1 + b') 0 = vb at *
                  go_wp2_with (first | (go_at_call 19; (with_reducible refine (count (y1 : Int) ((k : Int) - 1) (by omega) (by omega) (by omega) (by omega) _).mono ?_); rintro e w' ⟨rfl, rfl⟩; rw [HA.out]) | (go_at_call 19; (with_reducible refine (count (y2 : Int) ((k : Int) - 1) (by omega) (by omega) (by omega) (by omega) _).mono ?_); rintro e w' ⟨rfl, rfl⟩; rw [HBE.out]))
                  go_roundg (41 - (j + 1))
                  case measure => omega
                  case rel =>
                    obtain ⟨h1, h2⟩ := HO.out.store (1 + a) (.int .i64 (vb : Nat))
                    obtain ⟨h3, h4⟩ := h1.store (1 + b') (.int .i64 (va : Nat))
                    rw [ints_nl_set, ints_nl_set] at h3
                    exact ⟨j + 1, _, by omega, by go_num, h3, HPS, (HB.out.setCell (Nat.le_refl _) _).setCell (Nat.le_refl _) _, rfl⟩
              · have hd : decide (j + 1 < sw.length ∧ j < 40 ∧ 2 < k) = false := by simpa using hc
                rw [hd]
                clear hd hc
                go_wp2
                have hin3 : DfaIn wr w.heap.size A d := HI1.out.up HB.out
                have HI3 := Lib.hid hin3; clear hin3
                obtain ⟨B0, hB0⟩ : ∃ B, A.extract 0 256 = B := ⟨_, rfl⟩
                have HB0E := Lib.hid hB0
                have HB0L : Hid (B0.toList = ints d.cls) := Lib.hid (by
                  apply List.ext_getElem?
                  intro i
                  rw [Array.getElem?_toList, ← hB0, Array.getElem?_extract]
                  have h1 := HVV.out.hlen
                  rcases Nat.lt_or_ge i 256 with h | h
                  · have h2 := HVV.out.hcls i h
                    rw [if_pos (by have := HS.out; omega), Nat.zero_add, h2]
                    simp [ints, List.getD, h1, h]
                  · rw [if_neg (by omega), List.getElem?_eq_none (by rw [ints_length, h1]; exact h)])
                have HB0S : Hid (B0.size = 256) := Lib.hid (by rw [← Array.length_toList, HB0L.out, ints_length]; exact HVV.out.hlen)
                clear hB0
                have HQ : Hid (∀ w', (∃ x, w' = ext wr x) → w'.heap[w.heap.size]? = some (.cells A 26 (0, 0))) := Lib.hid (by
                  rintro w' ⟨x, rfl⟩
                  exact (HI3.out.up (ext_below wr x)).1)
                have hcut0 : wr.heap.size ≤ wr.heap.size := Nat.le_refl _
                go_cut [12] (fun s wx => ∃ g gN gR : Nat, s = .pointer (some ⟨g, 0, none⟩) ∧ g ≠ gN ∧ g ≠ gR ∧ gN ≠ gR ∧ wr.heap.size ≤ g ∧ wr.heap.size ≤ gN ∧ wr.heap.size ≤ gR ∧ BoxD wx g (.slice (some ⟨gN, 0, none⟩) k k) (.slice (some ⟨gR, 0, none⟩) k k) d.cls ∧ Own wx wr.heap.size 24 (.slice (some ⟨gN, 0, none⟩) k k) (List.replicate k (.slice none 0 0)) ∧ Own wx wr.heap.size 3 (.slice (some ⟨gR, 0, none⟩) k k) (List.replicate k (.int .i64 0)) ∧ Below wr.heap.size wr wx)
                case first =>
                  clear hmk hmk2
                  refine wp_region_scr (C := fun w' => ∃ x, w' = ext wr x) (.q 0 (.q 1 (.q 2 (.q 4 (.br 3 (.br 5 (.q 6 (.br 7 (.br 8 .done .no) .no)) (.br 7 (.br 5 (.q 6 (.br 8 .done .no)) .no) .no)) (.br 5 (.br 3 (.q 6 (.br 7 (.br 8 .done .no) .no)) (.br 7 (.br 3 (.q 6 (.br 8 .done .no)) .no) .no)) (.br 7 (.br 3 (.br 5 (.q 6 (.br 8 .done .no)) .no) (.br 5 (.br 3 (.q 6 (.br 8 .done .no)) .no) .no)) .no))))))) (by kernel_rfl) (by kernel_rfl) (ex_ext (below_drewN wr 1)) ?_
                  have HC0 : Hid (Below wr.heap.size wr (wr.drewN 1)) := Lib.hid (below_drewN wr 1)
                  (unfold wpScr; simp only [pick, List.map_cons, List.map_nil, List.getD_cons_zero, List.getD_cons_succ])
                  repeat (go_big_quiet_step (fail))
                  refine wpQuiet_nil ?_
                  (unfold wpScr; simp only [pick, List.map_cons, List.map_nil, List.getD_cons_zero, List.getD_cons_succ])
                  repeat (first | (go_big_quiet_want; refine quiet_load_cls _ rfl w.heap.size rfl A B0 HS.out HB0E.out HQ.out ?_; go_simp; go_big_quiet_on) | go_big_quiet_step (fail))
                  refine wpQuiet_nil ?_
                  (unfold wpScr; simp only [pick, List.map_cons, List.map_nil, List.getD_cons_zero, List.getD_cons_succ])
                  repeat (go_big_quiet_step (fail))
                  refine wpQuiet_nil ?_
                  (unfold wpScr; simp only [pick, List.map_cons, List.map_nil, List.getD_cons_zero, List.getD_cons_succ])
                  repeat (go_big_quiet_step (fail))
                  refine wpQuiet_nil ?_
                  (unfold wpScr; simp only [pick, List.map_cons, List.map_nil, List.getD_cons_zero, List.getD_cons_succ])
                  refine ⟨?_, ?_⟩
                  · unfold wpAct
                    go_wp2_with (refine wpList_mk rfl _ _ 24 3 rfl (.int .i64 0) 8 k Try.underlying24 (by kernel_rfl) rfl (by decide) (by omega) rfl rfl ?_; intro gR wR hR hbR hR1 hR2; have HR := Lib.hid hR; have HBR := Lib.hid hbR; have hsR := hbR.size; have CR := Lib.hid (below_up HC0.out hbR); clear hR hbR)
                    refine ⟨ex_ext CR.out, ?_⟩
                    unfold wpAct
                    (unfold wpScr; simp only [pick, List.map_cons, List.map_nil, List.getD_cons_zero, List.getD_cons_succ])
                    refine ⟨?_, ?_⟩
                    · unfold wpAct
                      go_wp2_with (refine wpList_mk rfl _ _ 23 24 rfl (.slice none 0 0) 24 k Try.underlying23 (by kernel_rfl) rfl (by decide) (by omega) rfl rfl ?_; intro gN wN hNx hbN hN1 hN2; have HNX := Lib.hid hNx; have HBN2 := Lib.hid hbN; have hsN := hbN.size; have CN := Lib.hid (below_up CR.out hbN); clear hNx hbN)
                      refine ⟨ex_ext CN.out, ?_⟩
                      unfold wpAct
                      (unfold wpScr; simp only [pick, List.map_cons, List.map_nil, List.getD_cons_zero, List.getD_cons_succ])
                      repeat (first | (go_big_quiet_want; refine quiet_build _ _ _ rfl B0 HB0S.out rfl rfl rfl ?_; go_simp; go_big_quiet_on) | go_big_quiet_step (fail))
                      refine wpQuiet_nil ?_
                      (unfold wpScr; simp only [pick, List.map_cons, List.map_nil, List.getD_cons_zero, List.getD_cons_succ])
                      refine ⟨?_, ?_⟩
                      · unfold wpAct
                        go_wp2_with (refine wpList_alloc_dfa rfl rfl ?_; intro gA wA hAx hbA hA1 hA2; have HAX := Lib.hid hAx; have HBA := Lib.hid hbA; have hsA := hbA.size; have CA := Lib.hid (below_up CN.out hbA); clear hAx hbA)
                        refine ⟨ex_ext CA.out, ?_⟩
                        unfold wpAct
                        (unfold wpScr; simp only [pick, List.map_cons, List.map_nil, List.getD_cons_zero, List.getD_cons_succ])
                        refine ⟨?_, by unfold wpScr; trivial⟩
                        unfold wpAct
                        have z0 : wr.heap.size ≤ wr.drew.heap.size := Nat.le_refl _
                        have zR := CR.out.size
                        have zN := CN.out.size
                        have zA := CA.out.size
                        go_wp2_with (refine store_dfa rfl _ _ rfl gA rfl (bArr B0 (.slice (some ⟨gN, 0, none⟩) k k) (.slice (some ⟨gR, 0, none⟩) k k)) rfl (bArr_list HB0L.out) HVV.out.hlen rfl rfl HAX.out ?_; intro wF hF hgF; have HFX := Lib.hid hF; have HGF := Lib.hid hgF; clear hF hgF)
                        have hbF : Below wr.heap.size wr wF := CA.out.grown HGF.out (by omega) (fun j hj => by cases hj; omega)
                        refine ⟨ex_ext hbF, ?_⟩
                        have HBF := Lib.hid hbF; clear hbF
                        unfold wpAct
                        unfold wpScr
                        intro hz9 hz8; clear hz8 hz9
                        go_wp2
                        go_meet
                        case rel => exact ⟨gA, gN, gR, rfl, by omega, by omega, by omega, by omega, by omega, by omega, HFX.out, (Own.mono (B' := wr.heap.size) (HNX.out.up HBA.out) (by omega)).keep HGF.out (.inr (fun e => by have e2 : gN = gA := Option.some.inj e; omega)), (Own.mono (B' := wr.heap.size) ((HR.out.up HBN2.out).up HBA.out) (by omega)).keep HGF.out (.inr (fun e => by have e2 : gR = gA := Option.some.inj e; omega)), HBF.out⟩
                      unfold wpScr
                      trivial
                    (unfold wpScr; simp only [pick, List.map_cons, List.map_nil, List.getD_cons_zero, List.getD_cons_succ])
                    refine ⟨?_, ?_⟩
                    · unfold wpAct
                      go_wp2_with (refine wpList_alloc_dfa rfl rfl ?_; intro gA wA hAx hbA hA1 hA2; have HAX := Lib.hid hAx; have HBA := Lib.hid hbA; have hsA := hbA.size; have CA := Lib.hid (below_up CR.out hbA); clear hAx hbA)
                      refine ⟨ex_ext CA.out, ?_⟩
                      unfold wpAct
                      (unfold wpScr; simp only [pick, List.map_cons, List.map_nil, List.getD_cons_zero, List.getD_cons_succ])
                      refine ⟨?_, ?_⟩
                      · unfold wpAct
                        go_wp2_with (refine wpList_mk rfl _ _ 23 24 rfl (.slice none 0 0) 24 k Try.underlying23 (by kernel_rfl) rfl (by decide) (by omega) rfl rfl ?_; intro gN wN hNx hbN hN1 hN2; have HNX := Lib.hid hNx; have HBN2 := Lib.hid hbN; have hsN := hbN.size; have CN := Lib.hid (below_up CA.out hbN); clear hNx hbN)
                        refine ⟨ex_ext CN.out, ?_⟩
                        unfold wpAct
                        (unfold wpScr; simp only [pick, List.map_cons, List.map_nil, List.getD_cons_zero, List.getD_cons_succ])
                        repeat (first | (go_big_quiet_want; refine quiet_build _ _ _ rfl B0 HB0S.out rfl rfl rfl ?_; go_simp; go_big_quiet_on) | go_big_quiet_step (fail))
                        refine wpQuiet_nil ?_
                        (unfold wpScr; simp only [pick, List.map_cons, List.map_nil, List.getD_cons_zero, List.getD_cons_succ])
                        refine ⟨?_, by unfold wpScr; trivial⟩
                        unfold wpAct
                        have z0 : wr.heap.size ≤ wr.drew.heap.size := Nat.le_refl _
                        have zR := CR.out.size
                        have zN := CN.out.size
                        have zA := CA.out.size
                        go_wp2_with (refine store_dfa rfl _ _ rfl gA rfl (bArr B0 (.slice (some ⟨gN, 0, none⟩) k k) (.slice (some ⟨gR, 0, none⟩) k k)) rfl (bArr_list HB0L.out) HVV.out.hlen rfl rfl (HAX.out.up HBN2.out) ?_; intro wF hF hgF; have HFX := Lib.hid hF; have HGF := Lib.hid hgF; clear hF hgF)
                        have hbF : Below wr.heap.size wr wF := CN.out.grown HGF.out (by omega) (fun j hj => by cases hj; omega)
                        refine ⟨ex_ext hbF, ?_⟩
                        have HBF := Lib.hid hbF; clear hbF
                        unfold wpAct
                        unfold wpScr
                        intro hz9 hz8; clear hz8 hz9
                        go_wp2
                        go_meet
                        case rel => exact ⟨gA, gN, gR, rfl, by omega, by omega, by omega, by omega, by omega, by omega, HFX.out, (Own.mono (B' := wr.heap.size) HNX.out (by omega)).keep HGF.out (.inr (fun e => by have e2 : gN = gA := Option.some.inj e; omega)), (Own.mono (B' := wr.heap.size) ((HR.out.up HBA.out).up HBN2.out) (by omega)).keep HGF.out (.inr (fun e => by have e2 : gR = gA := Option.some.inj e; omega)), HBF.out⟩
                      unfold wpScr
                      trivial
                    unfold wpScr
                    trivial
                  (unfold wpScr; simp only [pick, List.map_cons, List.map_nil, List.getD_cons_zero, List.getD_cons_succ])
                  refine ⟨?_, ?_⟩
                  · unfold wpAct
                    go_wp2_with (refine wpList_mk rfl _ _ 23 24 rfl (.slice none 0 0) 24 k Try.underlying23 (by kernel_rfl) rfl (by decide) (by omega) rfl rfl ?_; intro gN wN hNx hbN hN1 hN2; have HNX := Lib.hid hNx; have HBN2 := Lib.hid hbN; have hsN := hbN.size; have CN := Lib.hid (below_up HC0.out hbN); clear hNx hbN)
                    refine ⟨ex_ext CN.out, ?_⟩
                    unfold wpAct
                    (unfold wpScr; simp only [pick, List.map_cons, List.map_nil, List.getD_cons_zero, List.getD_cons_succ])
                    refine ⟨?_, ?_⟩
                    · unfold wpAct
                      go_wp2_with (refine wpList_mk rfl _ _ 24 3 rfl (.int .i64 0) 8 k Try.underlying24 (by kernel_rfl) rfl (by decide) (by omega) rfl rfl ?_; intro gR wR hR hbR hR1 hR2; have HR := Lib.hid hR; have HBR := Lib.hid hbR; have hsR := hbR.size; have CR := Lib.hid (below_up CN.out hbR); clear hR hbR)
                      refine ⟨ex_ext CR.out, ?_⟩
                      unfold wpAct
                      (unfold wpScr; simp only [pick, List.map_cons, List.map_nil, List.getD_cons_zero, List.getD_cons_succ])
                      repeat (first | (go_big_quiet_want; refine quiet_build _ _ _ rfl B0 HB0S.out rfl rfl rfl ?_; go_simp; go_big_quiet_on) | go_big_quiet_step (fail))
                      refine wpQuiet_nil ?_
                      (unfold wpScr; simp only [pick, List.map_cons, List.map_nil, List.getD_cons_zero, List.getD_cons_succ])
                      refine ⟨?_, ?_⟩
                      · unfold wpAct
                        go_wp2_with (refine wpList_alloc_dfa rfl rfl ?_; intro gA wA hAx hbA hA1 hA2; have HAX := Lib.hid hAx; have HBA := Lib.hid hbA; have hsA := hbA.size; have CA := Lib.hid (below_up CR.out hbA); clear hAx hbA)
                        refine ⟨ex_ext CA.out, ?_⟩
                        unfold wpAct
                        (unfold wpScr; simp only [pick, List.map_cons, List.map_nil, List.getD_cons_zero, List.getD_cons_succ])
                        refine ⟨?_, by unfold wpScr; trivial⟩
                        unfold wpAct
                        have z0 : wr.heap.size ≤ wr.drew.heap.size := Nat.le_refl _
                        have zR := CR.out.size
                        have zN := CN.out.size
                        have zA := CA.out.size
                        go_wp2_with (refine store_dfa rfl _ _ rfl gA rfl (bArr B0 (.slice (some ⟨gN, 0, none⟩) k k) (.slice (some ⟨gR, 0, none⟩) k k)) rfl (bArr_list HB0L.out) HVV.out.hlen rfl rfl HAX.out ?_; intro wF hF hgF; have HFX := Lib.hid hF; have HGF := Lib.hid hgF; clear hF hgF)
                        have hbF : Below wr.heap.size wr wF := CA.out.grown HGF.out (by omega) (fun j hj => by cases hj; omega)
                        refine ⟨ex_ext hbF, ?_⟩
                        have HBF := Lib.hid hbF; clear hbF
                        unfold wpAct
                        unfold wpScr
                        intro hz9 hz8; clear hz8 hz9
                        go_wp2
                        go_meet
                        case rel => exact ⟨gA, gN, gR, rfl, by omega, by omega, by omega, by omega, by omega, by omega, HFX.out, (Own.mono (B' := wr.heap.size) ((HNX.out.up HBR.out).up HBA.out) (by omega)).keep HGF.out (.inr (fun e => by have e2 : gN = gA := Option.some.inj e; omega)), (Own.mono (B' := wr.heap.size) (HR.out.up HBA.out) (by omega)).keep HGF.out (.inr (fun e => by have e2 : gR = gA := Option.some.inj e; omega)), HBF.out⟩
                      unfold wpScr
                      trivial
                    (unfold wpScr; simp only [pick, List.map_cons, List.map_nil, List.getD_cons_zero, List.getD_cons_succ])
                    refine ⟨?_, ?_⟩
                    · unfold wpAct
                      go_wp2_with (refine wpList_alloc_dfa rfl rfl ?_; intro gA wA hAx hbA hA1 hA2; have HAX := Lib.hid hAx; have HBA := Lib.hid hbA; have hsA := hbA.size; have CA := Lib.hid (below_up CN.out hbA); clear hAx hbA)
                      refine ⟨ex_ext CA.out, ?_⟩
                      unfold wpAct
                      (unfold wpScr; simp only [pick, List.map_cons, List.map_nil, List.getD_cons_zero, List.getD_cons_succ])
                      refine ⟨?_, ?_⟩
                      · unfold wpAct
                        go_wp2_with (refine wpList_mk rfl _ _ 24 3 rfl (.int .i64 0) 8 k Try.underlying24 (by kernel_rfl) rfl (by decide) (by omega) rfl rfl ?_; intro gR wR hR hbR hR1 hR2; have HR := Lib.hid hR; have HBR := Lib.hid hbR; have hsR := hbR.size; have CR := Lib.hid (below_up CA.out hbR); clear hR hbR)
                        refine ⟨ex_ext CR.out, ?_⟩
                        unfold wpAct
                        (unfold wpScr; simp only [pick, List.map_cons, List.map_nil, List.getD_cons_zero, List.getD_cons_succ])
                        repeat (first | (go_big_quiet_want; refine quiet_build _ _ _ rfl B0 HB0S.out rfl rfl rfl ?_; go_simp; go_big_quiet_on) | go_big_quiet_step (fail))
                        refine wpQuiet_nil ?_
                        (unfold wpScr; simp only [pick, List.map_cons, List.map_nil, List.getD_cons_zero, List.getD_cons_succ])
                        refine ⟨?_, by unfold wpScr; trivial⟩
                        unfold wpAct
                        have z0 : wr.heap.size ≤ wr.drew.heap.size := Nat.le_refl _
                        have zR := CR.out.size
                        have zN := CN.out.size
                        have zA := CA.out.size
                        go_wp2_with (refine store_dfa rfl _ _ rfl gA rfl (bArr B0 (.slice (some ⟨gN, 0, none⟩) k k) (.slice (some ⟨gR, 0, none⟩) k k)) rfl (bArr_list HB0L.out) HVV.out.hlen rfl rfl (HAX.out.up HBR.out) ?_; intro wF hF hgF; have HFX := Lib.hid hF; have HGF := Lib.hid hgF; clear hF hgF)
                        have hbF : Below wr.heap.size wr wF := CR.out.grown HGF.out (by omega) (fun j hj => by cases hj; omega)
                        refine ⟨ex_ext hbF, ?_⟩
                        have HBF := Lib.hid hbF; clear hbF
                        unfold wpAct
                        unfold wpScr
                        intro hz9 hz8; clear hz8 hz9
                        go_wp2
                        go_meet
                        case rel => exact ⟨gA, gN, gR, rfl, by omega, by omega, by omega, by omega, by omega, by omega, HFX.out, (Own.mono (B' := wr.heap.size) ((HNX.out.up HBA.out).up HBR.out) (by omega)).keep HGF.out (.inr (fun e => by have e2 : gN = gA := Option.some.inj e; omega)), (Own.mono (B' := wr.heap.size) HR.out (by omega)).keep HGF.out (.inr (fun e => by have e2 : gR = gA := Option.some.inj e; omega)), HBF.out⟩
                      unfold wpScr
                      trivial
                    unfold wpScr
                    trivial
                  (unfold wpScr; simp only [pick, List.map_cons, List.map_nil, List.getD_cons_zero, List.getD_cons_succ])
                  refine ⟨?_, ?_⟩
                  · unfold wpAct
                    go_wp2_with (refine wpList_alloc_dfa rfl rfl ?_; intro gA wA hAx hbA hA1 hA2; have HAX := Lib.hid hAx; have HBA := Lib.hid hbA; have hsA := hbA.size; have CA := Lib.hid (below_up HC0.out hbA); clear hAx hbA)
                    refine ⟨ex_ext CA.out, ?_⟩
                    unfold wpAct
                    (unfold wpScr; simp only [pick, List.map_cons, List.map_nil, List.getD_cons_zero, List.getD_cons_succ])
                    refine ⟨?_, ?_⟩
                    · unfold wpAct
                      go_wp2_with (refine wpList_mk rfl _ _ 24 3 rfl (.int .i64 0) 8 k Try.underlying24 (by kernel_rfl) rfl (by decide) (by omega) rfl rfl ?_; intro gR wR hR hbR hR1 hR2; have HR := Lib.hid hR; have HBR := Lib.hid hbR; have hsR := hbR.size; have CR := Lib.hid (below_up CA.out hbR); clear hR hbR)
                      refine ⟨ex_ext CR.out, ?_⟩
                      unfold wpAct
                      (unfold wpScr; simp only [pick, List.map_cons, List.map_nil, List.getD_cons_zero, List.getD_cons_succ])
                      refine ⟨?_, ?_⟩
                      · unfold wpAct
                        go_wp2_with (refine wpList_mk rfl _ _ 23 24 rfl (.slice none 0 0) 24 k Try.underlying23 (by kernel_rfl) rfl (by decide) (by omega) rfl rfl ?_; intro gN wN hNx hbN hN1 hN2; have HNX := Lib.hid hNx; have HBN2 := Lib.hid hbN; have hsN := hbN.size; have CN := Lib.hid (below_up CR.out hbN); clear hNx hbN)
                        refine ⟨ex_ext CN.out, ?_⟩
                        unfold wpAct
                        (unfold wpScr; simp only [pick, List.map_cons, List.map_nil, List.getD_cons_zero, List.getD_cons_succ])
                        repeat (first | (go_big_quiet_want; refine quiet_build _ _ _ rfl B0 HB0S.out rfl rfl rfl ?_; go_simp; go_big_quiet_on) | go_big_quiet_step (fail))
                        refine wpQuiet_nil ?_
                        (unfold wpScr; simp only [pick, List.map_cons, List.map_nil, List.getD_cons_zero, List.getD_cons_succ])
                        refine ⟨?_, by unfold wpScr; trivial⟩
                        unfold wpAct
                        have z0 : wr.heap.size ≤ wr.drew.heap.size := Nat.le_refl _
                        have zR := CR.out.size
                        have zN := CN.out.size
                        have zA := CA.out.size
                        go_wp2_with (refine store_dfa rfl _ _ rfl gA rfl (bArr B0 (.slice (some ⟨gN, 0, none⟩) k k) (.slice (some ⟨gR, 0, none⟩) k k)) rfl (bArr_list HB0L.out) HVV.out.hlen rfl rfl ((HAX.out.up HBR.out).up HBN2.out) ?_; intro wF hF hgF; have HFX := Lib.hid hF; have HGF := Lib.hid hgF; clear hF hgF)
                        have hbF : Below wr.heap.size wr wF := CN.out.grown HGF.out (by omega) (fun j hj => by cases hj; omega)
                        refine ⟨ex_ext hbF, ?_⟩
                        have HBF := Lib.hid hbF; clear hbF
                        unfold wpAct
                        unfold wpScr
                        intro hz9 hz8; clear hz8 hz9
                        go_wp2
                        go_meet
                        case rel => exact ⟨gA, gN, gR, rfl, by omega, by omega, by omega, by omega, by omega, by omega, HFX.out, (Own.mono (B' := wr.heap.size) HNX.out (by omega)).keep HGF.out (.inr (fun e => by have e2 : gN = gA := Option.some.inj e; omega)), (Own.mono (B' := wr.heap.size) (HR.out.up HBN2.out) (by omega)).keep HGF.out (.inr (fun e => by have e2 : gR = gA := Option.some.inj e; omega)), HBF.out⟩
                      unfold wpScr
                      trivial
                    (unfold wpScr; simp only [pick, List.map_cons, List.map_nil, List.getD_cons_zero, List.getD_cons_succ])
                    refine ⟨?_, ?_⟩
                    · unfold wpAct
                      go_wp2_with (refine wpList_mk rfl _ _ 23 24 rfl (.slice none 0 0) 24 k Try.underlying23 (by kernel_rfl) rfl (by decide) (by omega) rfl rfl ?_; intro gN wN hNx hbN hN1 hN2; have HNX := Lib.hid hNx; have HBN2 := Lib.hid hbN; have hsN := hbN.size; have CN := Lib.hid (below_up CA.out hbN); clear hNx hbN)
                      refine ⟨ex_ext CN.out, ?_⟩
                      unfold wpAct
                      (unfold wpScr; simp only [pick, List.map_cons, List.map_nil, List.getD_cons_zero, List.getD_cons_succ])
                      refine ⟨?_, ?_⟩
                      · unfold wpAct
                        go_wp2_with (refine wpList_mk rfl _ _ 24 3 rfl (.int .i64 0) 8 k Try.underlying24 (by kernel_rfl) rfl (by decide) (by omega) rfl rfl ?_; intro gR wR hR hbR hR1 hR2; have HR := Lib.hid hR; have HBR := Lib.hid hbR; have hsR := hbR.size; have CR := Lib.hid (below_up CN.out hbR); clear hR hbR)
                        refine ⟨ex_ext CR.out, ?_⟩
                        unfold wpAct
                        (unfold wpScr; simp only [pick, List.map_cons, List.map_nil, List.getD_cons_zero, List.getD_cons_succ])
                        repeat (first | (go_big_quiet_want; refine quiet_build _ _ _ rfl B0 HB0S.out rfl rfl rfl ?_; go_simp; go_big_quiet_on) | go_big_quiet_step (fail))
                        refine wpQuiet_nil ?_
                        (unfold wpScr; simp only [pick, List.map_cons, List.map_nil, List.getD_cons_zero, List.getD_cons_succ])
                        refine ⟨?_, by unfold wpScr; trivial⟩
                        unfold wpAct
                        have z0 : wr.heap.size ≤ wr.drew.heap.size := Nat.le_refl _
                        have zR := CR.out.size
                        have zN := CN.out.size
                        have zA := CA.out.size
                        go_wp2_with (refine store_dfa rfl _ _ rfl gA rfl (bArr B0 (.slice (some ⟨gN, 0, none⟩) k k) (.slice (some ⟨gR, 0, none⟩) k k)) rfl (bArr_list HB0L.out) HVV.out.hlen rfl rfl ((HAX.out.up HBN2.out).up HBR.out) ?_; intro wF hF hgF; have HFX := Lib.hid hF; have HGF := Lib.hid hgF; clear hF hgF)
                        have hbF : Below wr.heap.size wr wF := CR.out.grown HGF.out (by omega) (fun j hj => by cases hj; omega)
                        refine ⟨ex_ext hbF, ?_⟩
                        have HBF := Lib.hid hbF; clear hbF
                        unfold wpAct
                        unfold wpScr
                        intro hz9 hz8; clear hz8 hz9
                        go_wp2
                        go_meet
                        case rel => exact ⟨gA, gN, gR, rfl, by omega, by omega, by omega, by omega, by omega, by omega, HFX.out, (Own.mono (B' := wr.heap.size) (HNX.out.up HBR.out) (by omega)).keep HGF.out (.inr (fun e => by have e2 : gN = gA := Option.some.inj e; omega)), (Own.mono (B' := wr.heap.size) HR.out (by omega)).keep HGF.out (.inr (fun e => by have e2 : gR = gA := Option.some.inj e; omega)), HBF.out⟩
                      unfold wpScr
                      trivial
                    unfold wpScr
                    trivial
                  unfold wpScr
                  trivial
                case rest =>
                  obtain ⟨g, gN, gR, rfl, hgN, hgR, hNR, hg1, hg2, hg3, hbx, hoN, hoR, hbw⟩ := hcut
                  obtain ⟨w2, rfl⟩ : ∃ w2 : World, w2 = wr := ⟨_, rfl⟩
                  have hzr : List.replicate k (Value.int .i64 0) = ints (List.replicate k 0) := ints_replicate k 0
                  rw [hzr] at hoR
                  have HBX0 := Lib.hid hbx; clear hbx
                  have HON0 := Lib.hid hoN; clear hoN
                  have HOR0 := Lib.hid hoR; clear hoR
                  have HBW0 := Lib.hid hbw; clear hbw hzr
                  have hs12 : w1.heap.size < w2.heap.size := (HO.out.lt w1.heap.size rfl).2
                  have hrl : d.rules.length = k := by rw [HV.out.2.2.1, HN.out]
                  have HRLN := Lib.hid hrl; clear hrl
                  have hs21 : w.heap.size < w2.heap.size := HI3.out.lt
                  have HX : Hid (∀ W, Below w2.heap.size w2 W → W.cell? ⟨w.heap.size, 256, none⟩ = some (.slice oa1 k cap1) ∧ W.cell? ⟨w.heap.size, 257, none⟩ = some (.slice oq1 k capq) ∧ (∀ s, s < k → W.cell? ⟨w1.heap.size, s, none⟩ = some (.int .i64 ((nm.getD s 0 : Nat) : Int))) ∧
                      (∀ f, f < k → ∃ oi ci bi fi, W.cell? ⟨bn, fn + f, none⟩ = some (.slice oi (d.next.getD f []).length ci) ∧ Hd w oi (d.next.getD f []).length ci bi fi ∧ ∀ j, j < (d.next.getD f []).length → W.cell? ⟨bi, fi + j, none⟩ = some (.int .i64 ((d.next.getD f []).getD j 0))) ∧
                      (∀ i, i < k → W.cell? ⟨bq, fq + i, none⟩ = some (.int .i64 (d.rules.getD i 0)))) := Lib.hid (by
                    intro W hW
                    have h1 := (HI3.out.up hW).1
                    have hwW : ∀ q i, q < w.heap.size → W.cell? ⟨q, i, none⟩ = w.cell? ⟨q, i, none⟩ := fun q i hq => by
                      rw [hW.cell (p := ⟨q, i, none⟩) (show q < w2.heap.size by omega), HB.out.cell (p := ⟨q, i, none⟩) (show q < w1.heap.size by omega), HW1.out.cell (p := ⟨q, i, none⟩) hq]
                    refine ⟨?_, ?_, fun s hs => ?_, fun f hf => ?_, fun i hi => ?_⟩
                    · exact (cell_of_row W w.heap.size 256 A 26 (0, 0) h1).trans HNA.out
                    · rw [← HRLN.out]; exact (cell_of_row W w.heap.size 257 A 26 (0, 0) h1).trans HQA.out
                    · rw [hW.cell (p := ⟨w1.heap.size, s, none⟩) hs12, HO.out.cell (by rw [ints_length, nl_length, HP.out.len]; exact hs), ints_getD _ _ (by rw [nl_length, HP.out.len]; exact hs), nl_getD]
                    · obtain ⟨oi, ci, bi, fi, h1, h2, h3, -⟩ := HRN.out f hf
                      exact ⟨oi, ci, bi, fi, by rw [hwW _ _ (HDN.out.hblk (by omega))]; exact h1, h2, fun j hj => by rw [hwW _ _ (h2.hblk (by omega))]; exact h3 j hj⟩
                    · rw [hwW _ _ (HDQ.out.hblk (by rw [HRLN.out]; omega))]; exact HRR.out i (by rw [HRLN.out]; exact hi))
                  have hdn' : Hd w oa1 k cap1 bn fn := HDN.out
                  have hdq' : Hd w oq1 k capq bq fq := HRLN.out ▸ HDQ.out
                  have hixn := index_any (P := Try.prog) 23 24 Try.underlying23 (by kernel_rfl) hdn'
                  have hixq := index_any (P := Try.prog) 24 3 Try.underlying24 (by kernel_rfl) hdq'
                  have hbn : bn < w.heap.size := hdn'.hblk (by omega)
                  have hbq : bq < w.heap.size := hdq'.hblk (by omega)
                  clear hdn' hdq' hmk hmk2 hcn
                  go_wp2
                  go_loopg [13] (k + 1) (fun gk i wr => ∃ (m : Nat) (vs : List Value) (rs : List Int), m ≤ k ∧ i = .int .i64 m ∧ BoxD wr g (.slice (some ⟨gN, 0, none⟩) k k) (.slice (some ⟨gR, 0, none⟩) k k) d.cls ∧ Own wr w2.heap.size 24 (.slice (some ⟨gN, 0, none⟩) k k) vs ∧ Own wr w2.heap.size 3 (.slice (some ⟨gR, 0, none⟩) k k) (ints rs) ∧ Hid (∀ a, a < m → rs.getD (nm.getD a 0) 0 = d.rules.getD a 0) ∧ Hid (∀ a, a < m → Own wr wc.heap.size 3 (vs.getD (nm.getD a 0) undef) (ints (nl ((rowN d a).map fun x => nm.getD x 0)))) ∧ Below w2.heap.size w2 wr ∧ wc.heap.size ≤ wr.heap.size ∧ gk = k + 1 - m)
                  case atStart => exact ⟨0, _, _, Nat.zero_le _, rfl, HBX0.out, HON0.out, HOR0.out, Lib.hid (fun a ha => absurd ha (Nat.not_lt_zero a)), Lib.hid (fun a ha => absurd ha (Nat.not_lt_zero a)), HBW0.out, Nat.le_refl _, rfl⟩
                  case round =>
                    have hgc := HBX0.out.lt
                    have hgNc : gN < wc.heap.size := (HON0.out.lt gN rfl).2
                    have hgRc : gR < wc.heap.size := (HOR0.out.lt gR rfl).2
                    clear HBX0 HON0 HOR0 HBW0
                    obtain ⟨m, vs, rs, hm, rfl, hbx, hoN, hoR, HRS, HVS, hbel, hszc, rfl⟩ := hrel
                    have HBX := Lib.hid hbx; clear hbx
                    have HON := Lib.hid hoN; clear hoN
                    have HOR := Lib.hid hoR; clear hoR
                    have HBL := Lib.hid hbel; clear hbel
                    by_cases hlt : m < k
                    · have hfn : m < d.next.length := by rw [HN.out]; exact hlt
                      have HIR : Hid (∀ j, j < (d.next.getD m []).length → (d.next.getD m []).getD j 0 = (((rowN d m).getD j 0 : Nat) : Int)) := Lib.hid (fun j hj => by
                        rw [rowN_getD _ _ _ hj]
                        have := valid_mem HV.out hfn _ (getD_mem (d.next.getD m []) j 0 hj)
                        omega)
                      have HLR : Hid ((rowN d m).length = (d.next.getD m []).length) := Lib.hid (rowN_length d _)
                      have HRW : Hid (∀ x ∈ rowN d m, x < k) := Lib.hid (fun x hx => by have := rowN_mem HV.out hfn hx; rw [HN.out] at this; exact this)
                      have hll := valid_len HV.out HCL.out hfn
                      have HXF := Lib.hid (fun W hW => (HX.out W hW).2.2.2.1 m hlt)
                      generalize d.next.getD m [] = row at *
                      go_wp2
                      obtain ⟨wo, rfl⟩ : ∃ wo : World, wo = wr := ⟨_, rfl⟩
                      go_loopg [14, 15] (row.length + 1) (fun gk vl i wr => ∃ c : Nat, c ≤ row.length ∧ i = .int .i64 c ∧ Own wr wo.heap.size 3 vl (ints (nl (((rowN d m).take c).map fun x => nm.getD x 0))) ∧ Below wo.heap.size wo wr ∧ gk = row.length + 1 - c)
                      case atStart => exact ⟨0, Nat.zero_le _, rfl, Own.nil _ _ _, Below.refl _ _, rfl⟩
                      case round =>
                        obtain ⟨c, hc, rfl, how, hbel, rfl⟩ := hrel
                        have hsz2 := hbel.size
                        have hsz1 := HBL.out.size
                        have hb3 : Below w2.heap.size w2 wr := HBL.out.trans (hbel.mono hsz1)
                        obtain ⟨hA1, -, hA3, -, -⟩ := HX.out wr hb3
                        obtain ⟨oi, ci, bi, fi, hck, hdk, hcj⟩ := HXF.out wr hb3
                        have hixk := index_any (P := Try.prog) 24 3 Try.underlying24 (by kernel_rfl) hdk
                        have HBB := Lib.hid hbel; clear hbel
                        have HOO := Lib.hid how; clear how
                        have HA3 := Lib.hid hA3; clear hA3
                        have hs1 : w.heap.size < wr.heap.size := by omega
                        have hs3 : bn < wr.heap.size := by omega
                        have hs4 : w1.heap.size < wr.heap.size := by omega
                        by_cases hltc : c < row.length
                        · have hcc := hcj c hltc
                          have hbi := hdk.hblk (by omega)
                          have hs5 : bi < wr.heap.size := by omega
                          have hlr : c < (rowN d m).length := by rw [HLR.out]; exact hltc
                          have htn := HRW.out _ (getD_mem (rowN d m) c 0 hlr)
                          have HT : Hid ((rowN d m).take (c + 1) = (rowN d m).take c ++ [(rowN d m).getD c 0]) := Lib.hid (take_succ_getD _ _ _ hlr)
                          rw [HIR.out c hltc] at hcc
                          have hcn := HA3.out _ htn
                          have HLN : ∀ y, (ints (nl (((rowN d m).take c).map fun x => nm.getD x 0))).length + (ints (nl [y])).length ≤ 4294967296 := fun y => by simp; omega
                          generalize (rowN d m).getD c 0 = t at *
                          have HLN2 := Lib.hid (HLN (nm.getD t 0)); clear HLN
                          generalize hy : nm.getD t 0 = y at *
                          have HY := Lib.hid hy; clear hy
                          have HDK := Lib.hid hdk
                          clear hcj hdk
                          go_wp2_with (at_builtin; go_loud (refine wpList_app rfl (.tmp 114) (.tmp 126) 24 rfl wo.heap.size 3 (.int .i64 0) 8 Try.underlying24 (by kernel_rfl) rfl (by decide) u14 (ints (nl (((rowN d m).take c).map fun x => nm.getD x 0))) rfl (HOO.out.up (below_alloc _ _)) (.slice (some ⟨wr.heap.size, 0, none⟩) 1 1) (ints (nl [y])) rfl (by simpa [ints, nl] using sl_lit wr #[.int .i64 (y : Int)] 3 (by simp)) (ints_one _) HLN2.out (Nat.le_trans hsz2 (by simp)) ?_; intro v' w5 hown1 hg1 hk1; have HO1 := Lib.hid hown1; have HG1 := Lib.hid hg1; clear hown1 hg1 hk1))
                          go_roundg (row.length + 1 - (c + 1))
                          case measure => omega
                          case rel =>
                            refine ⟨c + 1, by omega, by go_num, ?_, below_grown (B := wo.heap.size) (HBB.out.alloc hsz2 _) (by simp; omega) (HOO.out.up (by repeat (first | exact Below.refl _ _ | assumption | refine b_drewN ?_ _ | refine Below.drew ?_ | refine b_ext' ?_ _ | refine b_alloc' ?_ _))) HG1.out, rfl⟩
                            rw [HT.out, List.map_append, List.map_cons, List.map_nil, HY.out, nl_append, ints_append]
                            exact HO1.out
                        · have hcr : c = row.length := by omega
                          subst hcr
                          have htk : (rowN d m).take row.length = rowN d m := List.take_of_length_le (by rw [HLR.out]; exact Nat.le_refl _)
                          rw [htk] at HOO
                          have HCJ := Lib.hid hcj
                          clear hcj htk hdk
                          obtain ⟨ou9, cu9, gu9, rfl, -⟩ := HOO.out.cases
                          have hul : (ints (nl ((rowN d m).map fun x => nm.getD x 0))).length = row.length := by simp [HLR.out]
                          rw [hul] at HOO ⊢
                          clear hul
                          have hzl := HP.out.lt m hlt
                          have hcm := HA3.out m hlt
                          have HZV : Hid (∀ a, a < m → nm.getD a 0 ≠ nm.getD m 0) := Lib.hid (fun a ha he => by
                            obtain ⟨q, q1, q2, q3⟩ := HP.out.back
                            have h1 := q2 a (by omega)
                            have h2 := q2 m hlt
                            rw [he, h2] at h1; omega)
                          generalize hz9 : nm.getD m 0 = z at *
                          have HZ9 := Lib.hid hz9; clear hz9
                          have hbxr := HBX.out.up HBB.out
                          have honr := HON.out.up HBB.out
                          have horr := HOR.out.up HBB.out
                          have hvl : k = vs.length := Own.len honr
                          have hrl2 : k = rs.length := by have := Own.len horr; rwa [ints_length] at this
                          have hcg := hbxr.cellN
                          have hgl := hbxr.lt
                          have hcn9 := honr.cell (i := z) (by omega)
                          have hfn9 := honr.free z
                          have hg12 : some w1.heap.size ≠ some gN := fun e => by injection e with e; omega
                          have hgg2 : some g ≠ some gN := fun e => by injection e with e; exact hgN e
                          have hHL := Lib.hid hvl; have hHR := Lib.hid hrl2
                          have HBXr := Lib.hid hbxr; have HONr := Lib.hid honr; have HORr := Lib.hid horr
                          clear hvl hrl2 hbxr honr horr
                          generalize vs.getD z undef = old at *
                          go_wp2
                          clear hA1 hck
                          refine wp_region_row (some gN) [0,1,2,3,4,5,6,7] [8] (by kernel_rfl) (by kernel_rfl) ?_
                          simp only [pick, List.map_cons, List.map_nil, List.getD_cons_zero, List.getD_cons_succ]
                          repeat (go_big_quiet_step (fail))
                          refine wpQuiet_nil ?_
                          unfold wpAct
                          go_wp2
                          have hst := HONr.out.store z (.slice ou9 row.length cu9)
                          have hgb : wr.grownBy (wr.setCell ⟨gN, z, none⟩ (.slice ou9 row.length cu9)).drew (some gN) := grown_trans hst.2 (grown_drew _ _)
                          have hob : Own (wr.setCell ⟨gN, z, none⟩ (.slice ou9 row.length cu9)).drew w2.heap.size 24 (.slice (some ⟨gN, 0, none⟩) k k) (vs.set z (.slice ou9 row.length cu9)) := hst.1.up (b_drew1 (Below.refl _ _))
                          clear hst
                          refine ⟨ex_chg hgb, ?_⟩
                          unfold wpAct
                          generalize (wr.setCell ⟨gN, z, none⟩ (.slice ou9 row.length cu9)).drew = wb at *
                          intro hz7; clear hz7
                          have HGB := Lib.hid hgb; clear hgb
                          have HOB := Lib.hid hob; clear hob
                          have hszb := HGB.out.size
                          have hbelb : Below w2.heap.size w2 wb := hb3.grown HGB.out (by omega) (fun j hj => by cases hj; omega)
                          obtain ⟨-, hB2, hB3, -, hB5⟩ := HX.out wb hbelb
                          have hbm := hB3 m hlt
                          have hbr := hB5 m hlt
                          rw [HZ9.out] at hbm
                          have hbxb := HBXr.out.keep HGB.out (fun e => by injection e with e; exact hgN e.symm)
                          have horb := HORr.out.keep HGB.out (.inr (fun e => by have e2 : gR = gN := Option.some.inj e; omega))
                          have hcg2 := hbxb.cellR
                          have hgl2 := hbxb.lt
                          have hrl3 := hHR.out
                          have hcr9 := horb.cell (i := z) (by rw [ints_length]; omega)
                          rw [ints_getD _ _ (by omega)] at hcr9
                          have hfr9 := horb.free z
                          have hgg3 : some g ≠ some gR := fun e => by injection e with e; exact hgR e
                          have hg13 : some w1.heap.size ≠ some gR := fun e => by injection e with e; omega
                          have hg14 : some w.heap.size ≠ some gR := fun e => by injection e with e; omega
                          have hg15 : some bq ≠ some gR := fun e => by injection e with e; omega
                          have hs6 : w1.heap.size < wb.heap.size := by omega
                          have hs7 : w.heap.size < wb.heap.size := by omega
                          have hs8 : bq < wb.heap.size := by omega
                          have HBXb := Lib.hid hbxb; have HORb := Lib.hid horb; have HBELB := Lib.hid hbelb
                          have HRV : Hid (d.rules.getD m 0 = d.rules.getD m 0) := Lib.hid rfl
                          clear hrl3 hB3 hB5 hbxb horb hbelb hcm hcg hcn9 hfn9 hg12 hgg2
                          generalize hy9 : d.rules.getD m 0 = y9 at hbr HRV
                          generalize rs.getD z 0 = oldr at *
                          go_wp2
                          refine wp_region_row (some gR) [0,1,2,3,4,5,6,7,8,9,10,11] [12] (by kernel_rfl) (by kernel_rfl) ?_
                          simp only [pick, List.map_cons, List.map_nil, List.getD_cons_zero, List.getD_cons_succ]
                          repeat (go_big_quiet_step (fail))
                          refine wpQuiet_nil ?_
                          unfold wpAct
                          go_wp2
                          have hst := HORb.out.store z (.int .i64 y9)
                          have hgc9 : wb.grownBy (wb.setCell ⟨gR, z, none⟩ (.int .i64 y9)).drew (some gR) := grown_trans hst.2 (grown_drew _ _)
                          have hoc : Own (wb.setCell ⟨gR, z, none⟩ (.int .i64 y9)).drew w2.heap.size 3 (.slice (some ⟨gR, 0, none⟩) k k) (ints (rs.set z y9)) := by
                            rw [← ints_set]; exact hst.1.up (b_drew1 (Below.refl _ _))
                          clear hst
                          refine ⟨ex_chg hgc9, ?_⟩
                          unfold wpAct
                          generalize (wb.setCell ⟨gR, z, none⟩ (.int .i64 y9)).drew = wd at *
                          intro hz7; clear hz7
                          go_wp2
                          go_roundg (k + 1 - (m + 1))
                          case measure => omega
                          case rel =>
                            have hszd := hgc9.size
                            refine ⟨m + 1, vs.set z (.slice ou9 row.length cu9), rs.set z y9, by omega, by go_num, HBXb.out.keep hgc9 (fun e => by injection e with e; exact hgR e.symm), HOB.out.keep hgc9 (.inr (fun e => by have e2 : gN = gR := Option.some.inj e; omega)), hoc, Lib.hid (fun a ha => ?_), Lib.hid (fun a ha => ?_), HBELB.out.grown hgc9 (by omega) (fun j hj => by cases hj; omega), by omega, rfl⟩
                            · rcases Nat.lt_succ_iff_lt_or_eq.1 ha with h | rfl
                              · rw [getD_set, if_neg (fun q => HZV.out a h q.1.symm)]; exact HRS.out a h
                              · rw [HZ9.out, getD_set, if_pos ⟨rfl, by have := hHR.out; omega⟩, hy9]
                            · have hnb : ∀ {v : Value} {xs : List Value}, Own wr wc.heap.size 3 v xs → Own wd wc.heap.size 3 v xs := fun {v} {xs} ho =>
                                (ho.keep HGB.out (ho.off (by omega))).keep hgc9 ((ho.keep HGB.out (ho.off (by omega))).off (by omega))
                              rcases Nat.lt_succ_iff_lt_or_eq.1 ha with h | rfl
                              · rw [getD_set_ne' (fun q => HZV.out a h q.symm)]
                                exact hnb ((HVS.out a h).up HBB.out)
                              · rw [HZ9.out, getD_set_self' (by have := hHL.out; omega)]
                                exact hnb (HOO.out.mono hszc)
                    · have hmk : m = k := by omega
                      subst hmk
                      obtain ⟨q, q1, q2, q3⟩ := HP.out.back
                      have hsz9 := HBL.out.size
                      have hrows : RowsAt wr (.slice (some ⟨gN, 0, none⟩) m m) ((List.range m).map fun j => nl ((rowN d (q j)).map fun x => nm.getD x 0)) := by
                        have hvl : m = vs.length := Own.len HON.out
                        have hsl := HON.out.sl
                        refine ⟨vs, hsl, by simp [← hvl], fun i hi => ?_⟩
                        have hi' : i < m := by simpa using hi
                        have h1 := (HVS.out (q i) (q1 i hi')).sl
                        rw [q3 i hi'] at h1
                        have e1 : ((List.range m).map fun j => nl ((rowN d (q j)).map fun x => nm.getD x 0)).getD i [] = nl ((rowN d (q i)).map fun x => nm.getD x 0) := by simp [List.getD, hi']
                        rw [e1]
                        exact h1
                      have hrl4 : m = rs.length := by have := Own.len HOR.out; rwa [ints_length] at this
                      obtain ⟨q', hT⟩ := turned_of (rows := fun j => nl ((rowN d (q j)).map fun x => nm.getD x 0)) (rs := rs) HV.out (by rw [HN.out]; exact HP.out) (by rw [HN.out, hrl4]) (fun i hi => by rw [HN.out] at hi; exact HRS.out i hi) (fun i hi => by rw [HN.out] at hi; rw [q2 i hi])
                      rw [HN.out] at hT
                      obtain ⟨C9, hC9, hC9s, hC9l⟩ := HBX.out.open
                      have hdv9 := dfaV_of hC9l HBX.out.len hrows (HOR.out.sl)
                      generalize (⟨d.cls, (List.range m).map fun j => nl ((rowN d (q j)).map fun x => nm.getD x 0), rs⟩ : Dfa) = e9 at *
                      have HE1 := Lib.hid (makeE_yes HV.out)
                      have HI1 := Lib.hid (makeI_yes HV.out)
                      have HE2 := Lib.hid (makeE_yes (hT.valid HV.out))
                      have HI2 := Lib.hid ((makeI_yes (hT.valid HV.out)).trans (hT.make HV.out))
                      have HS9 := Lib.hid hC9s
                      have HIA : Hid (DfaIn wr w.heap.size A d) := Lib.hid (HI3.out.up HBL.out)
                      have HIO : Hid (DfaIn wr g C9 e9) := Lib.hid ⟨hC9, hdv9⟩
                      have HWW : Hid (Below w.heap.size w wr) := Lib.hid ((HW1.out.trans (HB.out.mono HW1.out.size)).trans (HBL.out.mono (by omega)))
                      clear hT hdv9 hC9 hC9s hC9l hrows hrl4 q1 q2 q3 HRS HVS HON HOR HBX HP HX hixn hixq
                      go_wp2_with (refine load_dfa rfl _ rfl w.heap.size rfl A HS.out HIA.out.1 ?_)
                      refine (makeP (.agg A) d wr ⟨A, rfl, HIA.out.2⟩).mono ?_
                      rintro e w4 ⟨v4, rfl, ⟨C4, rfl, hv4⟩, hb4⟩
                      rw [HE1.out]
                      rw [HI1.out] at hv4
                      have HV4 := Lib.hid hv4
                      have HB4 := Lib.hid hb4
                      have HS4 := Lib.hid hv4.hsize
                      have HIO4 := Lib.hid (HIO.out.up hb4)
                      clear hv4 hb4
                      go_wp2_with (first | (refine store_new rfl _ _ rfl w4.heap.size rfl C4 rfl HV4.out (HBN.out w4) ?_; intro w5 hg5 hgr5; have HN5 := Lib.hid (DfaIn.new HV4.out hg5 hgr5); have HIO5 := Lib.hid (HIO4.out.up HN5.out.2); clear hg5 hgr5) | (refine load_dfa rfl _ rfl g rfl C9 HS9.out HIO5.out.1 ?_))
                      refine (makeP (.agg C9) e9 w5 ⟨C9, rfl, HIO5.out.2⟩).mono ?_
                      rintro e w6 ⟨v6, rfl, ⟨C6, rfl, hv6⟩, hb6⟩
                      rw [HE2.out]
                      rw [HI2.out] at hv6
                      have HV6 := Lib.hid hv6
                      have HB6 := Lib.hid hb6
                      have HS6 := Lib.hid hv6.hsize
                      clear hv6 hb6
                      go_wp2_with (refine store_new rfl _ _ rfl w6.heap.size rfl C6 rfl HV6.out (HBN.out w6) ?_; intro w7 hg7 hgr7; have HN7 := Lib.hid (DfaIn.new HV6.out hg7 hgr7); clear hg7 hgr7)
                      have h57 : Below w5.heap.size w5 w7 := HB6.out.trans (HN7.out.2.mono HB6.out.size)
                      have HM7 := Lib.hid (HN5.out.1.up h57)
                      have HW7 : Hid (Below w.heap.size w w7) := Lib.hid (HWW.out.trans ((HB4.out.trans ((HN5.out.2.trans (h57.mono HN5.out.2.size)).mono HB4.out.size)).mono HWW.out.size))
                      clear h57
                      refine op_load_dfa _ rfl w4.heap.size rfl C4 HS4.out HM7.out.1 ?_
                      go_wp2_with (fail)
                      refine op_load_dfa _ rfl w6.heap.size rfl C6 HS6.out HN7.out.1.1 ?_
                      go_wp2_with (fail)
                      refine (same_same (.agg C4) (.agg C6) (makeD d) w7 ⟨C4, rfl, HM7.out.2⟩ ⟨C6, rfl, HN7.out.1.2⟩).mono ?_
                      rintro e w' ⟨rfl, x8, rfl⟩
                      go_wp2_with (fail)
                      refine (known _).mono ?_
                      rintro e w' ⟨rfl, x9, rfl⟩
                      go_wp2
                      go_ret
                      exact ⟨rfl, ex_ext (b_ext' (b_ext' HW7.out x8) x9)⟩
    · have HRB := Lib.hid (rightB_false hv)
      clear hv
      go_enter Try.func6, Try.ntmps6
      go_wp2_with (first | (refine load_dfa rfl _ rfl w.heap.size rfl A HS.out HIN.out.1 ?_) | (go_at_call 7; refine (HSM.out _ HIN.out).mono ?_; rintro e w' ⟨rfl, x, rfl⟩; rw [hsm]; have HIN1 := Lib.hid (HIN.out.up (ext_below _ x))))
      refine op_load_dfa _ rfl w.heap.size rfl A HS.out HIN1.out.1 ?_
      go_wp2_with (fail)
      refine (HRT.out _ HIN1.out).mono ?_
      rintro e w' ⟨rfl, x1, rfl⟩
      rw [HRB.out]
      go_wp2_with (go_at_call 8; refine (known _).mono ?_; rintro e w' ⟨rfl, x2, rfl⟩)
      go_ret
      exact ⟨rfl, (ex_ext (by repeat (first | exact Below.refl _ _ | assumption | refine b_drewN ?_ _ | refine Below.drew ?_ | refine b_ext' ?_ _ | refine b_alloc' ?_ _)))⟩
end Go.Cm
