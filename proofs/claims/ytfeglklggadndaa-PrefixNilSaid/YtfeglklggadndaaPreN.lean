/- The walk of the making of a table. Conditions: the argument reads as a list. -/
import Derived.Test.YtfeglklggadndaaPreG
namespace Go.Cm
open Go.RowKit Go.Proofs

theorem Own.nil3 {w : World} {B E g n cap : Nat} {xs : List Value} (h : Own w B E (.slice (some ⟨g, 0, none⟩) n cap) xs) : Own w B E (.slice (some ⟨g, 0, none⟩) n cap) ([] ++ xs ++ []) := by
  rw [List.nil_append, List.append_nil]; exact h
/-- 'branch', whether the further table is there or not -/
theorem branchAny {w : World} {B g sy i : Nat} {E : Nat → Ent} {fs : List Sub} {vf : Value} (h : TabM w B g sy E fs vf) (v u : Value) (L : List Nat) (hv : IntsAt w v (nls L)) (hu : IntsAt w u (nls (codesN L))) (hlen : L.length ≤ 320) (h15 : ∀ x ∈ L, x ≤ 15) (hk : kraftN L ≤ 32768)
    (hok : TabOk L i E fs) (hi : i < L.length) (h9 : 9 < L.getD i 0) (head : Nat) (hhd : head = codeN L i / 2 ^ (L.getD i 0 - 9)) (hfs : fs.length ≤ i) :
    Calls Try.prog 29 #[.pointer (some ⟨g, 0, none⟩), v, u, .int .i64 head] w fun e w' => ∃ (k : Nat) (f : Sub) (E' : Nat → Ent) (fs' : List Sub) (vf' : Value), e = .returned (subV f) ∧ f.m ≤ 6 ∧ fs'[k]? = some f ∧ fs'.length ≤ i + 1 ∧
      TabM w' B g sy E' fs' vf' ∧ Below B w w' ∧ TabOk L (i + 1) E' (fs'.set k ⟨f.g, f.m, fillN f.F (codeN L i % 2 ^ (L.getD i 0 - 9)) (L.getD i 0 - 9) ⟨i, L.getD i 0, 0⟩⟩) := by
  have hc := code_lt h15 hk i hi
  have hh : head < 512 := by
    rw [hhd, Nat.div_lt_iff_lt_mul (Nat.pow_pos (by decide)), show (512 : Nat) = 2 ^ 9 by decide, ← Nat.pow_add, show 9 + (L.getD i 0 - 9) = L.getD i 0 by omega]
    exact hc
  have hx : turnN head 9 < 512 := by have := turnN_lt head 9; simpa using this
  have hH : headN L i (turnN head 9) := ⟨h9, by rw [turnN_turnN head 9 (by simpa using hh)]; exact hhd.symm⟩
  cases ht : (E (turnN head 9)).t with
  | zero =>
    refine (branchNew h v u L hv hu hlen h15 hk head hh ht (by omega)).mono ?_
    rintro e w' ⟨gn, m, vf', rfl, hm6, hml, hM, hB⟩
    refine ⟨fs.length, ⟨gn, m, fun _ => Ent.zero⟩, _, _, vf', rfl, hm6, by rw [List.getElem?_append_right (Nat.le_refl _), Nat.sub_self]; rfl, by simp; omega, hM, hB, ?_⟩
    have hf := hok.fresh hi h15 hk h9 hx hH ht hm6 hml (g := gn) (b := m)
    rw [List.set_append_right _ _ (Nat.le_refl _), Nat.sub_self]
    exact hf
  | succ k =>
    obtain ⟨f, hf, hm, -⟩ := hok.far _ k hx ht
    have hB : B ≤ w.heap.size := by have := h.blk; omega
    refine (branchOld h v u head hh ht hf (by omega)).mono ?_
    rintro e w' ⟨rfl, y, rfl⟩
    exact ⟨k, f, E, fs, vf, rfl, hm, hf, by omega, h.up (ext_below _ _), (ext_below w y).mono hB, hok.long hi h15 hk h9 hx hH ht hf⟩

theorem wpList_build2 {P : Program} {ops : Array Oper} {rest : List Oper} {o : Oper} {a : Act} {w : World} {Q : Exit → Act → World → Prop} (hgd : o.guard = none) (t : TypeId) (i j : Nat) (x y : Operand) (ho : o.op = .build t #[(i, x), (j, y)])
    (vx vy : Value) (hx : a.eval x = vx) (hy : a.eval y = vy) (C : Array Value) (hb : ∀ W, (Instr.build t #[(i, vx), (j, vy)]).run P W = .ok (.agg C) W)
    (h : wpList P ops Q rest (a.put o.dst (.agg C)) w) : wpList P ops Q (o :: rest) a w := by
  refine wpList_plain hgd fun K hK => ?_
  unfold Oper.wp execOp
  simp only [ho, List.map_toArray, List.map_cons, List.map_nil, hx, hy, Sem.run_bind, hb, Result.andThen_ok]
  exact hK _ _ h

def tabC (n : Nat) : Array Value := ([Value.bool true, .int .i64 (n : Nat)] ++ List.replicate 1536 (Value.int .i64 0) ++ [Value.slice none 0 0]).toArray
theorem build_tab (n : Nat) (W : World) : (Instr.build 42 #[(0, .bool true), (1, .int .i64 (n : Nat))]).run Try.prog W = .ok (.agg (tabC n)) W := by
  kernel_rfl
theorem tabC_list (n : Nat) : (tabC n).toList = [Value.bool true, .int .i64 (n : Nat)] ++ flatE (fun _ => Ent.zero) 512 ++ [Value.slice none 0 0] := by
  unfold tabC
  rw [flatE_zero, List.toList_toArray]
theorem tab_new (w : World) (n : Nat) (A : Array Value) (hA : A = tabC n) : TabM (w.alloc (.cells A 42)) w.heap.size w.heap.size n (fun _ => Ent.zero) [] (.slice none 0 0) := by
  subst hA
  have hs : (tabC n).size = 1539 := by rw [← Array.length_toList, tabC_list, box_len]
  have h := own_lit w w.heap.size (tabC n) 42 (by rw [hs]; decide) (Nat.le_refl _)
  rw [tabC_list, hs] at h
  exact ⟨h, Own.nil _ _ _, by simp [Value.ownBlock], fun k f hf => by simp at hf, fun k k' f f' hf => by simp at hf⟩
theorem TabM.mono {w : World} {B B' g sy : Nat} {E : Nat → Ent} {fs : List Sub} {vf : Value} (h : TabM w B g sy E fs vf) (hB : B' ≤ B) : TabM w B' g sy E fs vf :=
  ⟨h.box.mono hB, h.outer.mono hB, h.ne, fun k f hf => ⟨(h.rows k f hf).1.mono hB, (h.rows k f hf).2⟩, h.apart⟩
/-- a table of the lengths L in block g -/
def TabAt (w : World) (B g : Nat) (L : List Nat) : Prop := ∃ E fs vf, TabM w B g L.length E fs vf ∧ TabOk L L.length E fs
/-- what 'New' answers -/
def RetTab (l : List Int) (w : World) (e : Ending) (w' : World) : Prop :=
  Below w.heap.size w w' ∧ ((errI l = 0 ∧ ∃ g, e = .returned (.tuple #[.pointer (some ⟨g, 0, none⟩), .int .i64 0]) ∧ TabAt w' w.heap.size g (l.map Int.toNat)) ∨ (errI l ≠ 0 ∧ e = .returned (.tuple #[.pointer none, .int .i64 (errI l : Nat)])))

theorem IntsAt.upB {w w' : World} {v : Value} {l : List Int} {n : Nat} (h : IntsAt w v l) (hn : w.heap.size ≤ n) (hb : Below n w w') : IntsAt w' v l := h.up (hb.mono hn)
theorem i64_mask (c r : Nat) (hr : r ≤ 6) (hc : c ≤ 32768) : bits .and .i64 (c : Int) (((2 ^ r : Nat) : Int) - 1) = ((c % 2 ^ r : Nat) : Int) := by
  have hp : 2 ^ r ≤ 2 ^ 6 := Nat.pow_le_pow_right (by decide) hr
  have hp1 : 1 ≤ 2 ^ r := Nat.pow_pos (by decide)
  have e : ((2 ^ r : Nat) : Int) - 1 = ((2 ^ r - 1 : Nat) : Int) := by omega
  rw [e, (bits_nat .i64 63 (by decide) (fun n h0 h1 => by rw [IntKind.wrap_i64]; omega) c (2 ^ r - 1) (by omega) (by omega)).1, Nat.and_two_pow_sub_one_eq_mod]
set_option maxRecDepth 100000 in
set_option maxHeartbeats 4000000 in
theorem newP (v : Value) (l : List Int) (w : World) (h : IntsAt w v l) : Calls Try.prog 15 #[v] w (RetTab l w) := by
  have HCO : Hid (Calls Try.prog 24 #[v] w (RetCodes l w)) := Lib.hid (codesP v l w h)
  unfold RetTab
  unfold RetCodes at HCO
  by_cases he : errI l = 0
  · rw [he] at HCO ⊢
    obtain ⟨L, rfl, hlen, h15, hk⟩ := errI_zero he
    rw [nls_toNat, if_pos rfl] at HCO
    rw [nls_toNat]
    have H15 : Hid (∀ i, i < L.length → L.getD i 0 ≤ 15) := Lib.hid (fun i hi => h15 _ (getD_mem L i 0 hi))
    have HCL : Hid (∀ i, i < L.length → codeN L i < 2 ^ L.getD i 0) := Lib.hid (code_lt h15 hk)
    have HV := Lib.hid h
    obtain ⟨oa, cap, b, off, rfl, hd, hc⟩ := h.open
    rw [nls_length] at hd hc
    rw [nls_length] at HCO HV ⊢
    have hix := index_any (P := Try.prog) 22 3 Try.underlying22 (by kernel_rfl) hd
    have hm := hd.len
    have hbk := hd.hblk
    have HC : Hid (∀ i, i < L.length → w.cell? ⟨b, off + i, none⟩ = some (.int .i64 (L.getD i 0 : Nat))) := Lib.hid (fun i hi => by rw [hc i hi, nls_getD])
    have H15' := Lib.hid h15
    have HK := Lib.hid hk
    clear h hd hc he h15 hk
    have hbd := build_tab L.length
    obtain ⟨A, hA⟩ : ∃ A, A = tabC L.length := ⟨_, rfl⟩
    rw [← hA] at hbd
    have HA := Lib.hid hA
    clear hA
    go_enter Try.func15, Try.ntmps15
    go_wp2_with (first | (go_at_call 24; refine HCO.out.mono ?_; rintro e w1 ⟨vc, rfl, hq3, hq4⟩; have HQ3 := Lib.hid hq3; have HQ4 := Lib.hid hq4; clear hq3 hq4) | (refine wpList_build2 rfl 42 0 1 _ _ rfl (.bool true) (.int .i64 (L.length : Nat)) rfl rfl A hbd ?_))
    have HT0 := Lib.hid (tab_new w1 L.length A HA.out)
    have hsz1 := HQ4.out.size
    have HBL1 := Lib.hid (below_alloc w1 (.cells A 42))
    generalize w1.alloc (.cells A 42) = w2 at *
    clear hbd HA HCO
    have hgg := hsz1
    have HIV1 : Hid (IntsAt w1 (.slice oa L.length cap) (nls L)) := Lib.hid (HV.out.up HQ4.out)
    have HIC1 : Hid (IntsAt w1 vc (nls (codesN L))) := Lib.hid HQ3.out.sl
    obtain ⟨oc, cc, bc, fc, rfl, hdc, hcc⟩ := (show IntsAt w1 vc (nls (codesN L)) from HQ3.out.sl).open
    rw [show (nls (codesN L)).length = L.length by rw [nls_length, codesN_length]] at hdc hcc HIC1 ⊢
    have hixc := index_any (P := Try.prog) 22 3 Try.underlying22 (by kernel_rfl) hdc
    have HCC : Hid (∀ i, i < L.length → w1.cell? ⟨bc, fc + i, none⟩ = some (.int .i64 (codeN L i : Nat))) := Lib.hid (fun i hi => by rw [hcc i hi, nls_getD, codesN_getD L i hi])
    have HC1 : Hid (∀ i, i < L.length → w1.cell? ⟨b, off + i, none⟩ = some (.int .i64 (L.getD i 0 : Nat))) := Lib.hid (fun i hi => (HQ4.out.cell (p := ⟨b, off + i, none⟩) (hbk (by omega))).trans (HC.out i hi))
    have hbkc := hdc.hblk
    have hbk1 : 0 < L.length → b < w1.heap.size := fun h => by have := hbk h; omega
    clear hdc hcc HQ3 HC hbk HV
    go_loopg [25] L.length (fun gk iv wr => ∃ (i : Nat) (E : Nat → Ent) (fs : List Sub) (vf : Value), i ≤ L.length ∧ iv = .int .i64 i ∧ TabM wr w1.heap.size w1.heap.size L.length E fs vf ∧ Hid (TabOk L i E fs) ∧ fs.length ≤ i ∧ Below w1.heap.size w1 wr ∧ gk = L.length - i)
    case atStart => exact ⟨0, _, _, _, Nat.zero_le _, rfl, HT0.out, Lib.hid (TabOk.start L), Nat.le_refl _, HBL1.out, rfl⟩
    case round =>
      clear HT0 HBL1
      obtain ⟨i, E, fs, vf, hi, rfl, hM, HOK, hfs, hbel, rfl⟩ := hrel
      have HM := Lib.hid hM
      have HBL := Lib.hid hbel
      have hszr := hbel.size
      clear hM hbel
      by_cases hlt : i < L.length
      · have hb1 := hbk1 (by omega)
        have hbc1 := hbkc (by omega)
        have hcell := (HBL.out.cell (p := ⟨b, off + i, none⟩) hb1).trans (HC1.out i hlt)
        have hcellc := (HBL.out.cell (p := ⟨bc, fc + i, none⟩) hbc1).trans (HCC.out i hlt)
        have hbr : b < wr.heap.size := by omega
        have hbcr : bc < wr.heap.size := by omega
        have hx15 := H15.out i hlt
        have hcl := HCL.out i hlt
        have HNO := Lib.hid (HOK.out.none)
        have HSH := Lib.hid (fun h0 h9 => HOK.out.short hlt H15'.out HK.out h0 h9)
        have hc15 : codeN L i ≤ 32768 := by
          have : 2 ^ L.getD i 0 ≤ 2 ^ 15 := Nat.pow_le_pow_right (by decide) hx15
          omega
        have HGX : Hid (L.getD i 0 = L.getD i 0) := Lib.hid rfl
        generalize hx : L.getD i 0 = x at *
        generalize hcd : codeN L i = c at *
        have HX := Lib.hid hx
        have HCD := Lib.hid hcd
        clear hx hcd
        by_cases hx0 : x = 0
        · have e0 : ((x : Int) == 0) = true := by rw [hx0]; rfl
          have HN2 := Lib.hid (HNO.out hx0)
          clear hx0
          go_wp2
          go_roundg (L.length - (i + 1))
          case measure => omega
          case rel => exact ⟨i + 1, E, fs, vf, by omega, by go_num, HM.out, HN2, by omega, HBL.out, rfl⟩
        · have e0 : ((x : Int) == 0) = false := by simpa using hx0
          have hg0 := HM.out.blk.2
          by_cases hx9 : x ≤ 9
          · have hx9i : (x : Int) ≤ 9 := by omega
            have HS2 := Lib.hid (HSH.out hx0 hx9)
            clear hx0
            go_wp2
            have HFL : Hid (Calls Try.prog 28 #[.slice (some ⟨w1.heap.size, 2, none⟩) 512 512, .int .i64 c, .int .i64 x, .agg (entV ⟨i, x, 0⟩)] wr.drew fun en w' => en = .returned (.tuple #[]) ∧ Own w' w1.heap.size 42 (.slice (some ⟨w1.heap.size, 0, none⟩) 1539 1539) ([.bool true, .int .i64 (L.length : Nat)] ++ flatE (fillN E c x ⟨i, x, 0⟩) 512 ++ [vf]) ∧ wr.drew.grownBy w' (some w1.heap.size)) := Lib.hid (fillP (HM.out.box.up (b_drew1 (Below.refl wr.heap.size wr))) rfl c x (by omega) (by decide) ⟨i, x, 0⟩)
            refine wp_region_tailg [0,1,2,3,4,5,6,7,8,9,10,11] [] [12] (by kernel_rfl) (by kernel_rfl) ?_
            simp only [pick, List.map_cons, List.map_nil, List.getD_cons_zero, List.getD_cons_succ]
            repeat (go_big_quiet_step (fail))
            refine wpQuiet_nil ?_
            unfold wpAct
            unfold wpAct
            go_wp2_with (go_at_call 28; refine HFL.out.mono ?_; rintro en w5 ⟨rfl, hq5, hq6⟩; have HQ5 := Lib.hid hq5; have HQ6 := Lib.hid hq6; clear hq5 hq6)
            refine ⟨trivial, ?_⟩
            unfold wpAct
            have HM5 : Hid (TabM w5 w1.heap.size w1.heap.size L.length (fillN E c x ⟨i, x, 0⟩) fs vf) := Lib.hid ((HM.out.up (b_drew1 (Below.refl wr.heap.size wr))).wrote HQ6.out HQ5.out)
            have HBL5 : Hid (Below w1.heap.size w1 w5) := Lib.hid ((b_drew1 HBL.out).grown HQ6.out (by show w1.heap.size ≤ wr.heap.size; omega) (fun k hk => by cases hk; exact Nat.le_refl _))
            clear HM HBL HQ5 HQ6 HFL
            go_wp2
            go_roundg (L.length - (i + 1))
            case measure => omega
            case rel => exact ⟨i + 1, _, fs, vf, by omega, by go_num, HM5.out, HS2, by omega, HBL5.out, rfl⟩
          · have hx9i : ¬ (x : Int) ≤ 9 := by omega
            have e9 : (x : Int) - 9 = ((x - 9 : Nat) : Int) := by omega
            have hd512 : c / 2 ^ (x - 9) < 512 := by
              rw [Nat.div_lt_iff_lt_mul (Nat.pow_pos (by decide)), show (512 : Nat) = 2 ^ 9 by decide, ← Nat.pow_add, show 9 + (x - 9) = x by omega]
              exact hcl
            have eh : (c : Int) / 2 ^ (x - 9) = ((c / 2 ^ (x - 9) : Nat) : Int) := by norm_cast
            have HBR : Hid (Calls Try.prog 29 #[.pointer (some ⟨w1.heap.size, 0, none⟩), .slice oa L.length cap, .slice oc L.length cc, .int .i64 (c / 2 ^ (x - 9) : Nat)] wr fun e w' => ∃ (k : Nat) (f : Sub) (E' : Nat → Ent) (fs' : List Sub) (vf' : Value), e = .returned (subV f) ∧ f.m ≤ 6 ∧ fs'[k]? = some f ∧ fs'.length ≤ i + 1 ∧
                TabM w' w1.heap.size w1.heap.size L.length E' fs' vf' ∧ Below w1.heap.size wr w' ∧ TabOk L (i + 1) E' (fs'.set k ⟨f.g, f.m, fillN f.F (c % 2 ^ (x - 9)) (x - 9) ⟨i, x, 0⟩⟩)) := Lib.hid (by
              have h1 := branchAny HM.out (.slice oa L.length cap) (.slice oc L.length cc) L (HIV1.out.upB (Nat.le_refl _) HBL.out) (HIC1.out.upB (Nat.le_refl _) HBL.out) hlen H15'.out HK.out HOK.out hlt (by rw [HX.out]; omega) (c / 2 ^ (x - 9)) (by rw [HX.out, HCD.out]) hfs
              rw [HX.out, HCD.out] at h1
              exact h1)
            have hr6 : x - 9 ≤ 6 := by omega
            have hr1 : 1 ≤ x - 9 := by omega
            have HMSK : Hid (bits .and .i64 (c : Int) (((2 ^ (x - 9) : Nat) : Int) - 1) = ((c % 2 ^ (x - 9) : Nat) : Int)) := Lib.hid (i64_mask c (x - 9) hr6 hc15)
            generalize hr : x - 9 = r at *
            generalize c / 2 ^ r = head at *
            obtain ⟨q, hq⟩ : ∃ q, q = 2 ^ r := ⟨_, rfl⟩
            have hq64 : q ≤ 64 := by rw [hq]; exact Nat.le_trans (Nat.pow_le_pow_right (by decide) hr6) (by decide)
            have hqi : (2 : Int) ^ r = (q : Int) := by rw [hq]; norm_cast
            have hq1 : 1 ≤ q := by rw [hq]; exact Nat.pow_pos (by decide)
            rw [← hq] at HMSK
            rw [hqi] at eh
            have HQ := Lib.hid hq
            clear hq hcl hx0
            go_wp2_with (go_at_call 29; (with_reducible refine HBR.out.mono ?_; rintro en w5 ⟨k, f, E', fs', vf', rfl, hm6, hfk, hfl, hM5, hB5, hok5⟩; have HM5 := Lib.hid hM5; have HB5 := Lib.hid hB5; have HOK5 := Lib.hid hok5; have HFK := Lib.hid hfk; have HM6 := Lib.hid hm6; have hcellc5 := (hB5.cell (p := ⟨bc, fc + i, none⟩) hbc1).trans hcellc; have hbcr5 : bc < w5.heap.size := Nat.lt_of_lt_of_le hbcr (hB5.size); clear hM5 hB5 hok5 hfk hm6))
            have h2m : 2 ^ f.m ≤ 65536 := Nat.le_trans (Nat.pow_le_pow_right (by decide) HM6.out) (by decide)
            have HFL : Hid (Calls Try.prog 28 #[subV f, .int .i64 (c % 2 ^ r : Nat), .int .i64 r, .agg #[.int .i64 i, .int .i64 x, .int .i64 0]] w5 fun en w' => en = .returned (.tuple #[]) ∧
                Own w' w1.heap.size 38 (.slice (some ⟨f.g, 0, none⟩) (3 * 2 ^ f.m) (3 * 2 ^ f.m)) ([] ++ flatE (fillN f.F (c % 2 ^ r) r ⟨i, x, 0⟩) (2 ^ f.m) ++ []) ∧ w5.grownBy w' (some f.g)) := Lib.hid (fillP (o := 0) ((HM5.out.rows k f HFK.out).1.nil3) rfl (c % 2 ^ r) r (by omega) h2m ⟨i, x, 0⟩)
            rw [HMSK.out]
            rw [← HQ.out] at HFL
            with_reducible refine HFL.out.mono ?_
            rintro en w6 ⟨rfl, hq5, hq6⟩
            rw [List.nil_append, List.append_nil, HQ.out] at hq5
            have HM7 := Lib.hid (HM5.out.wroteSub HFK.out hq6 hq5)
            have HBL7 : Hid (Below w1.heap.size w1 w6) := Lib.hid ((HBL.out.trans HB5.out).grown hq6 (HBL.out.trans HB5.out).size (fun k hk => by cases hk; exact (HM5.out.rows _ f HFK.out).1.blk.1))
            have hfl7 : (fs'.set k ⟨f.g, f.m, fillN f.F (c % 2 ^ r) r ⟨i, x, 0⟩⟩).length ≤ i + 1 := by rw [List.length_set]; exact hfl
            clear hq5 hq6 HFL HM5 HB5 HM HBL h2m HBR HMSK hcellc5 hbcr5 hcell hcellc
            go_wp2
            go_roundg (L.length - (i + 1))
            case measure => omega
            case rel => exact ⟨i + 1, E', _, vf', by omega, by go_num, HM7.out, HOK5, hfl7, HBL7.out, rfl⟩
      · obtain rfl : i = L.length := by omega
        go_wp2
        go_ret2
        exact ⟨HQ4.out.trans (HBL.out.mono hsz1), .inl ⟨by trivial, _, rfl, E, fs, vf, HM.out.mono hsz1, HOK.out⟩⟩
  · have hne : ¬ (errI l : Int) = 0 := by omega
    rw [if_neg he] at HCO
    have HE := Lib.hid he
    clear he h
    generalize errI l = q at *
    go_enter Try.func15, Try.ntmps15
    go_wp2_with (go_at_call 24; refine HCO.out.mono ?_; rintro e w1 ⟨vc, rfl, hq3, hq4⟩; have HQ4 := Lib.hid hq4; clear hq3 hq4)
    go_ret2
    exact ⟨HQ4.out, .inr ⟨HE.out, rfl⟩⟩
end Go.Cm
