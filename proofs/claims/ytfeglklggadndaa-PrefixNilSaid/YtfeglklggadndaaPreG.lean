/- The table of codes in memory; the walk of its further tables. Conditions: none. -/
import Derived.Test.YtfeglklggadndaaPreB
import Derived.Test.YtfeglklggadndaaRegT
namespace Go.Cm
open Go.RowKit Go.Proofs

def subV (f : Sub) : Value := .slice (some ⟨f.g, 0, none⟩) (2 ^ f.m) (2 ^ f.m)
/-- a table in block g, all of it from block B on -/
structure TabM (w : World) (B g sy : Nat) (E : Nat → Ent) (fs : List Sub) (vf : Value) : Prop where
  box : Own w B 42 (.slice (some ⟨g, 0, none⟩) 1539 1539) ([.bool true, .int .i64 (sy : Nat)] ++ flatE E 512 ++ [vf])
  outer : Own w B 70 vf (fs.map subV)
  ne : vf.ownBlock ≠ some g
  rows : ∀ (k : Nat) (f : Sub), fs[k]? = some f → Own w B 38 (.slice (some ⟨f.g, 0, none⟩) (3 * 2 ^ f.m) (3 * 2 ^ f.m)) (flatE f.F (2 ^ f.m)) ∧ f.g ≠ g ∧ vf.ownBlock ≠ some f.g
  apart : ∀ (k k' : Nat) (f f' : Sub), fs[k]? = some f → fs[k']? = some f' → f.g = f'.g → k = k'
section
variable {w : World} {B g sy : Nat} {E : Nat → Ent} {fs : List Sub} {vf : Value}
theorem TabM.up {w' : World} (h : TabM w B g sy E fs vf) (hb : Below w.heap.size w w') : TabM w' B g sy E fs vf :=
  ⟨h.box.up hb, h.outer.up hb, h.ne, fun k f hf => ⟨(h.rows k f hf).1.up hb, (h.rows k f hf).2⟩, h.apart⟩
theorem TabM.blk (h : TabM w B g sy E fs vf) : B ≤ g ∧ g < w.heap.size := h.box.blk
theorem box_len (E : Nat → Ent) (sy : Nat) (vf : Value) : ([Value.bool true, .int .i64 (sy : Nat)] ++ flatE E 512 ++ [vf]).length = 1539 := by simp [flatE_length]
theorem TabM.c0 (h : TabM w B g sy E fs vf) : w.cell? ⟨g, 0, none⟩ = some (.bool true) := by rw [h.box.cell (by rw [box_len]; omega)]; rfl
theorem TabM.c1 (h : TabM w B g sy E fs vf) : w.cell? ⟨g, 1, none⟩ = some (.int .i64 (sy : Nat)) := by rw [h.box.cell (by rw [box_len]; omega)]; rfl
theorem TabM.cv (h : TabM w B g sy E fs vf) : w.cell? ⟨g, 1538, none⟩ = some vf := by
  rw [h.box.cell (by rw [box_len]; omega), List.getD_eq_getElem?_getD, List.getElem?_append_right (by simp [flatE_length])]
  simp [flatE_length]
theorem TabM.ce (h : TabM w B g sy E fs vf) (x c : Nat) (hx : x < 512) (hc : c < 3) : w.cell? ⟨g, 2 + 3 * x + c, none⟩ = some (.int .i64 (cellE (E x) c : Nat)) := by
  rw [h.box.cell (by rw [box_len]; omega), List.getD_eq_getElem?_getD, List.append_assoc, List.getElem?_append_right (by simp; omega), List.getElem?_append_left (by simp [flatE_length]; omega)]
  rw [show 2 + 3 * x + c - [Value.bool true, Value.int IntKind.i64 (sy : Nat)].length = 3 * x + c by simp; omega, flatE_at E 512 x c hx hc]
  rfl
theorem TabM.ct (h : TabM w B g sy E fs vf) (x : Nat) (hx : x < 512) : w.cell? ⟨g, 2 + 3 * x + 2, none⟩ = some (.int .i64 ((E x).t : Nat)) := h.ce x 2 hx (by omega)
theorem TabM.free (h : TabM w B g sy E fs vf) (c : Nat) : w.frozen? ⟨g, c, none⟩ = false := h.box.free c
theorem pre2 : ([Value.bool true, Value.int .i64 (sy : Nat)]).length = 2 := rfl
/-- the first table written -/
theorem TabM.wrote {w' : World} {E' : Nat → Ent} (h : TabM w B g sy E fs vf) (hg : w.grownBy w' (some g)) (hb : Own w' B 42 (.slice (some ⟨g, 0, none⟩) 1539 1539) ([.bool true, .int .i64 (sy : Nat)] ++ flatE E' 512 ++ [vf])) : TabM w' B g sy E' fs vf :=
  ⟨hb, h.outer.keep hg (.inr h.ne), h.ne, fun k f hf => ⟨(h.rows k f hf).1.keep hg (.inr (by intro e; exact (h.rows k f hf).2.1 (Option.some.inj e))), (h.rows k f hf).2⟩, h.apart⟩
/-- a further table written -/
theorem TabM.wroteSub {w' : World} {F' : Nat → Ent} {k : Nat} {f : Sub} (h : TabM w B g sy E fs vf) (hf : fs[k]? = some f) (hg : w.grownBy w' (some f.g)) (hb : Own w' B 38 (.slice (some ⟨f.g, 0, none⟩) (3 * 2 ^ f.m) (3 * 2 ^ f.m)) (flatE F' (2 ^ f.m))) : TabM w' B g sy E (fs.set k ⟨f.g, f.m, F'⟩) vf := by
  have hr := h.rows k f hf
  have hlk : k < fs.length := (List.getElem?_eq_some_iff.1 hf).1
  have hget : ∀ q f', (fs.set k ⟨f.g, f.m, F'⟩)[q]? = some f' → ∃ f0, fs[q]? = some f0 ∧ f'.g = f0.g ∧ f'.m = f0.m ∧ (q ≠ k → f' = f0) := fun q f' hq => by
    by_cases e : k = q
    · subst e
      rw [List.getElem?_set_self hlk] at hq
      obtain rfl := Option.some.inj hq
      exact ⟨f, hf, rfl, rfl, fun h => absurd rfl h⟩
    · rw [List.getElem?_set_ne e] at hq
      exact ⟨f', hq, rfl, rfl, fun _ => rfl⟩
  refine ⟨h.box.keep hg (.inr (by intro e; exact hr.2.1 (Option.some.inj e).symm)), ?_, h.ne, fun q f' hq => ?_, fun q q' f1 f2 h1 h2 he => ?_⟩
  · have e : (fs.set k ⟨f.g, f.m, F'⟩).map subV = fs.map subV := by
      rw [List.map_set]
      refine List.ext_getElem? fun q => ?_
      by_cases e : k = q
      · subst e
        rw [List.getElem?_set_self (by simpa using hlk), List.getElem?_map, hf]; rfl
      · rw [List.getElem?_set_ne e]
    rw [e]
    exact h.outer.keep hg (.inr hr.2.2)
  · by_cases e : k = q
    · subst e
      rw [List.getElem?_set_self hlk] at hq
      obtain rfl := Option.some.inj hq
      exact ⟨hb, hr.2⟩
    · rw [List.getElem?_set_ne e] at hq
      have hr' := h.rows q f' hq
      refine ⟨hr'.1.keep hg (.inr ?_), hr'.2⟩
      intro he
      exact e (h.apart k q f f' hf hq (Option.some.inj he).symm)
  · obtain ⟨g1, hg1, e1, _⟩ := hget q f1 h1
    obtain ⟨g2, hg2, e2, _⟩ := hget q' f2 h2
    exact h.apart q q' g1 g2 hg1 hg2 (by rw [← e1, ← e2]; exact he)
end
theorem TabM.push {w w5 : World} {B g sy : Nat} {E : Nat → Ent} {fs : List Sub} {vf v' : Value} {gn m : Nat} {F : Nat → Ent} (h : TabM w B g sy E fs vf) (hr : Own w B 38 (.slice (some ⟨gn, 0, none⟩) (3 * 2 ^ m) (3 * 2 ^ m)) (flatE F (2 ^ m))) (h1 : gn ≠ g) (h2 : ∀ (k : Nat) (f : Sub), fs[k]? = some f → f.g ≠ gn) (h3 : vf.ownBlock ≠ some gn)
    (ho : Own w5 B 70 v' (fs.map subV ++ [subV ⟨gn, m, F⟩])) (hg : w.grownBy w5 vf.ownBlock) (hk : ∀ k, v'.ownBlock = some k → vf.ownBlock = some k ∨ w.heap.size ≤ k) : TabM (w5.setCell ⟨g, 1538, none⟩ v') B g sy E (fs ++ [⟨gn, m, F⟩]) v' ∧ w5.grownBy (w5.setCell ⟨g, 1538, none⟩ v') (some g) := by
  have hb := (h.box.keep hg (.inr (fun e => h.ne e.symm))).store 1538 v'
  have hgw := h.blk.2
  have hne : v'.ownBlock ≠ some g := fun e => by
    rcases hk g e with q | q
    · exact h.ne q
    · omega
  have hnk : ∀ q, q < w.heap.size → vf.ownBlock ≠ some q → v'.ownBlock ≠ some q := fun q hq hn e => by
    rcases hk q e with z | z
    · exact hn z
    · omega
  have hset : ([Value.bool true, .int .i64 (sy : Nat)] ++ flatE E 512 ++ [vf]).set 1538 v' = [Value.bool true, .int .i64 (sy : Nat)] ++ flatE E 512 ++ [v'] := by
    rw [List.set_append_right _ _ (by simp [flatE_length])]
    simp [flatE_length]
  rw [hset] at hb
  have hrow : ∀ (k : Nat) (f : Sub), (fs ++ [⟨gn, m, F⟩])[k]? = some f → (k < fs.length ∧ fs[k]? = some f) ∨ (k = fs.length ∧ f = ⟨gn, m, F⟩) := fun k f hf => by
    by_cases hkl : k < fs.length
    · rw [List.getElem?_append_left hkl] at hf; exact .inl ⟨hkl, hf⟩
    · rw [List.getElem?_append_right (by omega)] at hf
      by_cases hk0 : k = fs.length
      · subst hk0; rw [Nat.sub_self] at hf; exact .inr ⟨rfl, (Option.some.inj hf).symm⟩
      · rw [List.getElem?_eq_none (by simp; omega)] at hf; cases hf
  refine ⟨⟨hb.1, ?_, hne, fun k f hf => ?_, fun k k' f f' hf hf' he => ?_⟩, hb.2⟩
  · rw [List.map_append]
    exact ho.keep hb.2 (.inr hne)
  · rcases hrow k f hf with ⟨-, hf⟩ | ⟨-, rfl⟩
    · have hr' := h.rows k f hf
      refine ⟨(hr'.1.keep hg (.inr (fun e => hr'.2.2 e.symm))).keep hb.2 (.inr (fun e => hr'.2.1 (Option.some.inj e))), hr'.2.1, hnk _ hr'.1.blk.2 hr'.2.2⟩
    · exact ⟨(hr.keep hg (.inr (fun e => h3 e.symm))).keep hb.2 (.inr (fun e => h1 (Option.some.inj e))), h1, hnk _ hr.blk.2 h3⟩
  · rcases hrow k f hf with ⟨-, hf⟩ | ⟨hk1, rfl⟩ <;> rcases hrow k' f' hf' with ⟨-, hf'⟩ | ⟨hk2, rfl⟩
    · exact h.apart k k' f f' hf hf' he
    · exact absurd he (h2 k f hf)
    · exact absurd he.symm (h2 k' f' hf')
    · omega
theorem index_arr (g o x : Nat) (W : World) (h : x < 512) : (Instr.indexAt 39 (.pointer (some ⟨g, o, none⟩)) (.int .i64 x)).run Try.prog W = .ok (.pointer (some ⟨g, o + 3 * x, none⟩)) W := by
  have he : Try.prog.elem 39 = 38 := by simp [Program.elem, Try.underlying39]
  have hl : Try.prog.arrayLen 39 = 512 := by simp [Program.arrayLen, Try.underlying39]
  have hsz : (sizeOf 38).run Try.prog W = .ok 3 W := by
    have hi : (Try.prog.info? 38).map (·.size) = some 3 := by kernel_rfl
    cases hq : Try.prog.info? 38 with
    | none => simp [hq] at hi
    | some inf => have : inf.size = 3 := by simpa [hq] using hi
                  simp [sizeOf, typeInfo, hq, this]
  rw [run_indexAt_array W 39 ⟨g, o, none⟩ .i64 x (by rw [he, hl]; exact Try.underlying39), hl, if_pos ⟨by omega, by omega⟩, he, hsz]
  simp only [Result.andThen, Int.toNat_natCast, add_off]
  rw [Nat.mul_comm]
theorem made3 (n : Nat) : (madeCells #[Value.int .i64 0, .int .i64 0, .int .i64 0] (3 * n)).toList = flatE (fun _ => Ent.zero) n := by
  rw [flatE_zero, List.eq_replicate_iff]
  refine ⟨by rw [Array.length_toList, size_madeCells], fun x hx => ?_⟩
  simp only [madeCells, Array.toList_map, List.mem_map] at hx
  obtain ⟨k, -, rfl⟩ := hx
  rcases (show k % 3 = 0 ∨ k % 3 = 1 ∨ k % 3 = 2 by omega) with h | h | h <;> simp [h]
theorem run_mk3 (n : Nat) (hn : n ≤ 65536) : ∀ W : World, (Instr.makeSlice 70 (.int .i64 (n : Int)) (.int .i64 (n : Int))).run Try.prog W = .ok (.slice (some ⟨W.heap.size, 0, none⟩) n n) (W.alloc (.cells (madeCells #[Value.int .i64 0, .int .i64 0, .int .i64 0] (3 * n)) 38)) := by
  intro W
  have hinf : (Try.prog.info? 38).map (fun i => (i.zero, i.size, i.bytes)) = some (some (.agg #[.int .i64 0, .int .i64 0, .int .i64 0]), 3, 24) := by kernel_rfl
  cases hq : Try.prog.info? 38 with
  | none => simp [hq] at hinf
  | some i0 =>
    simp [hq] at hinf
    obtain ⟨h1, h2, h3⟩ := hinf
    have hr := run_make (P := Try.prog) W 70 38 i0 _ Try.underlying70 hq h1 .i64 .i64 n n (by omega) (Int.le_refl _) (by rw [h3]; omega) (by omega)
    simp only [Int.toNat_natCast, h2, Value.cells, Nat.mul_comm n 3] at hr
    exact hr

set_option maxRecDepth 100000 in
/-- what 'branch' answers where the further table is there -/
theorem branchOld {w : World} {B g sy : Nat} {E : Nat → Ent} {fs : List Sub} {vf : Value} (h : TabM w B g sy E fs vf) (v u : Value) (head : Nat) (hh : head < 512) {k : Nat} {f : Sub} (hk : (E (turnN head 9)).t = k + 1) (hf : fs[k]? = some f) (hfs : fs.length ≤ 512) :
    Calls Try.prog 29 #[.pointer (some ⟨g, 0, none⟩), v, u, .int .i64 head] w fun e w' => e = .returned (subV f) ∧ ∃ x, w' = ext w x := by
  have htl := turnN_lt head 9
  have HTP := Lib.hid (turnP head 9 (by omega))
  have hct := h.ct (turnN head 9) htl
  rw [hk] at hct
  have hcv := h.cv
  have hg := h.blk.2
  have hkl : k < fs.length := (List.getElem?_eq_some_iff.1 hf).1
  obtain ⟨of, cf, gf, rfl, hdf, -, hcf, -⟩ := h.outer.cases
  rw [List.length_map] at hdf hcf hcv
  have hixf := index_any (P := Try.prog) 40 70 Try.underlying40 (by kernel_rfl) hdf
  have hixk := fun W => hixf W .i64 (k : Int) (by omega) (by omega)
  rw [Int.toNat_natCast, Nat.zero_add] at hixk
  have hck := hcf k hkl
  have hsub : (fs.map subV).getD k undef = subV f := by rw [List.getD_eq_getElem?_getD, List.getElem?_map, hf]; rfl
  rw [hsub] at hck
  have hgf := hdf.hblk (by omega)
  have hixa := fun W => index_arr g 2 (turnN head 9) W htl
  have hk512 : k ≤ 512 := by omega
  generalize subV f = vk at *
  generalize turnN head 9 = x at *
  clear h hixf hcf hdf hsub hf hk
  go_enter Try.func29, Try.ntmps29
  go_wp2_with (go_at_call 43; refine (HTP.out _).mono ?_; rintro en w' ⟨rfl, hw'⟩; rw [hw']; clear hw')
  go_quiet (fail)
  go_wp2
  go_ret
  exact ⟨rfl, (ex_ext (by repeat (first | exact Below.refl _ _ | assumption | refine b_drewN ?_ _ | refine Below.drew ?_ | refine b_ext' ?_ _ | refine b_alloc' ?_ _)))⟩

set_option maxRecDepth 100000 in
set_option maxHeartbeats 1000000 in
/-- .. where it is new -/
theorem branchNew {w : World} {B g sy : Nat} {E : Nat → Ent} {fs : List Sub} {vf : Value} (h : TabM w B g sy E fs vf) (v u : Value) (L : List Nat) (hv : IntsAt w v (nls L)) (hu : IntsAt w u (nls (codesN L))) (hlen : L.length ≤ 320) (h15 : ∀ x ∈ L, x ≤ 15) (hk : kraftN L ≤ 32768)
    (head : Nat) (hh : head < 512) (ht : (E (turnN head 9)).t = 0) (hfs : fs.length ≤ 512) :
    Calls Try.prog 29 #[.pointer (some ⟨g, 0, none⟩), v, u, .int .i64 head] w fun e w' => ∃ (gn m : Nat) (vf' : Value), e = .returned (subV ⟨gn, m, fun _ => Ent.zero⟩) ∧ m ≤ 6 ∧ (∀ j, j < L.length → headN L j (turnN head 9) → L.getD j 0 ≤ 9 + m) ∧
      TabM w' B g sy (updN E (turnN head 9) ⟨0, m, fs.length + 1⟩) (fs ++ [⟨gn, m, fun _ => Ent.zero⟩]) vf' ∧ Below B w w' := by
  have htl := turnN_lt head 9
  have HTT := Lib.hid (turnN_turnN head 9 (by simpa using hh))
  have HTP := Lib.hid (turnP head 9 (by omega))
  have HLO := Lib.hid (longestP v u L hv hu hlen h15 hk head (by omega))
  have hct := h.ct (turnN head 9) htl
  rw [ht] at hct
  have hg := h.blk.2
  have hgB := h.blk.1
  have hixa := fun W => index_arr g 2 (turnN head 9) W htl
  have HM := Lib.hid h
  have HUP : Hid (∀ m, (∀ j, j < L.length → 9 < L.getD j 0 → codeN L j / 2 ^ (L.getD j 0 - 9) = head → L.getD j 0 ≤ 9 + m) → ∀ j, j < L.length → headN L j (turnN head 9) → L.getD j 0 ≤ 9 + m) := Lib.hid (fun m hm j hj hhd => hm j hj hhd.1 (by rw [hhd.2, HTT.out]))
  have hfsL := hfs
  generalize turnN head 9 = x at *
  clear h hv hu h15 hk HTT
  go_enter Try.func29, Try.ntmps29
  go_wp2_with (first | (go_at_call 43; refine (HTP.out _).mono ?_; rintro en w' ⟨rfl, hw'⟩; rw [hw']; clear hw') | (go_at_call 46; refine HLO.out.mono ?_; rintro en w1 ⟨⟨m, rfl, hm6, hmh⟩, y, rfl⟩; have HM6X := Lib.hid hm6; have HMH := Lib.hid (HUP.out m hmh); clear hmh))
  have HM1 := Lib.hid (HM.out.up (ext_below w y))
  have HB1 : Hid (Below B w (ext w y)) := Lib.hid ((ext_below w y).mono (by omega))
  clear HM HUP HLO hct hg
  generalize ext w y = w1 at *
  have hcv := HM1.out.cv
  have hg := HM1.out.blk.2
  have hf38 := HM1.out.free 1538
  obtain ⟨n, hn⟩ : ∃ n, n = 2 ^ m := ⟨_, rfl⟩
  have hn64 : n ≤ 64 := by rw [hn]; exact Nat.le_trans (Nat.pow_le_pow_right (by decide) hm6) (by decide)
  have hni : (2 : Int) ^ m = (n : Int) := by rw [hn]; norm_cast
  have HN := Lib.hid hn
  clear hn
  have hmk := run_mk3 n (by omega)
  have HZ := Lib.hid (made3 n)
  generalize madeCells #[Value.int .i64 0, .int .i64 0, .int .i64 0] (3 * n) = Z at *
  refine wp_region_tail (fun w' => ∃ x, w' = chg w1 vf.ownBlock x) [0,1,2,3,4,5,6,7] [8,9,10,11,12] [13] (by kernel_rfl) (by kernel_rfl) (ex_chg (grown_drew _ _)) ?_
  have hne := HM1.out.ne
  have hne2 : some g ≠ vf.ownBlock := fun e => hne e.symm
  simp only [pick, List.map_cons, List.map_nil, List.getD_cons_zero, List.getD_cons_succ]
  repeat (go_big_quiet_step (fail))
  refine wpQuiet_nil ?_
  (unfold wpAct; go_wp2; refine ⟨ex_chg (grown_below (by repeat (first | exact Below.refl _ _ | assumption | refine b_drewN ?_ _ | refine Below.drew ?_ | refine b_ext' ?_ _ | refine b_alloc' ?_ _)) _), ?_⟩)
  (unfold wpAct; go_wp2; refine ⟨ex_chg (grown_below (by repeat (first | exact Below.refl _ _ | assumption | refine b_drewN ?_ _ | refine Below.drew ?_ | refine b_ext' ?_ _ | refine b_alloc' ?_ _)) _), ?_⟩)
  unfold wpAct
  obtain ⟨W, hW⟩ : ∃ W, W = ((w1.alloc (.cells Z 38)).alloc (.cells #[Value.slice (some ⟨w1.heap.size, 0, none⟩) n n] 70)).drew := ⟨_, rfl⟩
  have hbW : Below w1.heap.size w1 W := by rw [hW]; exact (by repeat (first | exact Below.refl _ _ | assumption | refine b_drewN ?_ _ | refine Below.drew ?_ | refine b_ext' ?_ _ | refine b_alloc' ?_ _))
  have HX : Hid (Sl W (.slice (some ⟨w1.heap.size + 1, 0, none⟩) 1 1) [.slice (some ⟨w1.heap.size, 0, none⟩) n n]) := Lib.hid (by
    have h1 := (sl_lit (w1.alloc (.cells Z 38)) #[Value.slice (some ⟨w1.heap.size, 0, none⟩) n n] 70 (by simp)).up (below_drewN _ 1)
    rw [← World.drew_is_drewN] at h1
    rw [hW]
    simpa using h1)
  have hZs : Z.size = 3 * n := by rw [← Array.length_toList, HZ.out, flatE_length]
  have HR : Hid (Own W B 38 (.slice (some ⟨w1.heap.size, 0, none⟩) (3 * n) (3 * n)) (flatE (fun _ => Ent.zero) n)) := Lib.hid (by
    have h1 := own_lit w1 B Z 38 (by omega) (by omega)
    rw [HZ.out, hZs] at h1
    have h2 := (h1.up (below_alloc _ (.cells #[Value.slice (some ⟨w1.heap.size, 0, none⟩) n n] 70))).up (below_drewN _ 1)
    rw [← World.drew_is_drewN, ← hW] at h2
    exact h2)
  have HM2 := Lib.hid (HM1.out.up hbW)
  have HT2 : Hid (∀ u ∈ [Value.slice (some ⟨w1.heap.size, 0, none⟩) n n], u.oneCell' = true) := Lib.hid (by intro u hu; simp at hu; subst hu; rfl)
  have HT3 : Hid ((fs.map subV).length + 1 ≤ 4294967296) := Lib.hid (by rw [List.length_map]; omega)
  have hBW : B ≤ W.heap.size := by have := hbW.size; omega
  have hgW : w1.heap.size + 1 < W.heap.size := by rw [hW]; simp
  have HGW : Hid (Below B w W) := Lib.hid (HB1.out.trans (hbW.mono (by omega)))
  have HCW : Hid (w1.grownBy W vf.ownBlock) := Lib.hid (grown_below hbW _)
  rw [← hW]
  clear hW hZs
  go_wp2_with (at_builtin; refine wpList_app rfl (.tmp 29) (.tmp 34) 40 rfl B 70 (.slice none 0 0) 24 Try.underlying40 (by kernel_rfl) rfl (by decide) vf (fs.map subV) rfl HM2.out.outer (.slice (some ⟨w1.heap.size + 1, 0, none⟩) 1 1) [.slice (some ⟨w1.heap.size, 0, none⟩) n n] rfl HX.out HT2.out HT3.out hBW ?_; intro v' w5 hown1 hg1 hk1; have HO1 := Lib.hid hown1; have HG1 := Lib.hid hg1; have HK1 := Lib.hid hk1; clear hown1 hg1 hk1)
  refine ⟨ex_chg (grown_trans HCW.out HG1.out), ?_⟩
  (unfold wpAct; go_wp2; refine ⟨ex_chg (grown_trans HCW.out HG1.out), ?_⟩)
  (unfold wpAct; go_wp2; refine ⟨ex_chg (grown_trans HCW.out HG1.out), ?_⟩)
  have hpush := HM2.out.push (w5 := w5) (v' := v') (gn := w1.heap.size) (m := m) (F := fun _ => Ent.zero) (by rw [← HN.out]; exact HR.out) (by omega) (fun k f hf e => by have := (HM1.out.rows k f hf).1.blk.2; omega) (fun e => by have := HM1.out.outer.lt _ e; omega) (by unfold subV; rw [← HN.out]; exact HO1.out) HG1.out HK1.out
  have hB5 : Below B w w5 := below_grown HGW.out hBW HM2.out.outer HG1.out
  have hgrow5 := HG1.out.size
  obtain ⟨o5, c5, g5, hv5, -⟩ := HO1.out.cases
  rw [List.length_append, List.length_map, List.length_singleton] at hv5
  obtain ⟨l5, hl5⟩ : ∃ l5, l5 = fs.length + 1 := ⟨_, rfl⟩
  rw [← hl5] at hv5
  have HL5 := Lib.hid hl5
  clear hl5
  have HPU := Lib.hid hpush
  have HB5 := Lib.hid hB5
  have hg5 : g < w5.heap.size := by omega
  have hc5 : w5.cell? ⟨g, 1538, none⟩ = some vf := (HM2.out.box.keep HG1.out (.inr hne2)).cell (i := 1538) (by rw [box_len]; omega) |>.trans (by rw [List.getD_eq_getElem?_getD, List.getElem?_append_right (by simp [flatE_length])]; simp [flatE_length])
  have hf5 : w5.frozen? ⟨g, 1538, none⟩ = false := (HM2.out.box.keep HG1.out (.inr hne2)).free 1538
  clear hpush hB5 HO1 HG1 HK1 HX HM2 HT2 HT3 HR HGW HCW HM1 hcv hf38 hg hne hne2
  subst hv5
  unfold wpAct
  unfold wpAct
  go_wp2
  refine ⟨trivial, ?_⟩
  unfold wpAct
  have HM6 := Lib.hid HPU.out.1
  have HB6 : Hid (Below B w (w5.setCell ⟨g, 1538, none⟩ (.slice o5 l5 c5))) := Lib.hid (HB5.out.grown HPU.out.2 (by have := HB5.out.size; omega) (fun k hk => by cases hk; exact hgB))
  clear HPU HB5 hc5 hf5 hg5
  generalize w5.setCell ⟨g, 1538, none⟩ (.slice o5 l5 c5) = w6 at *
  have hcv := HM6.out.cv
  have hg := HM6.out.blk.2
  have hixa2 := fun W => index_arr g 2 x W htl
  have hlen5 : l5 ≤ 513 := by have := HL5.out; omega
  have HS3 := Lib.hid (set3 [Value.bool true, .int .i64 (sy : Nat)] [.slice o5 l5 c5] E 512 x ⟨0, m, l5⟩ htl)
  have HBX := Lib.hid HM6.out.box
  go_wp2
  refine wp_region_tailg [0,1,2,3,4,5,6,7,8,9,10,11] [] [12] (by kernel_rfl) (by kernel_rfl) ?_
  simp only [pick, List.map_cons, List.map_nil, List.getD_cons_zero, List.getD_cons_succ]
  repeat (go_big_quiet_step (fail))
  refine wpQuiet_nil ?_
  unfold wpAct
  unfold wpAct
  have HBX7 := Lib.hid (HBX.out.up (b_drew1 (Below.refl w6.heap.size w6)))
  have HE1 := Lib.hid (entV_one ⟨0, m, l5⟩)
  have hbl := box_len E sy (.slice o5 l5 c5)
  go_wp2_with (refine wpList_store_part rfl 38 _ _ rfl B 42 g 1539 1539 (2 + 3 * x) rfl (entV ⟨0, m, l5⟩) rfl (by kernel_rfl) _ HBX7.out (by rw [hbl]; show 2 + 3 * x + 3 ≤ 1539; omega) HE1.out ?_; intro w8 hown8 hg8; have HO8 := Lib.hid hown8; have HG8 := Lib.hid hg8; clear hown8 hg8)
  refine ⟨trivial, ?_⟩
  unfold wpAct
  have HM8 : Hid (TabM w8 B g sy (updN E x ⟨0, m, l5⟩) (fs ++ [⟨w1.heap.size, m, fun _ => Ent.zero⟩]) (.slice o5 l5 c5)) := Lib.hid ((HM6.out.up (b_drew1 (Below.refl w6.heap.size w6))).wrote HG8.out (by
    have h1 := HO8.out
    have h2 := HS3.out
    simp only [pre2] at h2
    rw [show (entV ⟨0, m, l5⟩).size = 3 from rfl, h2] at h1
    exact h1))
  have HB8 : Hid (Below B w w8) := Lib.hid ((b_drew1 HB6.out).grown HG8.out (by have := HB6.out.size; show B ≤ w6.heap.size; omega) (fun k hk => by cases hk; exact hgB))
  clear HM6 HB6 HO8 HG8 HBX HBX7 HS3 hcv hg hbl HE1 hixa
  have hcv := HM8.out.cv
  have hg := HM8.out.blk.2
  have hct := HM8.out.ct x htl
  rw [show (updN E x ⟨0, m, l5⟩ x).t = l5 by unfold updN; rw [if_pos rfl]] at hct
  obtain ⟨o8, c8, g8, hv8, hdf, -, hcf, -⟩ := HM8.out.outer.cases
  have hll : ((fs ++ [(⟨w1.heap.size, m, fun _ => Ent.zero⟩ : Sub)]).map subV).length = l5 := by have := HL5.out; simp; omega
  rw [hll] at hv8 hdf hcf
  obtain ⟨rfl, -, rfl⟩ : o5 = o8 ∧ True ∧ c5 = c8 := by
    injection hv8 with e1 e2 e3
    exact ⟨e1, trivial, e3⟩
  have hixf := index_any (P := Try.prog) 40 70 Try.underlying40 (by kernel_rfl) hdf
  have hl5i : (l5 : Int) - 1 = (fs.length : Int) := by have := HL5.out; omega
  have hixk := fun W => hixf W .i64 (fs.length : Int) (by omega) (by have := HL5.out; omega)
  rw [Int.toNat_natCast, Nat.zero_add] at hixk
  have hck := hcf fs.length (by have := HL5.out; omega)
  have hsub : ((fs ++ [(⟨w1.heap.size, m, fun _ => Ent.zero⟩ : Sub)]).map subV).getD fs.length undef = subV ⟨w1.heap.size, m, fun _ => Ent.zero⟩ := by
    rw [List.getD_eq_getElem?_getD, List.getElem?_map, List.getElem?_append_right (Nat.le_refl _), Nat.sub_self]; rfl
  rw [hsub] at hck
  have hg8 := hdf.hblk (by have := HL5.out; omega)
  clear hdf hcf hixf hsub hv8 hll
  obtain ⟨vk, hvk⟩ : ∃ vk, vk = subV ⟨w1.heap.size, m, fun _ => Ent.zero⟩ := ⟨_, rfl⟩
  rw [← hvk] at hck
  have HVK := Lib.hid hvk
  clear hvk
  go_wp2
  go_quiet (fail)
  go_wp2
  go_ret
  refine ⟨w1.heap.size, m, .slice o5 l5 c5, ?_, HM6X.out, HMH.out, ?_, ?_⟩
  · rw [← HVK.out]; rfl
  · rw [← HL5.out]; exact HM8.out.up (below_drewN w8 _)
  · exact HB8.out.trans ((below_drewN w8 _).mono (by omega))
end Go.Cm
