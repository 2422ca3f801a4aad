/- Texts of this claim, joined: walks of small functions and plain facts about them. Conditions: as each says. -/
import Derived.Test.YtmophmeiemfikaaGreatBE
import Derived.Test.YtmophmeiemfikaaGreatRows
import Derived.WalkKit
import Derived.WalkSpells
import Derived.WalkLawsBesides
import Derived.Deep.QuietTactic
import Derived.BigQuiet
import Derived.Lib.Hide
import Derived.Deep.LoopGhost
import Derived.Laws.BitsLemmas
import Derived.Laws.Small
/- The table of codes in memory; the walk of its further tables. Conditions: none. -/
namespace Go.Cm
open Go.RowKit Go.Proofs

def subV (f : Sub) : Value := .slice (some ⟨f.g, 0, none⟩) (2 ^ f.m) (2 ^ f.m)
/-- a table in block g, all of it from block B on -/
structure TabM (w : World) (B g sy : Nat) (E : Nat → Ent) (fs : List Sub) (vf : Value) : Prop where
  box : Own w B 117 (.slice (some ⟨g, 0, none⟩) 1539 1539) ([.bool true, .int .i64 (sy : Nat)] ++ flatE E 512 ++ [vf])
  outer : Own w B 119 vf (fs.map subV)
  ne : vf.ownBlock ≠ some g
  rows : ∀ (k : Nat) (f : Sub), fs[k]? = some f → Own w B 113 (.slice (some ⟨f.g, 0, none⟩) (3 * 2 ^ f.m) (3 * 2 ^ f.m)) (flatE f.F (2 ^ f.m)) ∧ f.g ≠ g ∧ vf.ownBlock ≠ some f.g
  apart : ∀ (k k' : Nat) (f f' : Sub), fs[k]? = some f → fs[k']? = some f' → f.g = f'.g → k = k'
section
variable {w : World} {B g sy : Nat} {E : Nat → Ent} {fs : List Sub} {vf : Value}
theorem TabM.up {w' : World} (h : TabM w B g sy E fs vf) (hb : Below w.heap.size w w') : TabM w' B g sy E fs vf :=
  ⟨h.box.up hb, h.outer.up hb, h.ne, fun k f hf => ⟨(h.rows k f hf).1.up hb, (h.rows k f hf).2⟩, h.apart⟩
theorem TabM.blk (h : TabM w B g sy E fs vf) : B ≤ g ∧ g < w.heap.size := h.box.blk
theorem box_len (E : Nat → Ent) (sy : Nat) (vf : Value) : ([Value.bool true, .int .i64 (sy : Nat)] ++ flatE E 512 ++ [vf]).length = 1539 := by simp [flatE_length]
theorem TabM.c0 (h : TabM w B g sy E fs vf) : w.cell? ⟨g, 0, none⟩ = some (.bool true) := by rw [h.box.cell (by rw [box_len]; omega)]; rfl
theorem TabM.c1 (h : TabM w B g sy E fs vf) : w.cell? ⟨g, 1, none⟩ = some (.int .i64 (sy : Nat)) := by rw [h.box.cell (by rw [box_len]; omega)]; rfl
theorem TabM.cv (h : TabM w B g sy E fs vf) : w.cell? ⟨g, 1538, none⟩ = some vf := by
  rw [h.box.cell (by rw [box_len]; omega), List.getD_eq_getElem?_getD, List.getElem?_append_right (by simp [flatE_length])]
  simp [flatE_length]
theorem TabM.ce (h : TabM w B g sy E fs vf) (x c : Nat) (hx : x < 512) (hc : c < 3) : w.cell? ⟨g, 2 + 3 * x + c, none⟩ = some (.int .i64 (cellE (E x) c : Nat)) := by
  rw [h.box.cell (by rw [box_len]; omega), List.getD_eq_getElem?_getD, List.append_assoc, List.getElem?_append_right (by simp; omega), List.getElem?_append_left (by simp [flatE_length]; omega)]
  rw [show 2 + 3 * x + c - [Value.bool true, Value.int IntKind.i64 (sy : Nat)].length = 3 * x + c by simp; omega, flatE_at E 512 x c hx hc]
  rfl
theorem TabM.ct (h : TabM w B g sy E fs vf) (x : Nat) (hx : x < 512) : w.cell? ⟨g, 2 + 3 * x + 2, none⟩ = some (.int .i64 ((E x).t : Nat)) := h.ce x 2 hx (by omega)
theorem TabM.free (h : TabM w B g sy E fs vf) (c : Nat) : w.frozen? ⟨g, c, none⟩ = false := h.box.free c
theorem pre2 : ([Value.bool true, Value.int .i64 (sy : Nat)]).length = 2 := rfl
/-- the first table written -/
theorem TabM.wrote {w' : World} {E' : Nat → Ent} (h : TabM w B g sy E fs vf) (hg : w.grownBy w' (some g)) (hb : Own w' B 117 (.slice (some ⟨g, 0, none⟩) 1539 1539) ([.bool true, .int .i64 (sy : Nat)] ++ flatE E' 512 ++ [vf])) : TabM w' B g sy E' fs vf :=
  ⟨hb, h.outer.keep hg (.inr h.ne), h.ne, fun k f hf => ⟨(h.rows k f hf).1.keep hg (.inr (by intro e; exact (h.rows k f hf).2.1 (Option.some.inj e))), (h.rows k f hf).2⟩, h.apart⟩
/-- a further table written -/
theorem TabM.wroteSub {w' : World} {F' : Nat → Ent} {k : Nat} {f : Sub} (h : TabM w B g sy E fs vf) (hf : fs[k]? = some f) (hg : w.grownBy w' (some f.g)) (hb : Own w' B 113 (.slice (some ⟨f.g, 0, none⟩) (3 * 2 ^ f.m) (3 * 2 ^ f.m)) (flatE F' (2 ^ f.m))) : TabM w' B g sy E (fs.set k ⟨f.g, f.m, F'⟩) vf := by
  have hr := h.rows k f hf
  have hlk : k < fs.length := (List.getElem?_eq_some_iff.1 hf).1
  have hget : ∀ q f', (fs.set k ⟨f.g, f.m, F'⟩)[q]? = some f' → ∃ f0, fs[q]? = some f0 ∧ f'.g = f0.g ∧ f'.m = f0.m ∧ (q ≠ k → f' = f0) := fun q f' hq => by
    by_cases e : k = q
    · subst e
      rw [List.getElem?_set_self hlk] at hq
      obtain rfl := Option.some.inj hq
      exact ⟨f, hf, rfl, rfl, fun h => absurd rfl h⟩
    · rw [List.getElem?_set_ne e] at hq
      exact ⟨f', hq, rfl, rfl, fun _ => rfl⟩
  refine ⟨h.box.keep hg (.inr (by intro e; exact hr.2.1 (Option.some.inj e).symm)), ?_, h.ne, fun q f' hq => ?_, fun q q' f1 f2 h1 h2 he => ?_⟩
  · have e : (fs.set k ⟨f.g, f.m, F'⟩).map subV = fs.map subV := by
      rw [List.map_set]
      refine List.ext_getElem? fun q => ?_
      by_cases e : k = q
      · subst e
        rw [List.getElem?_set_self (by simpa using hlk), List.getElem?_map, hf]; rfl
      · rw [List.getElem?_set_ne e]
    rw [e]
    exact h.outer.keep hg (.inr hr.2.2)
  · by_cases e : k = q
    · subst e
      rw [List.getElem?_set_self hlk] at hq
      obtain rfl := Option.some.inj hq
      exact ⟨hb, hr.2⟩
    · rw [List.getElem?_set_ne e] at hq
      have hr' := h.rows q f' hq
      refine ⟨hr'.1.keep hg (.inr ?_), hr'.2⟩
      intro he
      exact e (h.apart k q f f' hf hq (Option.some.inj he).symm)
  · obtain ⟨g1, hg1, e1, _⟩ := hget q f1 h1
    obtain ⟨g2, hg2, e2, _⟩ := hget q' f2 h2
    exact h.apart q q' g1 g2 hg1 hg2 (by rw [← e1, ← e2]; exact he)
end
theorem TabM.push {w w5 : World} {B g sy : Nat} {E : Nat → Ent} {fs : List Sub} {vf v' : Value} {gn m : Nat} {F : Nat → Ent} (h : TabM w B g sy E fs vf) (hr : Own w B 113 (.slice (some ⟨gn, 0, none⟩) (3 * 2 ^ m) (3 * 2 ^ m)) (flatE F (2 ^ m))) (h1 : gn ≠ g) (h2 : ∀ (k : Nat) (f : Sub), fs[k]? = some f → f.g ≠ gn) (h3 : vf.ownBlock ≠ some gn)
    (ho : Own w5 B 119 v' (fs.map subV ++ [subV ⟨gn, m, F⟩])) (hg : w.grownBy w5 vf.ownBlock) (hk : ∀ k, v'.ownBlock = some k → vf.ownBlock = some k ∨ w.heap.size ≤ k) : TabM (w5.setCell ⟨g, 1538, none⟩ v') B g sy E (fs ++ [⟨gn, m, F⟩]) v' ∧ w5.grownBy (w5.setCell ⟨g, 1538, none⟩ v') (some g) := by
  have hb := (h.box.keep hg (.inr (fun e => h.ne e.symm))).store 1538 v'
  have hgw := h.blk.2
  have hne : v'.ownBlock ≠ some g := fun e => by
    rcases hk g e with q | q
    · exact h.ne q
    · omega
  have hnk : ∀ q, q < w.heap.size → vf.ownBlock ≠ some q → v'.ownBlock ≠ some q := fun q hq hn e => by
    rcases hk q e with z | z
    · exact hn z
    · omega
  have hset : ([Value.bool true, .int .i64 (sy : Nat)] ++ flatE E 512 ++ [vf]).set 1538 v' = [Value.bool true, .int .i64 (sy : Nat)] ++ flatE E 512 ++ [v'] := by
    rw [List.set_append_right _ _ (by simp [flatE_length])]
    simp [flatE_length]
  rw [hset] at hb
  have hrow : ∀ (k : Nat) (f : Sub), (fs ++ [⟨gn, m, F⟩])[k]? = some f → (k < fs.length ∧ fs[k]? = some f) ∨ (k = fs.length ∧ f = ⟨gn, m, F⟩) := fun k f hf => by
    by_cases hkl : k < fs.length
    · rw [List.getElem?_append_left hkl] at hf; exact .inl ⟨hkl, hf⟩
    · rw [List.getElem?_append_right (by omega)] at hf
      by_cases hk0 : k = fs.length
      · subst hk0; rw [Nat.sub_self] at hf; exact .inr ⟨rfl, (Option.some.inj hf).symm⟩
      · rw [List.getElem?_eq_none (by simp; omega)] at hf; cases hf
  refine ⟨⟨hb.1, ?_, hne, fun k f hf => ?_, fun k k' f f' hf hf' he => ?_⟩, hb.2⟩
  · rw [List.map_append]
    exact ho.keep hb.2 (.inr hne)
  · rcases hrow k f hf with ⟨-, hf⟩ | ⟨-, rfl⟩
    · have hr' := h.rows k f hf
      refine ⟨(hr'.1.keep hg (.inr (fun e => hr'.2.2 e.symm))).keep hb.2 (.inr (fun e => hr'.2.1 (Option.some.inj e))), hr'.2.1, hnk _ hr'.1.blk.2 hr'.2.2⟩
    · exact ⟨(hr.keep hg (.inr (fun e => h3 e.symm))).keep hb.2 (.inr (fun e => h1 (Option.some.inj e))), h1, hnk _ hr.blk.2 h3⟩
  · rcases hrow k f hf with ⟨-, hf⟩ | ⟨hk1, rfl⟩ <;> rcases hrow k' f' hf' with ⟨-, hf'⟩ | ⟨hk2, rfl⟩
    · exact h.apart k k' f f' hf hf' he
    · exact absurd he (h2 k f hf)
    · exact absurd he.symm (h2 k' f' hf')
    · omega
theorem index_arr (g o x : Nat) (W : World) (h : x < 512) : (Instr.indexAt 114 (.pointer (some ⟨g, o, none⟩)) (.int .i64 x)).run Tryz.prog W = .ok (.pointer (some ⟨g, o + 3 * x, none⟩)) W := by
  have he : Tryz.prog.elem 114 = 113 := by simp [Program.elem, Tryz.underlying114]
  have hl : Tryz.prog.arrayLen 114 = 512 := by simp [Program.arrayLen, Tryz.underlying114]
  have hsz : (sizeOf 113).run Tryz.prog W = .ok 3 W := by
    have hi : (Tryz.prog.info? 113).map (·.size) = some 3 := by kernel_rfl
    cases hq : Tryz.prog.info? 113 with
    | none => simp [hq] at hi
    | some inf => have : inf.size = 3 := by simpa [hq] using hi
                  simp [sizeOf, typeInfo, hq, this]
  rw [run_indexAt_array W 114 ⟨g, o, none⟩ .i64 x (by rw [he, hl]; exact Tryz.underlying114), hl, if_pos ⟨by omega, by omega⟩, he, hsz]
  simp only [Result.andThen, Int.toNat_natCast, add_off]
  rw [Nat.mul_comm]
theorem made3 (n : Nat) : (madeCells #[Value.int .i64 0, .int .i64 0, .int .i64 0] (3 * n)).toList = flatE (fun _ => Ent.zero) n := by
  rw [flatE_zero, List.eq_replicate_iff]
  refine ⟨by rw [Array.length_toList, size_madeCells], fun x hx => ?_⟩
  simp only [madeCells, Array.toList_map, List.mem_map] at hx
  obtain ⟨k, -, rfl⟩ := hx
  rcases (show k % 3 = 0 ∨ k % 3 = 1 ∨ k % 3 = 2 by omega) with h | h | h <;> simp [h]
theorem run_mk3 (n : Nat) (hn : n ≤ 65536) : ∀ W : World, (Instr.makeSlice 119 (.int .i64 (n : Int)) (.int .i64 (n : Int))).run Tryz.prog W = .ok (.slice (some ⟨W.heap.size, 0, none⟩) n n) (W.alloc (.cells (madeCells #[Value.int .i64 0, .int .i64 0, .int .i64 0] (3 * n)) 113)) := by
  intro W
  have hinf : (Tryz.prog.info? 113).map (fun i => (i.zero, i.size, i.bytes)) = some (some (.agg #[.int .i64 0, .int .i64 0, .int .i64 0]), 3, 24) := by kernel_rfl
  cases hq : Tryz.prog.info? 113 with
  | none => simp [hq] at hinf
  | some i0 =>
    simp [hq] at hinf
    obtain ⟨h1, h2, h3⟩ := hinf
    have hr := run_make (P := Tryz.prog) W 119 113 i0 _ Tryz.underlying119 hq h1 .i64 .i64 n n (by omega) (Int.le_refl _) (by rw [h3]; omega) (by omega)
    simp only [Int.toNat_natCast, h2, Value.cells, Nat.mul_comm n 3] at hr
    exact hr
set_option maxRecDepth 100000 in
/-- what 'branch' answers where the further table is there -/
theorem branchOld {w : World} {B g sy : Nat} {E : Nat → Ent} {fs : List Sub} {vf : Value} (h : TabM w B g sy E fs vf) (v u : Value) (head : Nat) (_hh : head < 512) {k : Nat} {f : Sub} (hk : (E (turnN head 9)).t = k + 1) (hf : fs[k]? = some f) (hfs : fs.length ≤ 512) :
    Calls Tryz.prog 65 #[.pointer (some ⟨g, 0, none⟩), v, u, .int .i64 head] w fun e w' => e = .returned (subV f) ∧ ∃ x, w' = ext w x := by
  have htl := turnN_lt head 9
  have HTP := Lib.hid (turnP head 9 (by omega))
  have hct := h.ct (turnN head 9) htl
  rw [hk] at hct
  have hcv := h.cv
  have hg := h.blk.2
  have hkl : k < fs.length := (List.getElem?_eq_some_iff.1 hf).1
  obtain ⟨of, cf, gf, rfl, hdf, -, hcf, -⟩ := h.outer.cases
  rw [List.length_map] at hdf hcf hcv
  have hixf := index_any (P := Tryz.prog) 115 119 Tryz.underlying115 (by kernel_rfl) hdf
  have hixk := fun W => hixf W .i64 (k : Int) (by omega) (by omega)
  rw [Int.toNat_natCast, Nat.zero_add] at hixk
  have hck := hcf k hkl
  have hsub : (fs.map subV).getD k undef = subV f := by rw [List.getD_eq_getElem?_getD, List.getElem?_map, hf]; rfl
  rw [hsub] at hck
  have hgf := hdf.hblk (by omega)
  have hixa := fun W => index_arr g 2 (turnN head 9) W htl
  have hk512 : k ≤ 512 := by omega
  generalize subV f = vk at *
  generalize turnN head 9 = x at *
  clear h hixf hcf hdf hsub hf hk
  go_enter Tryz.func65, Tryz.ntmps65
  go_wp2_with (go_at_call 90; refine (HTP.out _).mono ?_; rintro en w' ⟨rfl, hw'⟩; rw [hw']; clear hw')
  go_quiet (fail)
  go_wp2
  go_ret
  exact ⟨rfl, (ex_ext (by repeat (first | exact Below.refl _ _ | assumption | refine b_drewN ?_ _ | refine Below.drew ?_ | refine b_ext' ?_ _ | refine b_alloc' ?_ _)))⟩
set_option maxRecDepth 100000 in
set_option maxHeartbeats 1000000 in
/-- .. where it is new -/
theorem branchNew {w : World} {B g sy : Nat} {E : Nat → Ent} {fs : List Sub} {vf : Value} (h : TabM w B g sy E fs vf) (v u : Value) (L : List Nat) (hv : IntsAt w v (nls L)) (hu : IntsAt w u (nls (codesN L))) (hlen : L.length ≤ 320) (h15 : ∀ x ∈ L, x ≤ 15) (hk : kraftN L ≤ 32768)
    (head : Nat) (hh : head < 512) (ht : (E (turnN head 9)).t = 0) (hfs : fs.length ≤ 512) :
    Calls Tryz.prog 65 #[.pointer (some ⟨g, 0, none⟩), v, u, .int .i64 head] w fun e w' => ∃ (gn m : Nat) (vf' : Value), e = .returned (subV ⟨gn, m, fun _ => Ent.zero⟩) ∧ m ≤ 6 ∧ (∀ j, j < L.length → headN L j (turnN head 9) → L.getD j 0 ≤ 9 + m) ∧
      TabM w' B g sy (updN E (turnN head 9) ⟨0, m, fs.length + 1⟩) (fs ++ [⟨gn, m, fun _ => Ent.zero⟩]) vf' ∧ Below B w w' := by
  have htl := turnN_lt head 9
  have HTT := Lib.hid (turnN_turnN head 9 (by simpa using hh))
  have HTP := Lib.hid (turnP head 9 (by omega))
  have HLO := Lib.hid (longestP v u L hv hu hlen h15 hk head (by omega))
  have hct := h.ct (turnN head 9) htl
  rw [ht] at hct
  have hg := h.blk.2
  have hgB := h.blk.1
  have hixa := fun W => index_arr g 2 (turnN head 9) W htl
  have HM := Lib.hid h
  have HUP : Hid (∀ m, (∀ j, j < L.length → 9 < L.getD j 0 → codeN L j / 2 ^ (L.getD j 0 - 9) = head → L.getD j 0 ≤ 9 + m) → ∀ j, j < L.length → headN L j (turnN head 9) → L.getD j 0 ≤ 9 + m) := Lib.hid (fun m hm j hj hhd => hm j hj hhd.1 (by rw [hhd.2, HTT.out]))
  have hfsL := hfs
  generalize turnN head 9 = x at *
  clear h hv hu h15 hk HTT
  go_enter Tryz.func65, Tryz.ntmps65
  go_wp2_with (first | (go_at_call 90; refine (HTP.out _).mono ?_; rintro en w' ⟨rfl, hw'⟩; rw [hw']; clear hw') | (go_at_call 91; refine HLO.out.mono ?_; rintro en w1 ⟨⟨m, rfl, hm6, hmh⟩, y, rfl⟩; have HM6X := Lib.hid hm6; have HMH := Lib.hid (HUP.out m hmh); clear hmh))
  have HM1 := Lib.hid (HM.out.up (ext_below w y))
  have HB1 : Hid (Below B w (ext w y)) := Lib.hid ((ext_below w y).mono (by omega))
  clear HM HUP HLO hct hg
  generalize ext w y = w1 at *
  have hcv := HM1.out.cv
  have hg := HM1.out.blk.2
  have hf38 := HM1.out.free 1538
  obtain ⟨n, hn⟩ : ∃ n, n = 2 ^ m := ⟨_, rfl⟩
  have hn64 : n ≤ 64 := by rw [hn]; exact Nat.le_trans (Nat.pow_le_pow_right (by decide) hm6) (by decide)
  have hni : (2 : Int) ^ m = (n : Int) := by rw [hn]; norm_cast
  have HN := Lib.hid hn
  clear hn
  have hmk := run_mk3 n (by omega)
  have HZ := Lib.hid (made3 n)
  generalize madeCells #[Value.int .i64 0, .int .i64 0, .int .i64 0] (3 * n) = Z at *
  refine wp_region_tail (fun w' => ∃ x, w' = chg w1 vf.ownBlock x) [0,1,2,3,4,5,6,7] [8,9,10,11,12] [13] (by kernel_rfl) (by kernel_rfl) (ex_chg (grown_drew _ _)) ?_
  have hne := HM1.out.ne
  have hne2 : some g ≠ vf.ownBlock := fun e => hne e.symm
  simp only [pick, List.map_cons, List.map_nil, List.getD_cons_zero, List.getD_cons_succ]
  repeat (go_big_quiet_step (fail))
  refine wpQuiet_nil ?_
  (unfold wpAct; go_wp2; refine ⟨ex_chg (grown_below (by repeat (first | exact Below.refl _ _ | assumption | refine b_drewN ?_ _ | refine Below.drew ?_ | refine b_ext' ?_ _ | refine b_alloc' ?_ _)) _), ?_⟩)
  (unfold wpAct; go_wp2; refine ⟨ex_chg (grown_below (by repeat (first | exact Below.refl _ _ | assumption | refine b_drewN ?_ _ | refine Below.drew ?_ | refine b_ext' ?_ _ | refine b_alloc' ?_ _)) _), ?_⟩)
  unfold wpAct
  obtain ⟨W, hW⟩ : ∃ W, W = ((w1.alloc (.cells Z 113)).alloc (.cells #[Value.slice (some ⟨w1.heap.size, 0, none⟩) n n] 119)).drew := ⟨_, rfl⟩
  have hbW : Below w1.heap.size w1 W := by rw [hW]; exact (by repeat (first | exact Below.refl _ _ | assumption | refine b_drewN ?_ _ | refine Below.drew ?_ | refine b_ext' ?_ _ | refine b_alloc' ?_ _))
  have HX : Hid (Sl W (.slice (some ⟨w1.heap.size + 1, 0, none⟩) 1 1) [.slice (some ⟨w1.heap.size, 0, none⟩) n n]) := Lib.hid (by
    have h1 := (sl_lit (w1.alloc (.cells Z 113)) #[Value.slice (some ⟨w1.heap.size, 0, none⟩) n n] 119 (by simp)).up (below_drewN _ 1)
    rw [← World.drew_is_drewN] at h1
    rw [hW]
    simpa using h1)
  have hZs : Z.size = 3 * n := by rw [← Array.length_toList, HZ.out, flatE_length]
  have HR : Hid (Own W B 113 (.slice (some ⟨w1.heap.size, 0, none⟩) (3 * n) (3 * n)) (flatE (fun _ => Ent.zero) n)) := Lib.hid (by
    have h1 := own_lit w1 B Z 113 (by omega) (by omega)
    rw [HZ.out, hZs] at h1
    have h2 := (h1.up (below_alloc _ (.cells #[Value.slice (some ⟨w1.heap.size, 0, none⟩) n n] 119))).up (below_drewN _ 1)
    rw [← World.drew_is_drewN, ← hW] at h2
    exact h2)
  have HM2 := Lib.hid (HM1.out.up hbW)
  have HT2 : Hid (∀ u ∈ [Value.slice (some ⟨w1.heap.size, 0, none⟩) n n], u.oneCell' = true) := Lib.hid (by intro u hu; simp at hu; subst hu; rfl)
  have HT3 : Hid ((fs.map subV).length + 1 ≤ 4294967296) := Lib.hid (by rw [List.length_map]; omega)
  have hBW : B ≤ W.heap.size := by have := hbW.size; omega
  have hgW : w1.heap.size + 1 < W.heap.size := by rw [hW]; simp
  have HGW : Hid (Below B w W) := Lib.hid (HB1.out.trans (hbW.mono (by omega)))
  have HCW : Hid (w1.grownBy W vf.ownBlock) := Lib.hid (grown_below hbW _)
  rw [← hW]
  clear hW hZs
  go_wp2_with (at_builtin; refine wpList_app rfl (.tmp 29) (.tmp 34) 115 rfl B 119 (.slice none 0 0) 24 Tryz.underlying115 (by kernel_rfl) rfl (by decide) vf (fs.map subV) rfl HM2.out.outer (.slice (some ⟨w1.heap.size + 1, 0, none⟩) 1 1) [.slice (some ⟨w1.heap.size, 0, none⟩) n n] rfl HX.out HT2.out HT3.out hBW ?_; intro v' w5 hown1 hg1 hk1; have HO1 := Lib.hid hown1; have HG1 := Lib.hid hg1; have HK1 := Lib.hid hk1; clear hown1 hg1 hk1)
  refine ⟨ex_chg (grown_trans HCW.out HG1.out), ?_⟩
  (unfold wpAct; go_wp2; refine ⟨ex_chg (grown_trans HCW.out HG1.out), ?_⟩)
  (unfold wpAct; go_wp2; refine ⟨ex_chg (grown_trans HCW.out HG1.out), ?_⟩)
  have hpush := HM2.out.push (w5 := w5) (v' := v') (gn := w1.heap.size) (m := m) (F := fun _ => Ent.zero) (by rw [← HN.out]; exact HR.out) (by omega) (fun k f hf e => by have := (HM1.out.rows k f hf).1.blk.2; omega) (fun e => by have := HM1.out.outer.lt _ e; omega) (by unfold subV; rw [← HN.out]; exact HO1.out) HG1.out HK1.out
  have hB5 : Below B w w5 := below_grown HGW.out hBW HM2.out.outer HG1.out
  have hgrow5 := HG1.out.size
  obtain ⟨o5, c5, g5, hv5, -⟩ := HO1.out.cases
  rw [List.length_append, List.length_map, List.length_singleton] at hv5
  obtain ⟨l5, hl5⟩ : ∃ l5, l5 = fs.length + 1 := ⟨_, rfl⟩
  rw [← hl5] at hv5
  have HL5 := Lib.hid hl5
  clear hl5
  have HPU := Lib.hid hpush
  have HB5 := Lib.hid hB5
  have hg5 : g < w5.heap.size := by omega
  have hc5 : w5.cell? ⟨g, 1538, none⟩ = some vf := (HM2.out.box.keep HG1.out (.inr hne2)).cell (i := 1538) (by rw [box_len]; omega) |>.trans (by rw [List.getD_eq_getElem?_getD, List.getElem?_append_right (by simp [flatE_length])]; simp [flatE_length])
  have hf5 : w5.frozen? ⟨g, 1538, none⟩ = false := (HM2.out.box.keep HG1.out (.inr hne2)).free 1538
  clear hpush hB5 HO1 HG1 HK1 HX HM2 HT2 HT3 HR HGW HCW HM1 hcv hf38 hg hne hne2
  subst hv5
  unfold wpAct
  unfold wpAct
  go_wp2
  refine ⟨trivial, ?_⟩
  unfold wpAct
  have HM6 := Lib.hid HPU.out.1
  have HB6 : Hid (Below B w (w5.setCell ⟨g, 1538, none⟩ (.slice o5 l5 c5))) := Lib.hid (HB5.out.grown HPU.out.2 (by have := HB5.out.size; omega) (fun k hk => by cases hk; exact hgB))
  clear HPU HB5 hc5 hf5 hg5
  generalize w5.setCell ⟨g, 1538, none⟩ (.slice o5 l5 c5) = w6 at *
  have hcv := HM6.out.cv
  have hg := HM6.out.blk.2
  have hixa2 := fun W => index_arr g 2 x W htl
  have hlen5 : l5 ≤ 513 := by have := HL5.out; omega
  have HS3 := Lib.hid (set3 [Value.bool true, .int .i64 (sy : Nat)] [.slice o5 l5 c5] E 512 x ⟨0, m, l5⟩ htl)
  have HBX := Lib.hid HM6.out.box
  go_wp2
  refine wp_region_tailg [0,1,2,3,4,5,6,7,8,9,10,11] [] [12] (by kernel_rfl) (by kernel_rfl) ?_
  simp only [pick, List.map_cons, List.map_nil, List.getD_cons_zero, List.getD_cons_succ]
  repeat (go_big_quiet_step (fail))
  refine wpQuiet_nil ?_
  unfold wpAct
  unfold wpAct
  have HBX7 := Lib.hid (HBX.out.up (b_drew1 (Below.refl w6.heap.size w6)))
  have HE1 := Lib.hid (entV_one ⟨0, m, l5⟩)
  have hbl := box_len E sy (.slice o5 l5 c5)
  go_wp2_with (refine wpList_store_part rfl 113 _ _ rfl B 117 g 1539 1539 (2 + 3 * x) rfl (entV ⟨0, m, l5⟩) rfl (by kernel_rfl) _ HBX7.out (by rw [hbl]; show 2 + 3 * x + 3 ≤ 1539; omega) HE1.out ?_; intro w8 hown8 hg8; have HO8 := Lib.hid hown8; have HG8 := Lib.hid hg8; clear hown8 hg8)
  refine ⟨trivial, ?_⟩
  unfold wpAct
  have HM8 : Hid (TabM w8 B g sy (updN E x ⟨0, m, l5⟩) (fs ++ [⟨w1.heap.size, m, fun _ => Ent.zero⟩]) (.slice o5 l5 c5)) := Lib.hid ((HM6.out.up (b_drew1 (Below.refl w6.heap.size w6))).wrote HG8.out (by
    have h1 := HO8.out
    have h2 := HS3.out
    simp only [pre2] at h2
    rw [show (entV ⟨0, m, l5⟩).size = 3 from rfl, h2] at h1
    exact h1))
  have HB8 : Hid (Below B w w8) := Lib.hid ((b_drew1 HB6.out).grown HG8.out (by have := HB6.out.size; show B ≤ w6.heap.size; omega) (fun k hk => by cases hk; exact hgB))
  clear HM6 HB6 HO8 HG8 HBX HBX7 HS3 hcv hg hbl HE1 hixa
  have hcv := HM8.out.cv
  have hg := HM8.out.blk.2
  have hct := HM8.out.ct x htl
  rw [show (updN E x ⟨0, m, l5⟩ x).t = l5 by unfold updN; rw [if_pos rfl]] at hct
  obtain ⟨o8, c8, g8, hv8, hdf, -, hcf, -⟩ := HM8.out.outer.cases
  have hll : ((fs ++ [(⟨w1.heap.size, m, fun _ => Ent.zero⟩ : Sub)]).map subV).length = l5 := by have := HL5.out; simp; omega
  rw [hll] at hv8 hdf hcf
  obtain ⟨rfl, -, rfl⟩ : o5 = o8 ∧ True ∧ c5 = c8 := by
    injection hv8 with e1 e2 e3
    exact ⟨e1, trivial, e3⟩
  have hixf := index_any (P := Tryz.prog) 115 119 Tryz.underlying115 (by kernel_rfl) hdf
  have hl5i : (l5 : Int) - 1 = (fs.length : Int) := by have := HL5.out; omega
  have hixk := fun W => hixf W .i64 (fs.length : Int) (by omega) (by have := HL5.out; omega)
  rw [Int.toNat_natCast, Nat.zero_add] at hixk
  have hck := hcf fs.length (by have := HL5.out; omega)
  have hsub : ((fs ++ [(⟨w1.heap.size, m, fun _ => Ent.zero⟩ : Sub)]).map subV).getD fs.length undef = subV ⟨w1.heap.size, m, fun _ => Ent.zero⟩ := by
    rw [List.getD_eq_getElem?_getD, List.getElem?_map, List.getElem?_append_right (Nat.le_refl _), Nat.sub_self]; rfl
  rw [hsub] at hck
  have hg8 := hdf.hblk (by have := HL5.out; omega)
  clear hdf hcf hixf hsub hv8 hll
  obtain ⟨vk, hvk⟩ : ∃ vk, vk = subV ⟨w1.heap.size, m, fun _ => Ent.zero⟩ := ⟨_, rfl⟩
  rw [← hvk] at hck
  have HVK := Lib.hid hvk
  clear hvk
  go_wp2
  go_quiet (fail)
  go_wp2
  go_ret
  refine ⟨w1.heap.size, m, .slice o5 l5 c5, ?_, HM6X.out, HMH.out, ?_, ?_⟩
  · rw [← HVK.out]; rfl
  · rw [← HL5.out]; exact HM8.out.up (below_drewN w8 _)
  · exact HB8.out.trans ((below_drewN w8 _).mono (by omega))
end Go.Cm

/- The walk of the making of a table. Conditions: the argument reads as a list. -/
namespace Go.Cm
open Go.RowKit Go.Proofs

theorem Own.nil3 {w : World} {B E g n cap : Nat} {xs : List Value} (h : Own w B E (.slice (some ⟨g, 0, none⟩) n cap) xs) : Own w B E (.slice (some ⟨g, 0, none⟩) n cap) ([] ++ xs ++ []) := by
  rw [List.nil_append, List.append_nil]; exact h
/-- 'branch', whether the further table is there or not -/
theorem branchAny {w : World} {B g sy i : Nat} {E : Nat → Ent} {fs : List Sub} {vf : Value} (h : TabM w B g sy E fs vf) (v u : Value) (L : List Nat) (hv : IntsAt w v (nls L)) (hu : IntsAt w u (nls (codesN L))) (hlen : L.length ≤ 320) (h15 : ∀ x ∈ L, x ≤ 15) (hk : kraftN L ≤ 32768)
    (hok : TabOk L i E fs) (hi : i < L.length) (h9 : 9 < L.getD i 0) (head : Nat) (hhd : head = codeN L i / 2 ^ (L.getD i 0 - 9)) (hfs : fs.length ≤ i) :
    Calls Tryz.prog 65 #[.pointer (some ⟨g, 0, none⟩), v, u, .int .i64 head] w fun e w' => ∃ (k : Nat) (f : Sub) (E' : Nat → Ent) (fs' : List Sub) (vf' : Value), e = .returned (subV f) ∧ f.m ≤ 6 ∧ fs'[k]? = some f ∧ fs'.length ≤ i + 1 ∧
      TabM w' B g sy E' fs' vf' ∧ Below B w w' ∧ TabOk L (i + 1) E' (fs'.set k ⟨f.g, f.m, fillN f.F (codeN L i % 2 ^ (L.getD i 0 - 9)) (L.getD i 0 - 9) ⟨i, L.getD i 0, 0⟩⟩) := by
  have hc := code_lt h15 hk i hi
  have hh : head < 512 := by
    rw [hhd, Nat.div_lt_iff_lt_mul (Nat.pow_pos (by decide)), show (512 : Nat) = 2 ^ 9 by decide, ← Nat.pow_add, show 9 + (L.getD i 0 - 9) = L.getD i 0 by omega]
    exact hc
  have hx : turnN head 9 < 512 := by have := turnN_lt head 9; simpa using this
  have hH : headN L i (turnN head 9) := ⟨h9, by rw [turnN_turnN head 9 (by simpa using hh)]; exact hhd.symm⟩
  cases ht : (E (turnN head 9)).t with
  | zero =>
    refine (branchNew h v u L hv hu hlen h15 hk head hh ht (by omega)).mono ?_
    rintro e w' ⟨gn, m, vf', rfl, hm6, hml, hM, hB⟩
    refine ⟨fs.length, ⟨gn, m, fun _ => Ent.zero⟩, _, _, vf', rfl, hm6, by rw [List.getElem?_append_right (Nat.le_refl _), Nat.sub_self]; rfl, by simp; omega, hM, hB, ?_⟩
    have hf := hok.fresh hi h15 hk h9 hx hH ht hm6 hml (g := gn) (b := m)
    rw [List.set_append_right _ _ (Nat.le_refl _), Nat.sub_self]
    exact hf
  | succ k =>
    obtain ⟨f, hf, hm, -⟩ := hok.far _ k hx ht
    have hB : B ≤ w.heap.size := by have := h.blk; omega
    refine (branchOld h v u head hh ht hf (by omega)).mono ?_
    rintro e w' ⟨rfl, y, rfl⟩
    exact ⟨k, f, E, fs, vf, rfl, hm, hf, by omega, h.up (ext_below _ _), (ext_below w y).mono hB, hok.long hi h15 hk h9 hx hH ht hf⟩
theorem wpList_build2 {P : Program} {ops : Array Oper} {rest : List Oper} {o : Oper} {a : Act} {w : World} {Q : Exit → Act → World → Prop} (hgd : o.guard = none) (t : TypeId) (i j : Nat) (x y : Operand) (ho : o.op = .build t #[(i, x), (j, y)])
    (vx vy : Value) (hx : a.eval x = vx) (hy : a.eval y = vy) (C : Array Value) (hb : ∀ W, (Instr.build t #[(i, vx), (j, vy)]).run P W = .ok (.agg C) W)
    (h : wpList P ops Q rest (a.put o.dst (.agg C)) w) : wpList P ops Q (o :: rest) a w := by
  refine wpList_plain hgd fun K hK => ?_
  unfold Oper.wp execOp
  simp only [ho, List.map_toArray, List.map_cons, List.map_nil, hx, hy, Sem.run_bind, hb, Result.andThen_ok]
  exact hK _ _ h
def tabC (n : Nat) : Array Value := ([Value.bool true, .int .i64 (n : Nat)] ++ List.replicate 1536 (Value.int .i64 0) ++ [Value.slice none 0 0]).toArray
theorem build_tab (n : Nat) (W : World) : (Instr.build 117 #[(0, .bool true), (1, .int .i64 (n : Nat))]).run Tryz.prog W = .ok (.agg (tabC n)) W := by
  kernel_rfl
theorem tabC_list (n : Nat) : (tabC n).toList = [Value.bool true, .int .i64 (n : Nat)] ++ flatE (fun _ => Ent.zero) 512 ++ [Value.slice none 0 0] := by
  unfold tabC
  rw [flatE_zero, List.toList_toArray]
theorem tab_new (w : World) (n : Nat) (A : Array Value) (hA : A = tabC n) : TabM (w.alloc (.cells A 117)) w.heap.size w.heap.size n (fun _ => Ent.zero) [] (.slice none 0 0) := by
  subst hA
  have hs : (tabC n).size = 1539 := by rw [← Array.length_toList, tabC_list, box_len]
  have h := own_lit w w.heap.size (tabC n) 117 (by rw [hs]; decide) (Nat.le_refl _)
  rw [tabC_list, hs] at h
  exact ⟨h, Own.nil _ _ _, by simp [Value.ownBlock], fun k f hf => by simp at hf, fun k k' f f' hf => by simp at hf⟩
theorem TabM.mono {w : World} {B B' g sy : Nat} {E : Nat → Ent} {fs : List Sub} {vf : Value} (h : TabM w B g sy E fs vf) (hB : B' ≤ B) : TabM w B' g sy E fs vf :=
  ⟨h.box.mono hB, h.outer.mono hB, h.ne, fun k f hf => ⟨(h.rows k f hf).1.mono hB, (h.rows k f hf).2⟩, h.apart⟩
/-- a table of the lengths L in block g -/
def TabAt (w : World) (B g : Nat) (L : List Nat) : Prop := ∃ E fs vf, TabM w B g L.length E fs vf ∧ TabOk L L.length E fs
/-- what 'New' answers -/
def RetTab (l : List Int) (w : World) (e : Ending) (w' : World) : Prop :=
  Below w.heap.size w w' ∧ ((errI l = 0 ∧ ∃ g, e = .returned (.tuple #[.pointer (some ⟨g, 0, none⟩), .int .i64 0]) ∧ TabAt w' w.heap.size g (l.map Int.toNat)) ∨ (errI l ≠ 0 ∧ e = .returned (.tuple #[.pointer none, .int .i64 (errI l : Nat)])))
theorem IntsAt.upB {w w' : World} {v : Value} {l : List Int} {n : Nat} (h : IntsAt w v l) (hn : w.heap.size ≤ n) (hb : Below n w w') : IntsAt w' v l := h.up (hb.mono hn)
theorem i64_mask (c r : Nat) (hr : r ≤ 6) (hc : c ≤ 32768) : bits .and .i64 (c : Int) (((2 ^ r : Nat) : Int) - 1) = ((c % 2 ^ r : Nat) : Int) := by
  have hp : 2 ^ r ≤ 2 ^ 6 := Nat.pow_le_pow_right (by decide) hr
  have hp1 : 1 ≤ 2 ^ r := Nat.pow_pos (by decide)
  have e : ((2 ^ r : Nat) : Int) - 1 = ((2 ^ r - 1 : Nat) : Int) := by omega
  rw [e, (bits_nat .i64 63 (by decide) (fun n h0 h1 => by rw [IntKind.wrap_i64]; omega) c (2 ^ r - 1) (by omega) (by omega)).1, Nat.and_two_pow_sub_one_eq_mod]
set_option maxRecDepth 100000 in
set_option maxHeartbeats 4000000 in
theorem newP (v : Value) (l : List Int) (w : World) (h : IntsAt w v l) : Calls Tryz.prog 38 #[v] w (RetTab l w) := by
  have HCO : Hid (Calls Tryz.prog 63 #[v] w (RetCodes l w)) := Lib.hid (codesP v l w h)
  unfold RetTab
  unfold RetCodes at HCO
  by_cases he : errI l = 0
  · rw [he] at HCO ⊢
    obtain ⟨L, rfl, hlen, h15, hk⟩ := errI_zero he
    rw [nls_toNat, if_pos rfl] at HCO
    rw [nls_toNat]
    have H15 : Hid (∀ i, i < L.length → L.getD i 0 ≤ 15) := Lib.hid (fun i hi => h15 _ (getD_mem L i 0 hi))
    have HCL : Hid (∀ i, i < L.length → codeN L i < 2 ^ L.getD i 0) := Lib.hid (code_lt h15 hk)
    have HV := Lib.hid h
    obtain ⟨oa, cap, b, off, rfl, hd, hc⟩ := h.open
    rw [nls_length] at hd hc
    rw [nls_length] at HCO HV ⊢
    have hix := index_any (P := Tryz.prog) 35 3 Tryz.underlying35 (by kernel_rfl) hd
    have hm := hd.len
    have hbk := hd.hblk
    have HC : Hid (∀ i, i < L.length → w.cell? ⟨b, off + i, none⟩ = some (.int .i64 (L.getD i 0 : Nat))) := Lib.hid (fun i hi => by rw [hc i hi, nls_getD])
    have H15' := Lib.hid h15
    have HK := Lib.hid hk
    clear h hd hc he h15 hk
    have hbd := build_tab L.length
    obtain ⟨A, hA⟩ : ∃ A, A = tabC L.length := ⟨_, rfl⟩
    rw [← hA] at hbd
    have HA := Lib.hid hA
    clear hA
    go_enter Tryz.func38, Tryz.ntmps38
    go_wp2_with (first | (go_at_call 63; refine HCO.out.mono ?_; rintro e w1 ⟨vc, rfl, hq3, hq4⟩; have HQ3 := Lib.hid hq3; have HQ4 := Lib.hid hq4; clear hq3 hq4) | (refine wpList_build2 rfl 117 0 1 _ _ rfl (.bool true) (.int .i64 (L.length : Nat)) rfl rfl A hbd ?_))
    have HT0 := Lib.hid (tab_new w1 L.length A HA.out)
    have hsz1 := HQ4.out.size
    have HBL1 := Lib.hid (below_alloc w1 (.cells A 117))
    generalize w1.alloc (.cells A 117) = w2 at *
    clear hbd HA HCO
    have hgg := hsz1
    have HIV1 : Hid (IntsAt w1 (.slice oa L.length cap) (nls L)) := Lib.hid (HV.out.up HQ4.out)
    have HIC1 : Hid (IntsAt w1 vc (nls (codesN L))) := Lib.hid HQ3.out.sl
    obtain ⟨oc, cc, bc, fc, rfl, hdc, hcc⟩ := (show IntsAt w1 vc (nls (codesN L)) from HQ3.out.sl).open
    rw [show (nls (codesN L)).length = L.length by rw [nls_length, codesN_length]] at hdc hcc HIC1 ⊢
    have hixc := index_any (P := Tryz.prog) 35 3 Tryz.underlying35 (by kernel_rfl) hdc
    have HCC : Hid (∀ i, i < L.length → w1.cell? ⟨bc, fc + i, none⟩ = some (.int .i64 (codeN L i : Nat))) := Lib.hid (fun i hi => by rw [hcc i hi, nls_getD, codesN_getD L i hi])
    have HC1 : Hid (∀ i, i < L.length → w1.cell? ⟨b, off + i, none⟩ = some (.int .i64 (L.getD i 0 : Nat))) := Lib.hid (fun i hi => (HQ4.out.cell (p := ⟨b, off + i, none⟩) (hbk (by omega))).trans (HC.out i hi))
    have hbkc := hdc.hblk
    have hbk1 : 0 < L.length → b < w1.heap.size := fun h => by have := hbk h; omega
    clear hdc hcc HQ3 HC hbk HV
    go_loopg [25] L.length (fun gk iv wr => ∃ (i : Nat) (E : Nat → Ent) (fs : List Sub) (vf : Value), i ≤ L.length ∧ iv = .int .i64 i ∧ TabM wr w1.heap.size w1.heap.size L.length E fs vf ∧ Hid (TabOk L i E fs) ∧ fs.length ≤ i ∧ Below w1.heap.size w1 wr ∧ gk = L.length - i)
    case atStart => exact ⟨0, _, _, _, Nat.zero_le _, rfl, HT0.out, Lib.hid (TabOk.start L), Nat.le_refl _, HBL1.out, rfl⟩
    case round =>
      clear HT0 HBL1
      obtain ⟨i, E, fs, vf, hi, rfl, hM, HOK, hfs, hbel, rfl⟩ := hrel
      have HM := Lib.hid hM
      have HBL := Lib.hid hbel
      have hszr := hbel.size
      clear hM hbel
      by_cases hlt : i < L.length
      · have hb1 := hbk1 (by omega)
        have hbc1 := hbkc (by omega)
        have hcell := (HBL.out.cell (p := ⟨b, off + i, none⟩) hb1).trans (HC1.out i hlt)
        have hcellc := (HBL.out.cell (p := ⟨bc, fc + i, none⟩) hbc1).trans (HCC.out i hlt)
        have hbr : b < wr.heap.size := by omega
        have hbcr : bc < wr.heap.size := by omega
        have hx15 := H15.out i hlt
        have hcl := HCL.out i hlt
        have HNO := Lib.hid (HOK.out.none)
        have HSH := Lib.hid (fun h0 h9 => HOK.out.short hlt H15'.out HK.out h0 h9)
        have hc15 : codeN L i ≤ 32768 := by
          have : 2 ^ L.getD i 0 ≤ 2 ^ 15 := Nat.pow_le_pow_right (by decide) hx15
          omega
        have HGX : Hid (L.getD i 0 = L.getD i 0) := Lib.hid rfl
        generalize hx : L.getD i 0 = x at *
        generalize hcd : codeN L i = c at *
        have HX := Lib.hid hx
        have HCD := Lib.hid hcd
        clear hx hcd
        by_cases hx0 : x = 0
        · have e0 : ((x : Int) == 0) = true := by rw [hx0]; rfl
          have HN2 := Lib.hid (HNO.out hx0)
          clear hx0
          go_wp2
          go_roundg (L.length - (i + 1))
          case measure => omega
          case rel => exact ⟨i + 1, E, fs, vf, by omega, by go_num, HM.out, HN2, by omega, HBL.out, rfl⟩
        · have e0 : ((x : Int) == 0) = false := by simpa using hx0
          have hg0 := HM.out.blk.2
          by_cases hx9 : x ≤ 9
          · have hx9i : (x : Int) ≤ 9 := by omega
            have HS2 := Lib.hid (HSH.out hx0 hx9)
            clear hx0
            go_wp2
            have HFL : Hid (Calls Tryz.prog 64 #[.slice (some ⟨w1.heap.size, 2, none⟩) 512 512, .int .i64 c, .int .i64 x, .agg (entV ⟨i, x, 0⟩)] wr.drew fun en w' => en = .returned (.tuple #[]) ∧ Own w' w1.heap.size 117 (.slice (some ⟨w1.heap.size, 0, none⟩) 1539 1539) ([.bool true, .int .i64 (L.length : Nat)] ++ flatE (fillN E c x ⟨i, x, 0⟩) 512 ++ [vf]) ∧ wr.drew.grownBy w' (some w1.heap.size)) := Lib.hid (fillP (HM.out.box.up (b_drew1 (Below.refl wr.heap.size wr))) rfl c x (by omega) (by decide) ⟨i, x, 0⟩)
            refine wp_region_tailg [0,1,2,3,4,5,6,7,8,9,10,11] [] [12] (by kernel_rfl) (by kernel_rfl) ?_
            simp only [pick, List.map_cons, List.map_nil, List.getD_cons_zero, List.getD_cons_succ]
            repeat (go_big_quiet_step (fail))
            refine wpQuiet_nil ?_
            unfold wpAct
            unfold wpAct
            go_wp2_with (go_at_call 64; refine HFL.out.mono ?_; rintro en w5 ⟨rfl, hq5, hq6⟩; have HQ5 := Lib.hid hq5; have HQ6 := Lib.hid hq6; clear hq5 hq6)
            refine ⟨trivial, ?_⟩
            unfold wpAct
            have HM5 : Hid (TabM w5 w1.heap.size w1.heap.size L.length (fillN E c x ⟨i, x, 0⟩) fs vf) := Lib.hid ((HM.out.up (b_drew1 (Below.refl wr.heap.size wr))).wrote HQ6.out HQ5.out)
            have HBL5 : Hid (Below w1.heap.size w1 w5) := Lib.hid ((b_drew1 HBL.out).grown HQ6.out (by show w1.heap.size ≤ wr.heap.size; omega) (fun k hk => by cases hk; exact Nat.le_refl _))
            clear HM HBL HQ5 HQ6 HFL
            go_wp2
            go_roundg (L.length - (i + 1))
            case measure => omega
            case rel => exact ⟨i + 1, _, fs, vf, by omega, by go_num, HM5.out, HS2, by omega, HBL5.out, rfl⟩
          · have hx9i : ¬ (x : Int) ≤ 9 := by omega
            have e9 : (x : Int) - 9 = ((x - 9 : Nat) : Int) := by omega
            have hd512 : c / 2 ^ (x - 9) < 512 := by
              rw [Nat.div_lt_iff_lt_mul (Nat.pow_pos (by decide)), show (512 : Nat) = 2 ^ 9 by decide, ← Nat.pow_add, show 9 + (x - 9) = x by omega]
              exact hcl
            have eh : (c : Int) / 2 ^ (x - 9) = ((c / 2 ^ (x - 9) : Nat) : Int) := by norm_cast
            have HBR : Hid (Calls Tryz.prog 65 #[.pointer (some ⟨w1.heap.size, 0, none⟩), .slice oa L.length cap, .slice oc L.length cc, .int .i64 (c / 2 ^ (x - 9) : Nat)] wr fun e w' => ∃ (k : Nat) (f : Sub) (E' : Nat → Ent) (fs' : List Sub) (vf' : Value), e = .returned (subV f) ∧ f.m ≤ 6 ∧ fs'[k]? = some f ∧ fs'.length ≤ i + 1 ∧
                TabM w' w1.heap.size w1.heap.size L.length E' fs' vf' ∧ Below w1.heap.size wr w' ∧ TabOk L (i + 1) E' (fs'.set k ⟨f.g, f.m, fillN f.F (c % 2 ^ (x - 9)) (x - 9) ⟨i, x, 0⟩⟩)) := Lib.hid (by
              have h1 := branchAny HM.out (.slice oa L.length cap) (.slice oc L.length cc) L (HIV1.out.upB (Nat.le_refl _) HBL.out) (HIC1.out.upB (Nat.le_refl _) HBL.out) hlen H15'.out HK.out HOK.out hlt (by rw [HX.out]; omega) (c / 2 ^ (x - 9)) (by rw [HX.out, HCD.out]) hfs
              rw [HX.out, HCD.out] at h1
              exact h1)
            have hr6 : x - 9 ≤ 6 := by omega
            have hr1 : 1 ≤ x - 9 := by omega
            have HMSK : Hid (bits .and .i64 (c : Int) (((2 ^ (x - 9) : Nat) : Int) - 1) = ((c % 2 ^ (x - 9) : Nat) : Int)) := Lib.hid (i64_mask c (x - 9) hr6 hc15)
            generalize hr : x - 9 = r at *
            generalize c / 2 ^ r = head at *
            obtain ⟨q, hq⟩ : ∃ q, q = 2 ^ r := ⟨_, rfl⟩
            have hq64 : q ≤ 64 := by rw [hq]; exact Nat.le_trans (Nat.pow_le_pow_right (by decide) hr6) (by decide)
            have hqi : (2 : Int) ^ r = (q : Int) := by rw [hq]; norm_cast
            have hq1 : 1 ≤ q := by rw [hq]; exact Nat.pow_pos (by decide)
            rw [← hq] at HMSK
            rw [hqi] at eh
            have HQ := Lib.hid hq
            clear hq hcl hx0
            go_wp2_with (go_at_call 65; (with_reducible refine HBR.out.mono ?_; rintro en w5 ⟨k, f, E', fs', vf', rfl, hm6, hfk, hfl, hM5, hB5, hok5⟩; have HM5 := Lib.hid hM5; have HB5 := Lib.hid hB5; have HOK5 := Lib.hid hok5; have HFK := Lib.hid hfk; have HM6 := Lib.hid hm6; have hcellc5 := (hB5.cell (p := ⟨bc, fc + i, none⟩) hbc1).trans hcellc; have hbcr5 : bc < w5.heap.size := Nat.lt_of_lt_of_le hbcr (hB5.size); clear hM5 hB5 hok5 hfk hm6))
            have h2m : 2 ^ f.m ≤ 65536 := Nat.le_trans (Nat.pow_le_pow_right (by decide) HM6.out) (by decide)
            have HFL : Hid (Calls Tryz.prog 64 #[subV f, .int .i64 (c % 2 ^ r : Nat), .int .i64 r, .agg #[.int .i64 i, .int .i64 x, .int .i64 0]] w5 fun en w' => en = .returned (.tuple #[]) ∧
                Own w' w1.heap.size 113 (.slice (some ⟨f.g, 0, none⟩) (3 * 2 ^ f.m) (3 * 2 ^ f.m)) ([] ++ flatE (fillN f.F (c % 2 ^ r) r ⟨i, x, 0⟩) (2 ^ f.m) ++ []) ∧ w5.grownBy w' (some f.g)) := Lib.hid (fillP (o := 0) ((HM5.out.rows k f HFK.out).1.nil3) rfl (c % 2 ^ r) r (by omega) h2m ⟨i, x, 0⟩)
            rw [HMSK.out]
            rw [← HQ.out] at HFL
            with_reducible refine HFL.out.mono ?_
            rintro en w6 ⟨rfl, hq5, hq6⟩
            rw [List.nil_append, List.append_nil, HQ.out] at hq5
            have HM7 := Lib.hid (HM5.out.wroteSub HFK.out hq6 hq5)
            have HBL7 : Hid (Below w1.heap.size w1 w6) := Lib.hid ((HBL.out.trans HB5.out).grown hq6 (HBL.out.trans HB5.out).size (fun k hk => by cases hk; exact (HM5.out.rows _ f HFK.out).1.blk.1))
            have hfl7 : (fs'.set k ⟨f.g, f.m, fillN f.F (c % 2 ^ r) r ⟨i, x, 0⟩⟩).length ≤ i + 1 := by rw [List.length_set]; exact hfl
            clear hq5 hq6 HFL HM5 HB5 HM HBL h2m HBR HMSK hcellc5 hbcr5 hcell hcellc
            go_wp2
            go_roundg (L.length - (i + 1))
            case measure => omega
            case rel => exact ⟨i + 1, E', _, vf', by omega, by go_num, HM7.out, HOK5, hfl7, HBL7.out, rfl⟩
      · obtain rfl : i = L.length := by omega
        go_wp2
        go_ret2
        exact ⟨HQ4.out.trans (HBL.out.mono hsz1), .inl ⟨by trivial, _, rfl, E, fs, vf, HM.out.mono hsz1, HOK.out⟩⟩
  · have hne : ¬ (errI l : Int) = 0 := by omega
    rw [if_neg he] at HCO
    have HE := Lib.hid he
    clear he h
    generalize errI l = q at *
    go_enter Tryz.func38, Tryz.ntmps38
    go_wp2_with (go_at_call 63; refine HCO.out.mono ?_; rintro e w1 ⟨vc, rfl, hq3, hq4⟩; have HQ4 := Lib.hid hq4; clear hq3 hq4)
    go_ret2
    exact ⟨HQ4.out, .inr ⟨HE.out, rfl⟩⟩
end Go.Cm

/- The walks of the reading of a symbol by a table. Conditions: the table and the reader are there. -/
namespace Go.Cm
open Go.RowKit Go.Proofs

theorem Own.whole {w : World} {B T g n : Nat} {xs : List Value} (h : Own w B T (.slice (some ⟨g, 0, none⟩) n n) xs) : ∃ A, w.heap[g]? = some (.cells A T (0, 0)) ∧ A.size = n ∧ A.toList = xs := by
  have hl := h.len
  rcases h.1.2 with ⟨h1, _⟩ | ⟨g', cap, cur, h1, _, hg, hnc, hcm, hcs, htake⟩
  · cases h1
  · simp only [Value.slice.injEq, Option.some.injEq, Addr.mk.injEq, and_true] at h1
    obtain ⟨rfl, h2, rfl⟩ := h1
    have hs : cur.size = n := by omega
    refine ⟨cur, hg, hs, ?_⟩
    rw [← htake, List.take_of_length_le]
    rw [Array.length_toList]; omega
theorem ext3 {A : Array Value} {pre post : List Value} {E : Nat → Ent} {n x o : Nat} (hA : A.toList = pre ++ flatE E n ++ post) (ho : pre.length = o) (hx : x < n) : A.extract (o + 3 * x) (o + 3 * x + 3) = entV (E x) := by
  have hs : A.size = pre.length + 3 * n + post.length := by rw [← Array.length_toList, hA]; simp [flatE_length]; omega
  refine Array.ext (by simp [entV]; omega) fun k h1 h2 => ?_
  have hk : k < 3 := by simpa [entV] using h2
  rw [Array.getElem_extract]
  have hg : A[o + 3 * x + k]? = some (.int .i64 (cellE (E x) k : Nat)) := by
    rw [← Array.getElem?_toList, hA, List.append_assoc, List.getElem?_append_right (by omega), List.getElem?_append_left (by rw [flatE_length]; omega), show o + 3 * x + k - pre.length = 3 * x + k by omega]
    exact flatE_at E n x k hx hk
  have hg2 := (Array.getElem?_eq_some_iff.1 hg).2
  rw [hg2]
  rcases (show k = 0 ∨ k = 1 ∨ k = 2 by omega) with rfl | rfl | rfl <;> rfl
theorem results_one_cell {P : Program} {fn : Func} {tmps : Array Value} {w : World} {a t : Nat} {ad : Addr} {v : Value} (hf : fn.results = #[.cell a t]) (ha : tmps.getD a undef = .pointer (some ad)) (hl : (loadVar t ad).run P w = .ok v w) :
    (results fn tmps).run P w = .ok v w := by
  have ha' : tmps[a]?.getD undef = .pointer (some ad) := by simpa using ha
  simp [results, hf, asAddr, ha', hl]
theorem ret_one_cell {P : Program} {fn : Func} {a : Act} {w : World} {s t : Nat} {ad : Addr} {x : Value} {R : Ending → World → Prop} (hf : fn.results = #[.cell s t]) (ha : a.tmps.getD s undef = .pointer (some ad)) (hd : a.defers = [])
    (hl : (loadVar t ad).run P w = .ok x w) (h : R (.returned x) w) : bodyPost P fn R .ret a w :=
  bodyPost_ret (v := x) (results_one_cell hf ha hl) hd h
theorem load_whole {P : Program} {w : World} {B T g n : Nat} {C : Array Value} (h : Own w B T (.slice (some ⟨g, 0, none⟩) n n) C.toList) (d : TypeDesc) (hu : P.underlying T = some d) (hd : (match d with | .struct _ | .array _ _ => true | _ => false) = true) (hi : (P.info? T).map (·.size) = some n) :
    (loadVar T ⟨g, 0, none⟩).run P w = .ok (.agg C) w := by
  obtain ⟨A, hg, hs, hA⟩ := h.whole
  have hl := run_loadVar_sub (P := P) w g 0 n T T A (0, 0) d hg hu hd hi (by omega)
  have e : A.extract 0 (0 + n) = C := by rw [Nat.zero_add, ← hs, Array.extract_size]; exact Array.toList_inj.1 hA
  rw [e] at hl
  exact hl
theorem i64_and (a r : Nat) (hr : r ≤ 15) (ha : a ≤ 65536) : bits .and .i64 (a : Int) (((2 ^ r : Nat) : Int) - 1) = ((a % 2 ^ r : Nat) : Int) := by
  have hp : 2 ^ r ≤ 2 ^ 15 := Nat.pow_le_pow_right (by decide) hr
  have hp1 : 1 ≤ 2 ^ r := Nat.pow_pos (by decide)
  have e : ((2 ^ r : Nat) : Int) - 1 = ((2 ^ r - 1 : Nat) : Int) := by omega
  rw [e, (bits_nat .i64 63 (by decide) (fun n h0 h1 => by rw [IntKind.wrap_i64]; omega) a (2 ^ r - 1) (by omega) (by omega)).1, Nat.and_two_pow_sub_one_eq_mod]
theorem look_zero {E : Nat → Ent} {fs : List Sub} {V : Nat} (h : (E (V % 512)).t = 0) : lookN E fs V = E (V % 512) := by
  unfold lookN; rw [h]
theorem look_succ {E : Nat → Ent} {fs : List Sub} {V k : Nat} {f : Sub} (h : (E (V % 512)).t = k + 1) (hf : fs[k]? = some f) : lookN E fs V = f.F (V / 512 % 2 ^ f.m) := by
  unfold lookN; rw [h]; simp only [hf]
def zE : Array Value := entV Ent.zero
theorem zero_ent (W : World) : (zeroValue 113).run Tryz.prog W = .ok (.agg zE) W := by kernel_rfl
set_option maxRecDepth 100000 in
set_option maxHeartbeats 1000000 in
theorem findP {w : World} {B g sy : Nat} {E : Nat → Ent} {fs : List Sub} {vf : Value} {L : List Nat} {i : Nat} (h : TabM w B g sy E fs vf) (hok : TabOk L i E fs) (V : Nat) (hV : V < 32768) :
    Calls Tryz.prog 95 #[.pointer (some ⟨g, 0, none⟩), .int .i64 V] w fun e w' => e = .returned (.agg (entV (lookN E fs V))) ∧ Below w.heap.size w w' := by
  have hz := zero_ent
  obtain ⟨Z, hZ⟩ : ∃ Z, Z = zE := ⟨_, rfl⟩
  have hZl : Z.toList.length = 3 := by rw [hZ]; rfl
  have hZs : Z.size = 3 := by rw [hZ]; rfl
  rw [← hZ] at hz
  clear hZ
  have hx : V % 512 < 512 := by omega
  obtain ⟨A, hA, hAs, hAl⟩ := h.box.whole
  have hext := ext3 hAl rfl hx
  simp only [pre2] at hext
  have hgl := h.blk.2
  have HM := Lib.hid h
  have hmask := i64_and V 9 (by omega) (by omega)
  have hixa := fun W => index_arr g 2 (V % 512) W hx
  have HFAR : Hid (∀ k, (E (V % 512)).t = k + 1 → ∃ f, fs[k]? = some f ∧ f.m ≤ 6) := Lib.hid (fun k hk => by obtain ⟨f, h1, h2, -⟩ := hok.far _ k hx hk; exact ⟨f, h1, h2⟩)
  clear h hok hAl
  have hmask2 : bits .and .i64 (V : Int) 511 = ((V % 512 : Nat) : Int) := hmask
  clear hmask
  obtain ⟨ex, hex⟩ : ∃ ex, ex = E (V % 512) := ⟨_, rfl⟩
  rw [← hex] at hext HFAR
  have HEX := Lib.hid hex
  clear hex
  have hes : (entV ex).size = 3 := rfl
  have he1 := entV_one ex
  have hget : (entV ex).toList.getD 2 undef = .int .i64 (ex.t : Nat) := rfl
  obtain ⟨VX, hVX⟩ : ∃ VX, VX = entV ex := ⟨_, rfl⟩
  rw [← hVX] at hext hes he1 hget
  have HVX := Lib.hid hVX
  clear hVX
  have hA5 : ((w.alloc (.cells Z 113))).heap[g]? = some (.cells A 117 (0, 0)) := ((below_alloc w _).block g hgl).trans hA
  have ho4 := own_lit w w.heap.size Z 113 (by omega) (Nat.le_refl _)
  rw [hZs] at ho4
  have ho5 := own_lit (w.alloc (.cells Z 113)) w.heap.size Z 113 (by omega) (by simp)
  rw [hZs, show (w.alloc (.cells Z 113)).heap.size = w.heap.size + 1 by simp] at ho5
  have HO4 := Lib.hid (ho4.up (below_alloc _ (.cells Z 113)))
  have HO5 := Lib.hid ho5
  clear ho4 ho5 hA
  obtain ⟨x, hxx⟩ : ∃ x, x = V % 512 := ⟨_, rfl⟩
  rw [← hxx] at hext HEX hixa hmask2 hx
  have HX := Lib.hid hxx
  clear hxx
  have HDR : Hid (∀ w2, Own w2 w.heap.size 113 (.slice (some ⟨w.heap.size + 1, 0, none⟩) 3 3) (VX.toList ++ Z.toList.drop VX.size) → Own w2 w.heap.size 113 (.slice (some ⟨w.heap.size + 1, 0, none⟩) 3 3) VX.toList) := Lib.hid (fun w2 h => by
    rw [List.drop_of_length_le (by omega), List.append_nil] at h; exact h)
  have HC5 : Hid (∀ w2, Own w2 w.heap.size 113 (.slice (some ⟨w.heap.size + 1, 0, none⟩) 3 3) VX.toList → w2.cell? ⟨w.heap.size + 1, 2, none⟩ = some (.int .i64 (ex.t : Nat))) := Lib.hid (fun w2 h => by
    rw [h.cell (by rw [Array.length_toList]; omega), hget])
  clear hget
  cases ht : ex.t with
  | zero =>
    rw [ht] at HC5
    have HLK : Hid (lookN E fs V = ex) := Lib.hid (by rw [look_zero (by rw [← HX.out, ← HEX.out]; exact ht), ← HX.out, ← HEX.out])
    go_enter Tryz.func95, Tryz.ntmps95
    go_wp2_with (first | (refine wpList_load_sub rfl 113 _ rfl g (2 + 3 * x) 3 rfl 117 A VX (0, 0) _ hA5 Tryz.underlying113 rfl (by kernel_rfl) (by omega) hext ?_) | (refine wpList_store_agg rfl 113 _ _ rfl w.heap.size 113 (w.heap.size + 1) 3 3 rfl VX rfl (by rw [hes]; kernel_rfl) Z.toList HO5.out (by omega) he1 ?_; intro w2 hown2 hg2; have HO2 := Lib.hid (HDR.out w2 hown2); have HG2 := Lib.hid hg2; have hc5 := HC5.out w2 HO2.out; have hs5 := HO2.out.blk.2; obtain ⟨A5, hA5g, hA5s, hA5l⟩ := HO2.out.whole; obtain rfl : A5 = VX := Array.toList_inj.1 hA5l; clear hown2 hg2 hA5l ) | (refine load_box rfl 113 3 _ rfl (w.heap.size + 1) rfl A5 hA5s hA5g _ Tryz.underlying113 rfl (by kernel_rfl) ?_) | (refine wpList_store_agg rfl 113 _ _ rfl w.heap.size 113 w.heap.size 3 3 rfl A5 rfl (by rw [hes]; kernel_rfl) Z.toList (HO4.out.keep HG2.out (.inr (by simp [Value.ownBlock]))) (by omega) he1 ?_; intro w6 hown6 hg6; rw [List.drop_of_length_le (by omega), List.append_nil] at hown6; have HO6 := Lib.hid hown6; have HG6 := Lib.hid hg6; clear hown6 hg6))
    refine ret_one_cell (s := 4) (ad := ⟨w.heap.size, 0, none⟩) (x := .agg A5) rfl rfl rfl (load_whole (n := 3) HO6.out _ Tryz.underlying113 rfl (by kernel_rfl)) ?_
    refine ⟨by rw [HLK.out, ← HVX.out], ?_⟩
    have h1 : Below w.heap.size w ((w.alloc (.cells Z 113)).alloc (.cells Z 113)) := (by repeat (first | exact Below.refl _ _ | assumption | refine b_drewN ?_ _ | refine Below.drew ?_ | refine b_ext' ?_ _ | refine b_alloc' ?_ _))
    exact (h1.grown HG2.out h1.size (fun k hk => by cases hk; omega)).grown HG6.out (by have := h1.size; have := HG2.out.size; omega) (fun k hk => by cases hk; exact Nat.le_refl _)
  | succ k =>
    rw [ht] at HC5
    obtain ⟨f, hf, hm6⟩ := HFAR.out k ht
    have HLK : Hid (lookN E fs V = f.F (V / 512 % 2 ^ f.m)) := Lib.hid (look_succ (by rw [← HX.out, ← HEX.out]; exact ht) hf)
    have hkl : k < fs.length := (List.getElem?_eq_some_iff.1 hf).1
    have hy : V / 512 % 2 ^ f.m < 2 ^ f.m := Nat.mod_lt _ (Nat.pow_pos (by decide))
    have hrow := HM.out.rows k f hf
    obtain ⟨Af, hAf, hAfs, hAfl⟩ := hrow.1.nil3.whole
    have hextf := ext3 (o := 0) hAfl rfl hy
    have hcv := HM.out.cv
    obtain ⟨of, cf, gf, rfl, hdf, -, hcf, -⟩ := HM.out.outer.cases
    rw [List.length_map] at hdf hcf hcv
    have hixf := index_any (P := Tryz.prog) 115 119 Tryz.underlying115 (by kernel_rfl) hdf
    have hixk := fun W => hixf W .i64 (k : Int) (by omega) (by omega)
    rw [Int.toNat_natCast, Nat.zero_add] at hixk
    have hck := hcf k hkl
    have hsub : (fs.map subV).getD k undef = subV f := by rw [List.getD_eq_getElem?_getD, List.getElem?_map, hf]; rfl
    rw [hsub] at hck
    have hgf := hdf.hblk (by omega)
    have hgff := hrow.1.blk.2
    have hmaskf := i64_and (V / 512) f.m (by omega) (by omega)
    have hixe := index_ent f.g 0
    have hk63 : k ≤ 140737488351232 := by have := HM.out.outer.2; rw [List.length_map] at this; omega
    unfold subV at hck
    rw [Nat.zero_add] at hextf
    have HBA : Hid (∀ w2, ((w.alloc (.cells Z 113)).alloc (.cells Z 113)).grownBy w2 (some (w.heap.size + 1)) → Below w.heap.size w w2) := Lib.hid (fun w2 hg => by
      have h1 : Below w.heap.size w ((w.alloc (.cells Z 113)).alloc (.cells Z 113)) := (by repeat (first | exact Below.refl _ _ | assumption | refine b_drewN ?_ _ | refine Below.drew ?_ | refine b_ext' ?_ _ | refine b_alloc' ?_ _))
      exact h1.grown hg h1.size (fun k hk => by cases hk; omega))
    have hAfz : Af.size = 3 * 2 ^ f.m := hAfs
    have hm64 : 2 ^ f.m ≤ 64 := Nat.le_trans (Nat.pow_le_pow_right (by decide) hm6) (by decide)
    have ez : (V : Int) / 512 = ((V / 512 : Nat) : Int) := by omega
    have hz64 : V / 512 ≤ 64 := by omega
    clear hixf hdf hcf hsub hAfl hrow hf
    generalize V / 512 = z at *
    generalize hn : 2 ^ f.m = n at *
    generalize z % n = y at *
    have hixy := fun W => hixe n W y hy
    rw [Nat.zero_add] at hixy
    have hfe := entV_one (f.F y)
    have hfs3 : (entV (f.F y)).size = 3 := rfl
    obtain ⟨VF, hVF⟩ : ∃ VF, VF = entV (f.F y) := ⟨_, rfl⟩
    rw [← hVF] at hextf hfe hfs3
    have HVF := Lib.hid hVF
    clear hVF hixe hn ht
    go_enter Tryz.func95, Tryz.ntmps95
    go_wp2_with (first | (refine wpList_load_sub rfl 113 _ rfl g (2 + 3 * x) 3 rfl 117 A VX (0, 0) _ hA5 Tryz.underlying113 rfl (by kernel_rfl) (by omega) hext ?_) | (refine wpList_store_agg rfl 113 _ _ rfl w.heap.size 113 (w.heap.size + 1) 3 3 rfl VX rfl (by rw [hes]; kernel_rfl) Z.toList HO5.out (by omega) he1 ?_; intro w2 hown2 hg2; have HO2 := Lib.hid (HDR.out w2 hown2); have HG2 := Lib.hid hg2; have hc5 := HC5.out w2 HO2.out; have hs5 := HO2.out.blk.2; have hb2 := HBA.out w2 hg2; have HB2 := Lib.hid hb2; have hcv2 := (hb2.cell (p := ⟨g, 1538, none⟩) hgl).trans hcv; have hck2 := (hb2.cell (p := ⟨gf, k, none⟩) hgf).trans hck; have hAf2 := (hb2.block f.g hgff).trans hAf; have hg2w : g < w2.heap.size := Nat.lt_of_lt_of_le hgl hb2.size; have hgf2w : gf < w2.heap.size := Nat.lt_of_lt_of_le hgf hb2.size; clear hown2 hg2 hb2 hcv hck))
    go_quiet (fail)
    have hAfq : (w2.drewN nq).heap[f.g]? = some (.cells Af 113 (0, 0)) := hAf2
    have HO4q := Lib.hid ((HO4.out.keep HG2.out (.inr (by simp [Value.ownBlock]))).up (below_drewN w2 nq))
    have HB2q := Lib.hid (HB2.out.trans ((below_drewN w2 nq).mono HB2.out.size))
    have hsq : f.g < (w2.drewN nq).heap.size := Nat.lt_of_lt_of_le hgff HB2q.out.size
    clear hcv2 hck2 hAf2 hg2w hgf2w HB2 HG2 HO2 hc5 hs5 HC5 HDR HBA
    generalize w2.drewN nq = wq at *
    go_wp2_with (first | (refine wpList_load_sub rfl 113 _ rfl f.g (3 * y) 3 rfl 113 Af VF (0, 0) _ hAfq Tryz.underlying113 rfl (by kernel_rfl) (by omega) hextf ?_) | (refine wpList_store_agg rfl 113 _ _ rfl w.heap.size 113 w.heap.size 3 3 rfl VF rfl (by rw [hfs3]; kernel_rfl) Z.toList HO4q.out (by omega) hfe ?_; intro w6 hown6 hg6; rw [List.drop_of_length_le (by omega), List.append_nil] at hown6; have HO6 := Lib.hid hown6; have HG6 := Lib.hid hg6; clear hown6 hg6))
    refine ret_one_cell (s := 4) (ad := ⟨w.heap.size, 0, none⟩) (x := .agg VF) rfl rfl rfl (load_whole (n := 3) HO6.out _ Tryz.underlying113 rfl (by kernel_rfl)) ?_
    refine ⟨by rw [HLK.out, ← HVF.out], ?_⟩
    exact HB2q.out.grown HG6.out HB2q.out.size (fun k hk => by cases hk; exact Nat.le_refl _)
end Go.Cm

/- The walks of what finds the ops of a text. Conditions: the places lie in the text. -/
namespace Go.Cm
open Go.RowKit Go.Proofs

def bys (s : ByteArray) : Byts := s.data.toList
theorem bys_len (s : ByteArray) : (bys s).length = s.size := by simp [bys]
theorem results_cell {P : Program} {fn : Func} {tmps : Array Value} {w : World} {a t : Nat} {ad : Addr} {v : Value} (hf : fn.results = #[.cell a t]) (ha : tmps.getD a undef = .pointer (some ad)) (hl : (loadVar t ad).run P w = .ok v w) :
    (results fn tmps).run P w = .ok v w := by
  have ha' : tmps[a]?.getD undef = .pointer (some ad) := by simpa using ha
  simp [results, hf, asAddr, ha', hl]
theorem ret_cell {P : Program} {fn : Func} {tmps : Array Value} {w : World} {ds : List Deferred} {s t : Nat} {ad : Addr} {x : Value} {R : Ending → World → Prop} (hf : fn.results = #[.cell s t]) (ha : tmps.getD s undef = .pointer (some ad)) (hd : ds = [])
    (hl : (loadVar t ad).run P w = .ok x w) (h : R (.returned x) w) : bodyPost P fn R .ret ⟨tmps, ds⟩ w :=
  bodyPost_ret (v := x) (results_cell hf ha hl) hd h
theorem own_load {P : Program} {w : World} {B T g n : Nat} {xs : List Value} (h : Own w B T (.slice (some ⟨g, 0, none⟩) n n) xs) (d : TypeDesc) (hu : P.underlying T = some d) (hd : (match d with | .struct _ | .array _ _ => true | _ => false) = true) (hi : (P.info? T).map (·.size) = some n) :
    (loadVar T ⟨g, 0, none⟩).run P w = .ok (.agg xs.toArray) w := by
  obtain ⟨A, hg, hs, hA⟩ := h.whole
  have hl := run_loadVar_sub (P := P) w g 0 n T T A (0, 0) d hg hu hd hi (by omega)
  have e : A.extract 0 (0 + n) = xs.toArray := by rw [Nat.zero_add, ← hs, Array.extract_size, ← hA]
  rw [e] at hl
  exact hl
end Go.Cm
