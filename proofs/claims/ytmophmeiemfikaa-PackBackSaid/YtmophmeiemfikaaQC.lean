/- Texts of this claim, joined: walks of small functions and plain facts about them. Conditions: as each says. -/
import Derived.Test.YtmophmeiemfikaaQB
import Derived.Test.YtmophmeiemfikaaRows
import Derived.WalkKit
import Derived.WalkSpells
import Derived.WalkLawsBesides
import Derived.Deep.QuietTactic
import Derived.BigQuiet
import Derived.Lib.Hide
import Derived.Deep.LoopGhost
import Derived.Laws.BitsLemmas
import Derived.Laws.Small
/- The table of codes in memory; the walk of its further tables. Conditions: none. -/
namespace Go.Cm
open Go.RowKit Go.Proofs

def subV (f : Sub) : Value := .slice (some ⟨f.g, 0, none⟩) (2 ^ f.m) (2 ^ f.m)
/-- a table in block g, all of it from block B on -/
structure TabM (w : World) (B g sy : Nat) (E : Nat → Ent) (fs : List Sub) (vf : Value) : Prop where
  box : Own w B 160 (.slice (some ⟨g, 0, none⟩) 1539 1539) ([.bool true, .int .i64 (sy : Nat)] ++ flatE E 512 ++ [vf])
  outer : Own w B 162 vf (fs.map subV)
  ne : vf.ownBlock ≠ some g
  rows : ∀ (k : Nat) (f : Sub), fs[k]? = some f → Own w B 156 (.slice (some ⟨f.g, 0, none⟩) (3 * 2 ^ f.m) (3 * 2 ^ f.m)) (flatE f.F (2 ^ f.m)) ∧ f.g ≠ g ∧ vf.ownBlock ≠ some f.g
  apart : ∀ (k k' : Nat) (f f' : Sub), fs[k]? = some f → fs[k']? = some f' → f.g = f'.g → k = k'
section
variable {w : World} {B g sy : Nat} {E : Nat → Ent} {fs : List Sub} {vf : Value}
theorem TabM.up {w' : World} (h : TabM w B g sy E fs vf) (hb : Below w.heap.size w w') : TabM w' B g sy E fs vf :=
  ⟨h.box.up hb, h.outer.up hb, h.ne, fun k f hf => ⟨(h.rows k f hf).1.up hb, (h.rows k f hf).2⟩, h.apart⟩
theorem TabM.blk (h : TabM w B g sy E fs vf) : B ≤ g ∧ g < w.heap.size := h.box.blk
theorem box_len (E : Nat → Ent) (sy : Nat) (vf : Value) : ([Value.bool true, .int .i64 (sy : Nat)] ++ flatE E 512 ++ [vf]).length = 1539 := by simp [flatE_length]
theorem TabM.c0 (h : TabM w B g sy E fs vf) : w.cell? ⟨g, 0, none⟩ = some (.bool true) := by rw [h.box.cell (by rw [box_len]; omega)]; rfl
theorem TabM.c1 (h : TabM w B g sy E fs vf) : w.cell? ⟨g, 1, none⟩ = some (.int .i64 (sy : Nat)) := by rw [h.box.cell (by rw [box_len]; omega)]; rfl
theorem TabM.cv (h : TabM w B g sy E fs vf) : w.cell? ⟨g, 1538, none⟩ = some vf := by
  rw [h.box.cell (by rw [box_len]; omega), List.getD_eq_getElem?_getD, List.getElem?_append_right (by simp [flatE_length])]
  simp [flatE_length]
theorem TabM.ce (h : TabM w B g sy E fs vf) (x c : Nat) (hx : x < 512) (hc : c < 3) : w.cell? ⟨g, 2 + 3 * x + c, none⟩ = some (.int .i64 (cellE (E x) c : Nat)) := by
  rw [h.box.cell (by rw [box_len]; omega), List.getD_eq_getElem?_getD, List.append_assoc, List.getElem?_append_right (by simp; omega), List.getElem?_append_left (by simp [flatE_length]; omega)]
  rw [show 2 + 3 * x + c - [Value.bool true, Value.int IntKind.i64 (sy : Nat)].length = 3 * x + c by simp; omega, flatE_at E 512 x c hx hc]
  rfl
theorem TabM.ct (h : TabM w B g sy E fs vf) (x : Nat) (hx : x < 512) : w.cell? ⟨g, 2 + 3 * x + 2, none⟩ = some (.int .i64 ((E x).t : Nat)) := h.ce x 2 hx (by omega)
theorem TabM.free (h : TabM w B g sy E fs vf) (c : Nat) : w.frozen? ⟨g, c, none⟩ = false := h.box.free c
theorem pre2 : ([Value.bool true, Value.int .i64 (sy : Nat)]).length = 2 := rfl
/-- the first table written -/
theorem TabM.wrote {w' : World} {E' : Nat → Ent} (h : TabM w B g sy E fs vf) (hg : w.grownBy w' (some g)) (hb : Own w' B 160 (.slice (some ⟨g, 0, none⟩) 1539 1539) ([.bool true, .int .i64 (sy : Nat)] ++ flatE E' 512 ++ [vf])) : TabM w' B g sy E' fs vf :=
  ⟨hb, h.outer.keep hg (.inr h.ne), h.ne, fun k f hf => ⟨(h.rows k f hf).1.keep hg (.inr (by intro e; exact (h.rows k f hf).2.1 (Option.some.inj e))), (h.rows k f hf).2⟩, h.apart⟩
/-- a further table written -/
theorem TabM.wroteSub {w' : World} {F' : Nat → Ent} {k : Nat} {f : Sub} (h : TabM w B g sy E fs vf) (hf : fs[k]? = some f) (hg : w.grownBy w' (some f.g)) (hb : Own w' B 156 (.slice (some ⟨f.g, 0, none⟩) (3 * 2 ^ f.m) (3 * 2 ^ f.m)) (flatE F' (2 ^ f.m))) : TabM w' B g sy E (fs.set k ⟨f.g, f.m, F'⟩) vf := by
  have hr := h.rows k f hf
  have hlk : k < fs.length := (List.getElem?_eq_some_iff.1 hf).1
  have hget : ∀ q f', (fs.set k ⟨f.g, f.m, F'⟩)[q]? = some f' → ∃ f0, fs[q]? = some f0 ∧ f'.g = f0.g ∧ f'.m = f0.m ∧ (q ≠ k → f' = f0) := fun q f' hq => by
    by_cases e : k = q
    · subst e
      rw [List.getElem?_set_self hlk] at hq
      obtain rfl := Option.some.inj hq
      exact ⟨f, hf, rfl, rfl, fun h => absurd rfl h⟩
    · rw [List.getElem?_set_ne e] at hq
      exact ⟨f', hq, rfl, rfl, fun _ => rfl⟩
  refine ⟨h.box.keep hg (.inr (by intro e; exact hr.2.1 (Option.some.inj e).symm)), ?_, h.ne, fun q f' hq => ?_, fun q q' f1 f2 h1 h2 he => ?_⟩
  · have e : (fs.set k ⟨f.g, f.m, F'⟩).map subV = fs.map subV := by
      rw [List.map_set]
      refine List.ext_getElem? fun q => ?_
      by_cases e : k = q
      · subst e
        rw [List.getElem?_set_self (by simpa using hlk), List.getElem?_map, hf]; rfl
      · rw [List.getElem?_set_ne e]
    rw [e]
    exact h.outer.keep hg (.inr hr.2.2)
  · by_cases e : k = q
    · subst e
      rw [List.getElem?_set_self hlk] at hq
      obtain rfl := Option.some.inj hq
      exact ⟨hb, hr.2⟩
    · rw [List.getElem?_set_ne e] at hq
      have hr' := h.rows q f' hq
      refine ⟨hr'.1.keep hg (.inr ?_), hr'.2⟩
      intro he
      exact e (h.apart k q f f' hf hq (Option.some.inj he).symm)
  · obtain ⟨g1, hg1, e1, _⟩ := hget q f1 h1
    obtain ⟨g2, hg2, e2, _⟩ := hget q' f2 h2
    exact h.apart q q' g1 g2 hg1 hg2 (by rw [← e1, ← e2]; exact he)
end
theorem TabM.push {w w5 : World} {B g sy : Nat} {E : Nat → Ent} {fs : List Sub} {vf v' : Value} {gn m : Nat} {F : Nat → Ent} (h : TabM w B g sy E fs vf) (hr : Own w B 156 (.slice (some ⟨gn, 0, none⟩) (3 * 2 ^ m) (3 * 2 ^ m)) (flatE F (2 ^ m))) (h1 : gn ≠ g) (h2 : ∀ (k : Nat) (f : Sub), fs[k]? = some f → f.g ≠ gn) (h3 : vf.ownBlock ≠ some gn)
    (ho : Own w5 B 162 v' (fs.map subV ++ [subV ⟨gn, m, F⟩])) (hg : w.grownBy w5 vf.ownBlock) (hk : ∀ k, v'.ownBlock = some k → vf.ownBlock = some k ∨ w.heap.size ≤ k) : TabM (w5.setCell ⟨g, 1538, none⟩ v') B g sy E (fs ++ [⟨gn, m, F⟩]) v' ∧ w5.grownBy (w5.setCell ⟨g, 1538, none⟩ v') (some g) := by
  have hb := (h.box.keep hg (.inr (fun e => h.ne e.symm))).store 1538 v'
  have hgw := h.blk.2
  have hne : v'.ownBlock ≠ some g := fun e => by
    rcases hk g e with q | q
    · exact h.ne q
    · omega
  have hnk : ∀ q, q < w.heap.size → vf.ownBlock ≠ some q → v'.ownBlock ≠ some q := fun q hq hn e => by
    rcases hk q e with z | z
    · exact hn z
    · omega
  have hset : ([Value.bool true, .int .i64 (sy : Nat)] ++ flatE E 512 ++ [vf]).set 1538 v' = [Value.bool true, .int .i64 (sy : Nat)] ++ flatE E 512 ++ [v'] := by
    rw [List.set_append_right _ _ (by simp [flatE_length])]
    simp [flatE_length]
  rw [hset] at hb
  have hrow : ∀ (k : Nat) (f : Sub), (fs ++ [⟨gn, m, F⟩])[k]? = some f → (k < fs.length ∧ fs[k]? = some f) ∨ (k = fs.length ∧ f = ⟨gn, m, F⟩) := fun k f hf => by
    by_cases hkl : k < fs.length
    · rw [List.getElem?_append_left hkl] at hf; exact .inl ⟨hkl, hf⟩
    · rw [List.getElem?_append_right (by omega)] at hf
      by_cases hk0 : k = fs.length
      · subst hk0; rw [Nat.sub_self] at hf; exact .inr ⟨rfl, (Option.some.inj hf).symm⟩
      · rw [List.getElem?_eq_none (by simp; omega)] at hf; cases hf
  refine ⟨⟨hb.1, ?_, hne, fun k f hf => ?_, fun k k' f f' hf hf' he => ?_⟩, hb.2⟩
  · rw [List.map_append]
    exact ho.keep hb.2 (.inr hne)
  · rcases hrow k f hf with ⟨-, hf⟩ | ⟨-, rfl⟩
    · have hr' := h.rows k f hf
      refine ⟨(hr'.1.keep hg (.inr (fun e => hr'.2.2 e.symm))).keep hb.2 (.inr (fun e => hr'.2.1 (Option.some.inj e))), hr'.2.1, hnk _ hr'.1.blk.2 hr'.2.2⟩
    · exact ⟨(hr.keep hg (.inr (fun e => h3 e.symm))).keep hb.2 (.inr (fun e => h1 (Option.some.inj e))), h1, hnk _ hr.blk.2 h3⟩
  · rcases hrow k f hf with ⟨-, hf⟩ | ⟨hk1, rfl⟩ <;> rcases hrow k' f' hf' with ⟨-, hf'⟩ | ⟨hk2, rfl⟩
    · exact h.apart k k' f f' hf hf' he
    · exact absurd he (h2 k f hf)
    · exact absurd he.symm (h2 k' f' hf')
    · omega
theorem index_arr (g o x : Nat) (W : World) (h : x < 512) : (Instr.indexAt 157 (.pointer (some ⟨g, o, none⟩)) (.int .i64 x)).run Try.prog W = .ok (.pointer (some ⟨g, o + 3 * x, none⟩)) W := by
  have he : Try.prog.elem 157 = 156 := by simp [Program.elem, Try.underlying157]
  have hl : Try.prog.arrayLen 157 = 512 := by simp [Program.arrayLen, Try.underlying157]
  have hsz : (sizeOf 156).run Try.prog W = .ok 3 W := by
    have hi : (Try.prog.info? 156).map (·.size) = some 3 := by kernel_rfl
    cases hq : Try.prog.info? 156 with
    | none => simp [hq] at hi
    | some inf => have : inf.size = 3 := by simpa [hq] using hi
                  simp [sizeOf, typeInfo, hq, this]
  rw [run_indexAt_array W 157 ⟨g, o, none⟩ .i64 x (by rw [he, hl]; exact Try.underlying157), hl, if_pos ⟨by omega, by omega⟩, he, hsz]
  simp only [Result.andThen, Int.toNat_natCast, add_off]
  rw [Nat.mul_comm]
theorem made3 (n : Nat) : (madeCells #[Value.int .i64 0, .int .i64 0, .int .i64 0] (3 * n)).toList = flatE (fun _ => Ent.zero) n := by
  rw [flatE_zero, List.eq_replicate_iff]
  refine ⟨by rw [Array.length_toList, size_madeCells], fun x hx => ?_⟩
  simp only [madeCells, Array.toList_map, List.mem_map] at hx
  obtain ⟨k, -, rfl⟩ := hx
  rcases (show k % 3 = 0 ∨ k % 3 = 1 ∨ k % 3 = 2 by omega) with h | h | h <;> simp [h]
theorem run_mk3 (n : Nat) (hn : n ≤ 65536) : ∀ W : World, (Instr.makeSlice 162 (.int .i64 (n : Int)) (.int .i64 (n : Int))).run Try.prog W = .ok (.slice (some ⟨W.heap.size, 0, none⟩) n n) (W.alloc (.cells (madeCells #[Value.int .i64 0, .int .i64 0, .int .i64 0] (3 * n)) 156)) := by
  intro W
  have hinf : (Try.prog.info? 156).map (fun i => (i.zero, i.size, i.bytes)) = some (some (.agg #[.int .i64 0, .int .i64 0, .int .i64 0]), 3, 24) := by kernel_rfl
  cases hq : Try.prog.info? 156 with
  | none => simp [hq] at hinf
  | some i0 =>
    simp [hq] at hinf
    obtain ⟨h1, h2, h3⟩ := hinf
    have hr := run_make (P := Try.prog) W 162 156 i0 _ Try.underlying162 hq h1 .i64 .i64 n n (by omega) (Int.le_refl _) (by rw [h3]; omega) (by omega)
    simp only [Int.toNat_natCast, h2, Value.cells, Nat.mul_comm n 3] at hr
    exact hr
set_option maxRecDepth 100000 in
/-- what 'branch' answers where the further table is there -/
theorem branchOld {w : World} {B g sy : Nat} {E : Nat → Ent} {fs : List Sub} {vf : Value} (h : TabM w B g sy E fs vf) (v u : Value) (head : Nat) (_hh : head < 512) {k : Nat} {f : Sub} (hk : (E (turnN head 9)).t = k + 1) (hf : fs[k]? = some f) (hfs : fs.length ≤ 512) :
    Calls Try.prog 114 #[.pointer (some ⟨g, 0, none⟩), v, u, .int .i64 head] w fun e w' => e = .returned (subV f) ∧ ∃ x, w' = ext w x := by
  have htl := turnN_lt head 9
  have HTP := Lib.hid (turnP head 9 (by omega))
  have hct := h.ct (turnN head 9) htl
  rw [hk] at hct
  have hcv := h.cv
  have hg := h.blk.2
  have hkl : k < fs.length := (List.getElem?_eq_some_iff.1 hf).1
  obtain ⟨of, cf, gf, rfl, hdf, -, hcf, -⟩ := h.outer.cases
  rw [List.length_map] at hdf hcf hcv
  have hixf := index_any (P := Try.prog) 158 162 Try.underlying158 (by kernel_rfl) hdf
  have hixk := fun W => hixf W .i64 (k : Int) (by omega) (by omega)
  rw [Int.toNat_natCast, Nat.zero_add] at hixk
  have hck := hcf k hkl
  have hsub : (fs.map subV).getD k undef = subV f := by rw [List.getD_eq_getElem?_getD, List.getElem?_map, hf]; rfl
  rw [hsub] at hck
  have hgf := hdf.hblk (by omega)
  have hixa := fun W => index_arr g 2 (turnN head 9) W htl
  have hk512 : k ≤ 512 := by omega
  generalize subV f = vk at *
  generalize turnN head 9 = x at *
  clear h hixf hcf hdf hsub hf hk
  go_enter Try.func114, Try.ntmps114
  go_wp2_with (go_at_call 117; refine (HTP.out _).mono ?_; rintro en w' ⟨rfl, hw'⟩; rw [hw']; clear hw')
  go_quiet (fail)
  go_wp2
  go_ret
  exact ⟨rfl, (ex_ext (by repeat (first | exact Below.refl _ _ | assumption | refine b_drewN ?_ _ | refine Below.drew ?_ | refine b_ext' ?_ _ | refine b_alloc' ?_ _)))⟩
set_option maxRecDepth 100000 in
set_option maxHeartbeats 1000000 in
/-- .. where it is new -/
theorem branchNew {w : World} {B g sy : Nat} {E : Nat → Ent} {fs : List Sub} {vf : Value} (h : TabM w B g sy E fs vf) (v u : Value) (L : List Nat) (hv : IntsAt w v (nls L)) (hu : IntsAt w u (nls (codesN L))) (hlen : L.length ≤ 320) (h15 : ∀ x ∈ L, x ≤ 15) (hk : kraftN L ≤ 32768)
    (head : Nat) (hh : head < 512) (ht : (E (turnN head 9)).t = 0) (hfs : fs.length ≤ 512) :
    Calls Try.prog 114 #[.pointer (some ⟨g, 0, none⟩), v, u, .int .i64 head] w fun e w' => ∃ (gn m : Nat) (vf' : Value), e = .returned (subV ⟨gn, m, fun _ => Ent.zero⟩) ∧ m ≤ 6 ∧ (∀ j, j < L.length → headN L j (turnN head 9) → L.getD j 0 ≤ 9 + m) ∧
      TabM w' B g sy (updN E (turnN head 9) ⟨0, m, fs.length + 1⟩) (fs ++ [⟨gn, m, fun _ => Ent.zero⟩]) vf' ∧ Below B w w' := by
  have htl := turnN_lt head 9
  have HTT := Lib.hid (turnN_turnN head 9 (by simpa using hh))
  have HTP := Lib.hid (turnP head 9 (by omega))
  have HLO := Lib.hid (longestP v u L hv hu hlen h15 hk head (by omega))
  have hct := h.ct (turnN head 9) htl
  rw [ht] at hct
  have hg := h.blk.2
  have hgB := h.blk.1
  have hixa := fun W => index_arr g 2 (turnN head 9) W htl
  have HM := Lib.hid h
  have HUP : Hid (∀ m, (∀ j, j < L.length → 9 < L.getD j 0 → codeN L j / 2 ^ (L.getD j 0 - 9) = head → L.getD j 0 ≤ 9 + m) → ∀ j, j < L.length → headN L j (turnN head 9) → L.getD j 0 ≤ 9 + m) := Lib.hid (fun m hm j hj hhd => hm j hj hhd.1 (by rw [hhd.2, HTT.out]))
  have hfsL := hfs
  generalize turnN head 9 = x at *
  clear h hv hu h15 hk HTT
  go_enter Try.func114, Try.ntmps114
  go_wp2_with (first | (go_at_call 117; refine (HTP.out _).mono ?_; rintro en w' ⟨rfl, hw'⟩; rw [hw']; clear hw') | (go_at_call 132; refine HLO.out.mono ?_; rintro en w1 ⟨⟨m, rfl, hm6, hmh⟩, y, rfl⟩; have HM6X := Lib.hid hm6; have HMH := Lib.hid (HUP.out m hmh); clear hmh))
  have HM1 := Lib.hid (HM.out.up (ext_below w y))
  have HB1 : Hid (Below B w (ext w y)) := Lib.hid ((ext_below w y).mono (by omega))
  clear HM HUP HLO hct hg
  generalize ext w y = w1 at *
  have hcv := HM1.out.cv
  have hg := HM1.out.blk.2
  have hf38 := HM1.out.free 1538
  obtain ⟨n, hn⟩ : ∃ n, n = 2 ^ m := ⟨_, rfl⟩
  have hn64 : n ≤ 64 := by rw [hn]; exact Nat.le_trans (Nat.pow_le_pow_right (by decide) hm6) (by decide)
  have hni : (2 : Int) ^ m = (n : Int) := by rw [hn]; norm_cast
  have HN := Lib.hid hn
  clear hn
  have hmk := run_mk3 n (by omega)
  have HZ := Lib.hid (made3 n)
  generalize madeCells #[Value.int .i64 0, .int .i64 0, .int .i64 0] (3 * n) = Z at *
  refine wp_region_tail (fun w' => ∃ x, w' = chg w1 vf.ownBlock x) [0,1,2,3,4,5,6,7] [8,9,10,11,12] [13] (by kernel_rfl) (by kernel_rfl) (ex_chg (grown_drew _ _)) ?_
  have hne := HM1.out.ne
  have hne2 : some g ≠ vf.ownBlock := fun e => hne e.symm
  simp only [pick, List.map_cons, List.map_nil, List.getD_cons_zero, List.getD_cons_succ]
  repeat (go_big_quiet_step (fail))
  refine wpQuiet_nil ?_
  (unfold wpAct; go_wp2; refine ⟨ex_chg (grown_below (by repeat (first | exact Below.refl _ _ | assumption | refine b_drewN ?_ _ | refine Below.drew ?_ | refine b_ext' ?_ _ | refine b_alloc' ?_ _)) _), ?_⟩)
  (unfold wpAct; go_wp2; refine ⟨ex_chg (grown_below (by repeat (first | exact Below.refl _ _ | assumption | refine b_drewN ?_ _ | refine Below.drew ?_ | refine b_ext' ?_ _ | refine b_alloc' ?_ _)) _), ?_⟩)
  unfold wpAct
  obtain ⟨W, hW⟩ : ∃ W, W = ((w1.alloc (.cells Z 156)).alloc (.cells #[Value.slice (some ⟨w1.heap.size, 0, none⟩) n n] 162)).drew := ⟨_, rfl⟩
  have hbW : Below w1.heap.size w1 W := by rw [hW]; exact (by repeat (first | exact Below.refl _ _ | assumption | refine b_drewN ?_ _ | refine Below.drew ?_ | refine b_ext' ?_ _ | refine b_alloc' ?_ _))
  have HX : Hid (Sl W (.slice (some ⟨w1.heap.size + 1, 0, none⟩) 1 1) [.slice (some ⟨w1.heap.size, 0, none⟩) n n]) := Lib.hid (by
    have h1 := (sl_lit (w1.alloc (.cells Z 156)) #[Value.slice (some ⟨w1.heap.size, 0, none⟩) n n] 162 (by simp)).up (below_drewN _ 1)
    rw [← World.drew_is_drewN] at h1
    rw [hW]
    simpa using h1)
  have hZs : Z.size = 3 * n := by rw [← Array.length_toList, HZ.out, flatE_length]
  have HR : Hid (Own W B 156 (.slice (some ⟨w1.heap.size, 0, none⟩) (3 * n) (3 * n)) (flatE (fun _ => Ent.zero) n)) := Lib.hid (by
    have h1 := own_lit w1 B Z 156 (by omega) (by omega)
    rw [HZ.out, hZs] at h1
    have h2 := (h1.up (below_alloc _ (.cells #[Value.slice (some ⟨w1.heap.size, 0, none⟩) n n] 162))).up (below_drewN _ 1)
    rw [← World.drew_is_drewN, ← hW] at h2
    exact h2)
  have HM2 := Lib.hid (HM1.out.up hbW)
  have HT2 : Hid (∀ u ∈ [Value.slice (some ⟨w1.heap.size, 0, none⟩) n n], u.oneCell' = true) := Lib.hid (by intro u hu; simp at hu; subst hu; rfl)
  have HT3 : Hid ((fs.map subV).length + 1 ≤ 4294967296) := Lib.hid (by rw [List.length_map]; omega)
  have hBW : B ≤ W.heap.size := by have := hbW.size; omega
  have hgW : w1.heap.size + 1 < W.heap.size := by rw [hW]; simp
  have HGW : Hid (Below B w W) := Lib.hid (HB1.out.trans (hbW.mono (by omega)))
  have HCW : Hid (w1.grownBy W vf.ownBlock) := Lib.hid (grown_below hbW _)
  rw [← hW]
  clear hW hZs
  go_wp2_with (at_builtin; refine wpList_app rfl (.tmp 29) (.tmp 34) 158 rfl B 162 (.slice none 0 0) 24 Try.underlying158 (by kernel_rfl) rfl (by decide) vf (fs.map subV) rfl HM2.out.outer (.slice (some ⟨w1.heap.size + 1, 0, none⟩) 1 1) [.slice (some ⟨w1.heap.size, 0, none⟩) n n] rfl HX.out HT2.out HT3.out hBW ?_; intro v' w5 hown1 hg1 hk1; have HO1 := Lib.hid hown1; have HG1 := Lib.hid hg1; have HK1 := Lib.hid hk1; clear hown1 hg1 hk1)
  refine ⟨ex_chg (grown_trans HCW.out HG1.out), ?_⟩
  (unfold wpAct; go_wp2; refine ⟨ex_chg (grown_trans HCW.out HG1.out), ?_⟩)
  (unfold wpAct; go_wp2; refine ⟨ex_chg (grown_trans HCW.out HG1.out), ?_⟩)
  have hpush := HM2.out.push (w5 := w5) (v' := v') (gn := w1.heap.size) (m := m) (F := fun _ => Ent.zero) (by rw [← HN.out]; exact HR.out) (by omega) (fun k f hf e => by have := (HM1.out.rows k f hf).1.blk.2; omega) (fun e => by have := HM1.out.outer.lt _ e; omega) (by unfold subV; rw [← HN.out]; exact HO1.out) HG1.out HK1.out
  have hB5 : Below B w w5 := below_grown HGW.out hBW HM2.out.outer HG1.out
  have hgrow5 := HG1.out.size
  obtain ⟨o5, c5, g5, hv5, -⟩ := HO1.out.cases
  rw [List.length_append, List.length_map, List.length_singleton] at hv5
  obtain ⟨l5, hl5⟩ : ∃ l5, l5 = fs.length + 1 := ⟨_, rfl⟩
  rw [← hl5] at hv5
  have HL5 := Lib.hid hl5
  clear hl5
  have HPU := Lib.hid hpush
  have HB5 := Lib.hid hB5
  have hg5 : g < w5.heap.size := by omega
  have hc5 : w5.cell? ⟨g, 1538, none⟩ = some vf := (HM2.out.box.keep HG1.out (.inr hne2)).cell (i := 1538) (by rw [box_len]; omega) |>.trans (by rw [List.getD_eq_getElem?_getD, List.getElem?_append_right (by simp [flatE_length])]; simp [flatE_length])
  have hf5 : w5.frozen? ⟨g, 1538, none⟩ = false := (HM2.out.box.keep HG1.out (.inr hne2)).free 1538
  clear hpush hB5 HO1 HG1 HK1 HX HM2 HT2 HT3 HR HGW HCW HM1 hcv hf38 hg hne hne2
  subst hv5
  unfold wpAct
  unfold wpAct
  go_wp2
  refine ⟨trivial, ?_⟩
  unfold wpAct
  have HM6 := Lib.hid HPU.out.1
  have HB6 : Hid (Below B w (w5.setCell ⟨g, 1538, none⟩ (.slice o5 l5 c5))) := Lib.hid (HB5.out.grown HPU.out.2 (by have := HB5.out.size; omega) (fun k hk => by cases hk; exact hgB))
  clear HPU HB5 hc5 hf5 hg5
  generalize w5.setCell ⟨g, 1538, none⟩ (.slice o5 l5 c5) = w6 at *
  have hcv := HM6.out.cv
  have hg := HM6.out.blk.2
  have hixa2 := fun W => index_arr g 2 x W htl
  have hlen5 : l5 ≤ 513 := by have := HL5.out; omega
  have HS3 := Lib.hid (set3 [Value.bool true, .int .i64 (sy : Nat)] [.slice o5 l5 c5] E 512 x ⟨0, m, l5⟩ htl)
  have HBX := Lib.hid HM6.out.box
  go_wp2
  refine wp_region_tailg [0,1,2,3,4,5,6,7,8,9,10,11] [] [12] (by kernel_rfl) (by kernel_rfl) ?_
  simp only [pick, List.map_cons, List.map_nil, List.getD_cons_zero, List.getD_cons_succ]
  repeat (go_big_quiet_step (fail))
  refine wpQuiet_nil ?_
  unfold wpAct
  unfold wpAct
  have HBX7 := Lib.hid (HBX.out.up (b_drew1 (Below.refl w6.heap.size w6)))
  have HE1 := Lib.hid (entV_one ⟨0, m, l5⟩)
  have hbl := box_len E sy (.slice o5 l5 c5)
  go_wp2_with (refine wpList_store_part rfl 156 _ _ rfl B 160 g 1539 1539 (2 + 3 * x) rfl (entV ⟨0, m, l5⟩) rfl (by kernel_rfl) _ HBX7.out (by rw [hbl]; show 2 + 3 * x + 3 ≤ 1539; omega) HE1.out ?_; intro w8 hown8 hg8; have HO8 := Lib.hid hown8; have HG8 := Lib.hid hg8; clear hown8 hg8)
  refine ⟨trivial, ?_⟩
  unfold wpAct
  have HM8 : Hid (TabM w8 B g sy (updN E x ⟨0, m, l5⟩) (fs ++ [⟨w1.heap.size, m, fun _ => Ent.zero⟩]) (.slice o5 l5 c5)) := Lib.hid ((HM6.out.up (b_drew1 (Below.refl w6.heap.size w6))).wrote HG8.out (by
    have h1 := HO8.out
    have h2 := HS3.out
    simp only [pre2] at h2
    rw [show (entV ⟨0, m, l5⟩).size = 3 from rfl, h2] at h1
    exact h1))
  have HB8 : Hid (Below B w w8) := Lib.hid ((b_drew1 HB6.out).grown HG8.out (by have := HB6.out.size; show B ≤ w6.heap.size; omega) (fun k hk => by cases hk; exact hgB))
  clear HM6 HB6 HO8 HG8 HBX HBX7 HS3 hcv hg hbl HE1 hixa
  have hcv := HM8.out.cv
  have hg := HM8.out.blk.2
  have hct := HM8.out.ct x htl
  rw [show (updN E x ⟨0, m, l5⟩ x).t = l5 by unfold updN; rw [if_pos rfl]] at hct
  obtain ⟨o8, c8, g8, hv8, hdf, -, hcf, -⟩ := HM8.out.outer.cases
  have hll : ((fs ++ [(⟨w1.heap.size, m, fun _ => Ent.zero⟩ : Sub)]).map subV).length = l5 := by have := HL5.out; simp; omega
  rw [hll] at hv8 hdf hcf
  obtain ⟨rfl, -, rfl⟩ : o5 = o8 ∧ True ∧ c5 = c8 := by
    injection hv8 with e1 e2 e3
    exact ⟨e1, trivial, e3⟩
  have hixf := index_any (P := Try.prog) 158 162 Try.underlying158 (by kernel_rfl) hdf
  have hl5i : (l5 : Int) - 1 = (fs.length : Int) := by have := HL5.out; omega
  have hixk := fun W => hixf W .i64 (fs.length : Int) (by omega) (by have := HL5.out; omega)
  rw [Int.toNat_natCast, Nat.zero_add] at hixk
  have hck := hcf fs.length (by have := HL5.out; omega)
  have hsub : ((fs ++ [(⟨w1.heap.size, m, fun _ => Ent.zero⟩ : Sub)]).map subV).getD fs.length undef = subV ⟨w1.heap.size, m, fun _ => Ent.zero⟩ := by
    rw [List.getD_eq_getElem?_getD, List.getElem?_map, List.getElem?_append_right (Nat.le_refl _), Nat.sub_self]; rfl
  rw [hsub] at hck
  have hg8 := hdf.hblk (by have := HL5.out; omega)
  clear hdf hcf hixf hsub hv8 hll
  obtain ⟨vk, hvk⟩ : ∃ vk, vk = subV ⟨w1.heap.size, m, fun _ => Ent.zero⟩ := ⟨_, rfl⟩
  rw [← hvk] at hck
  have HVK := Lib.hid hvk
  clear hvk
  go_wp2
  go_quiet (fail)
  go_wp2
  go_ret
  refine ⟨w1.heap.size, m, .slice o5 l5 c5, ?_, HM6X.out, HMH.out, ?_, ?_⟩
  · rw [← HVK.out]; rfl
  · rw [← HL5.out]; exact HM8.out.up (below_drewN w8 _)
  · exact HB8.out.trans ((below_drewN w8 _).mono (by omega))
end Go.Cm

/- The walk of the making of a table. Conditions: the argument reads as a list. -/
namespace Go.Cm
open Go.RowKit Go.Proofs

theorem Own.nil3 {w : World} {B E g n cap : Nat} {xs : List Value} (h : Own w B E (.slice (some ⟨g, 0, none⟩) n cap) xs) : Own w B E (.slice (some ⟨g, 0, none⟩) n cap) ([] ++ xs ++ []) := by
  rw [List.nil_append, List.append_nil]; exact h
/-- 'branch', whether the further table is there or not -/
theorem branchAny {w : World} {B g sy i : Nat} {E : Nat → Ent} {fs : List Sub} {vf : Value} (h : TabM w B g sy E fs vf) (v u : Value) (L : List Nat) (hv : IntsAt w v (nls L)) (hu : IntsAt w u (nls (codesN L))) (hlen : L.length ≤ 320) (h15 : ∀ x ∈ L, x ≤ 15) (hk : kraftN L ≤ 32768)
    (hok : TabOk L i E fs) (hi : i < L.length) (h9 : 9 < L.getD i 0) (head : Nat) (hhd : head = codeN L i / 2 ^ (L.getD i 0 - 9)) (hfs : fs.length ≤ i) :
    Calls Try.prog 114 #[.pointer (some ⟨g, 0, none⟩), v, u, .int .i64 head] w fun e w' => ∃ (k : Nat) (f : Sub) (E' : Nat → Ent) (fs' : List Sub) (vf' : Value), e = .returned (subV f) ∧ f.m ≤ 6 ∧ fs'[k]? = some f ∧ fs'.length ≤ i + 1 ∧
      TabM w' B g sy E' fs' vf' ∧ Below B w w' ∧ TabOk L (i + 1) E' (fs'.set k ⟨f.g, f.m, fillN f.F (codeN L i % 2 ^ (L.getD i 0 - 9)) (L.getD i 0 - 9) ⟨i, L.getD i 0, 0⟩⟩) := by
  have hc := code_lt h15 hk i hi
  have hh : head < 512 := by
    rw [hhd, Nat.div_lt_iff_lt_mul (Nat.pow_pos (by decide)), show (512 : Nat) = 2 ^ 9 by decide, ← Nat.pow_add, show 9 + (L.getD i 0 - 9) = L.getD i 0 by omega]
    exact hc
  have hx : turnN head 9 < 512 := by have := turnN_lt head 9; simpa using this
  have hH : headN L i (turnN head 9) := ⟨h9, by rw [turnN_turnN head 9 (by simpa using hh)]; exact hhd.symm⟩
  cases ht : (E (turnN head 9)).t with
  | zero =>
    refine (branchNew h v u L hv hu hlen h15 hk head hh ht (by omega)).mono ?_
    rintro e w' ⟨gn, m, vf', rfl, hm6, hml, hM, hB⟩
    refine ⟨fs.length, ⟨gn, m, fun _ => Ent.zero⟩, _, _, vf', rfl, hm6, by rw [List.getElem?_append_right (Nat.le_refl _), Nat.sub_self]; rfl, by simp; omega, hM, hB, ?_⟩
    have hf := hok.fresh hi h15 hk h9 hx hH ht hm6 hml (g := gn) (b := m)
    rw [List.set_append_right _ _ (Nat.le_refl _), Nat.sub_self]
    exact hf
  | succ k =>
    obtain ⟨f, hf, hm, -⟩ := hok.far _ k hx ht
    have hB : B ≤ w.heap.size := by have := h.blk; omega
    refine (branchOld h v u head hh ht hf (by omega)).mono ?_
    rintro e w' ⟨rfl, y, rfl⟩
    exact ⟨k, f, E, fs, vf, rfl, hm, hf, by omega, h.up (ext_below _ _), (ext_below w y).mono hB, hok.long hi h15 hk h9 hx hH ht hf⟩
theorem wpList_build2 {P : Program} {ops : Array Oper} {rest : List Oper} {o : Oper} {a : Act} {w : World} {Q : Exit → Act → World → Prop} (hgd : o.guard = none) (t : TypeId) (i j : Nat) (x y : Operand) (ho : o.op = .build t #[(i, x), (j, y)])
    (vx vy : Value) (hx : a.eval x = vx) (hy : a.eval y = vy) (C : Array Value) (hb : ∀ W, (Instr.build t #[(i, vx), (j, vy)]).run P W = .ok (.agg C) W)
    (h : wpList P ops Q rest (a.put o.dst (.agg C)) w) : wpList P ops Q (o :: rest) a w := by
  refine wpList_plain hgd fun K hK => ?_
  unfold Oper.wp execOp
  simp only [ho, List.map_toArray, List.map_cons, List.map_nil, hx, hy, Sem.run_bind, hb, Result.andThen_ok]
  exact hK _ _ h
def tabC (n : Nat) : Array Value := ([Value.bool true, .int .i64 (n : Nat)] ++ List.replicate 1536 (Value.int .i64 0) ++ [Value.slice none 0 0]).toArray
theorem build_tab (n : Nat) (W : World) : (Instr.build 160 #[(0, .bool true), (1, .int .i64 (n : Nat))]).run Try.prog W = .ok (.agg (tabC n)) W := by
  kernel_rfl
theorem tabC_list (n : Nat) : (tabC n).toList = [Value.bool true, .int .i64 (n : Nat)] ++ flatE (fun _ => Ent.zero) 512 ++ [Value.slice none 0 0] := by
  unfold tabC
  rw [flatE_zero, List.toList_toArray]
theorem tab_new (w : World) (n : Nat) (A : Array Value) (hA : A = tabC n) : TabM (w.alloc (.cells A 160)) w.heap.size w.heap.size n (fun _ => Ent.zero) [] (.slice none 0 0) := by
  subst hA
  have hs : (tabC n).size = 1539 := by rw [← Array.length_toList, tabC_list, box_len]
  have h := own_lit w w.heap.size (tabC n) 160 (by rw [hs]; decide) (Nat.le_refl _)
  rw [tabC_list, hs] at h
  exact ⟨h, Own.nil _ _ _, by simp [Value.ownBlock], fun k f hf => by simp at hf, fun k k' f f' hf => by simp at hf⟩
theorem TabM.mono {w : World} {B B' g sy : Nat} {E : Nat → Ent} {fs : List Sub} {vf : Value} (h : TabM w B g sy E fs vf) (hB : B' ≤ B) : TabM w B' g sy E fs vf :=
  ⟨h.box.mono hB, h.outer.mono hB, h.ne, fun k f hf => ⟨(h.rows k f hf).1.mono hB, (h.rows k f hf).2⟩, h.apart⟩
/-- a table of the lengths L in block g -/
def TabAt (w : World) (B g : Nat) (L : List Nat) : Prop := ∃ E fs vf, TabM w B g L.length E fs vf ∧ TabOk L L.length E fs
/-- what 'New' answers -/
def RetTab (l : List Int) (w : World) (e : Ending) (w' : World) : Prop :=
  Below w.heap.size w w' ∧ ((errI l = 0 ∧ ∃ g, e = .returned (.tuple #[.pointer (some ⟨g, 0, none⟩), .int .i64 0]) ∧ TabAt w' w.heap.size g (l.map Int.toNat)) ∨ (errI l ≠ 0 ∧ e = .returned (.tuple #[.pointer none, .int .i64 (errI l : Nat)])))
theorem IntsAt.upB {w w' : World} {v : Value} {l : List Int} {n : Nat} (h : IntsAt w v l) (hn : w.heap.size ≤ n) (hb : Below n w w') : IntsAt w' v l := h.up (hb.mono hn)
theorem i64_mask (c r : Nat) (hr : r ≤ 6) (hc : c ≤ 32768) : bits .and .i64 (c : Int) (((2 ^ r : Nat) : Int) - 1) = ((c % 2 ^ r : Nat) : Int) := by
  have hp : 2 ^ r ≤ 2 ^ 6 := Nat.pow_le_pow_right (by decide) hr
  have hp1 : 1 ≤ 2 ^ r := Nat.pow_pos (by decide)
  have e : ((2 ^ r : Nat) : Int) - 1 = ((2 ^ r - 1 : Nat) : Int) := by omega
  rw [e, (bits_nat .i64 63 (by decide) (fun n h0 h1 => by rw [IntKind.wrap_i64]; omega) c (2 ^ r - 1) (by omega) (by omega)).1, Nat.and_two_pow_sub_one_eq_mod]
set_option maxRecDepth 100000 in
set_option maxHeartbeats 4000000 in
theorem newP (v : Value) (l : List Int) (w : World) (h : IntsAt w v l) : Calls Try.prog 87 #[v] w (RetTab l w) := by
  have HCO : Hid (Calls Try.prog 112 #[v] w (RetCodes l w)) := Lib.hid (codesP v l w h)
  unfold RetTab
  unfold RetCodes at HCO
  by_cases he : errI l = 0
  · rw [he] at HCO ⊢
    obtain ⟨L, rfl, hlen, h15, hk⟩ := errI_zero he
    rw [nls_toNat, if_pos rfl] at HCO
    rw [nls_toNat]
    have H15 : Hid (∀ i, i < L.length → L.getD i 0 ≤ 15) := Lib.hid (fun i hi => h15 _ (getD_mem L i 0 hi))
    have HCL : Hid (∀ i, i < L.length → codeN L i < 2 ^ L.getD i 0) := Lib.hid (code_lt h15 hk)
    have HV := Lib.hid h
    obtain ⟨oa, cap, b, off, rfl, hd, hc⟩ := h.open
    rw [nls_length] at hd hc
    rw [nls_length] at HCO HV ⊢
    have hix := index_any (P := Try.prog) 39 3 Try.underlying39 (by kernel_rfl) hd
    have hm := hd.len
    have hbk := hd.hblk
    have HC : Hid (∀ i, i < L.length → w.cell? ⟨b, off + i, none⟩ = some (.int .i64 (L.getD i 0 : Nat))) := Lib.hid (fun i hi => by rw [hc i hi, nls_getD])
    have H15' := Lib.hid h15
    have HK := Lib.hid hk
    clear h hd hc he h15 hk
    have hbd := build_tab L.length
    obtain ⟨A, hA⟩ : ∃ A, A = tabC L.length := ⟨_, rfl⟩
    rw [← hA] at hbd
    have HA := Lib.hid hA
    clear hA
    go_enter Try.func87, Try.ntmps87
    go_wp2_with (first | (go_at_call 112; refine HCO.out.mono ?_; rintro e w1 ⟨vc, rfl, hq3, hq4⟩; have HQ3 := Lib.hid hq3; have HQ4 := Lib.hid hq4; clear hq3 hq4) | (refine wpList_build2 rfl 160 0 1 _ _ rfl (.bool true) (.int .i64 (L.length : Nat)) rfl rfl A hbd ?_))
    have HT0 := Lib.hid (tab_new w1 L.length A HA.out)
    have hsz1 := HQ4.out.size
    have HBL1 := Lib.hid (below_alloc w1 (.cells A 160))
    generalize w1.alloc (.cells A 160) = w2 at *
    clear hbd HA HCO
    have hgg := hsz1
    have HIV1 : Hid (IntsAt w1 (.slice oa L.length cap) (nls L)) := Lib.hid (HV.out.up HQ4.out)
    have HIC1 : Hid (IntsAt w1 vc (nls (codesN L))) := Lib.hid HQ3.out.sl
    obtain ⟨oc, cc, bc, fc, rfl, hdc, hcc⟩ := (show IntsAt w1 vc (nls (codesN L)) from HQ3.out.sl).open
    rw [show (nls (codesN L)).length = L.length by rw [nls_length, codesN_length]] at hdc hcc HIC1 ⊢
    have hixc := index_any (P := Try.prog) 39 3 Try.underlying39 (by kernel_rfl) hdc
    have HCC : Hid (∀ i, i < L.length → w1.cell? ⟨bc, fc + i, none⟩ = some (.int .i64 (codeN L i : Nat))) := Lib.hid (fun i hi => by rw [hcc i hi, nls_getD, codesN_getD L i hi])
    have HC1 : Hid (∀ i, i < L.length → w1.cell? ⟨b, off + i, none⟩ = some (.int .i64 (L.getD i 0 : Nat))) := Lib.hid (fun i hi => (HQ4.out.cell (p := ⟨b, off + i, none⟩) (hbk (by omega))).trans (HC.out i hi))
    have hbkc := hdc.hblk
    have hbk1 : 0 < L.length → b < w1.heap.size := fun h => by have := hbk h; omega
    clear hdc hcc HQ3 HC hbk HV
    go_loopg [25] L.length (fun gk iv wr => ∃ (i : Nat) (E : Nat → Ent) (fs : List Sub) (vf : Value), i ≤ L.length ∧ iv = .int .i64 i ∧ TabM wr w1.heap.size w1.heap.size L.length E fs vf ∧ Hid (TabOk L i E fs) ∧ fs.length ≤ i ∧ Below w1.heap.size w1 wr ∧ gk = L.length - i)
    case atStart => exact ⟨0, _, _, _, Nat.zero_le _, rfl, HT0.out, Lib.hid (TabOk.start L), Nat.le_refl _, HBL1.out, rfl⟩
    case round =>
      clear HT0 HBL1
      obtain ⟨i, E, fs, vf, hi, rfl, hM, HOK, hfs, hbel, rfl⟩ := hrel
      have HM := Lib.hid hM
      have HBL := Lib.hid hbel
      have hszr := hbel.size
      clear hM hbel
      by_cases hlt : i < L.length
      · have hb1 := hbk1 (by omega)
        have hbc1 := hbkc (by omega)
        have hcell := (HBL.out.cell (p := ⟨b, off + i, none⟩) hb1).trans (HC1.out i hlt)
        have hcellc := (HBL.out.cell (p := ⟨bc, fc + i, none⟩) hbc1).trans (HCC.out i hlt)
        have hbr : b < wr.heap.size := by omega
        have hbcr : bc < wr.heap.size := by omega
        have hx15 := H15.out i hlt
        have hcl := HCL.out i hlt
        have HNO := Lib.hid (HOK.out.none)
        have HSH := Lib.hid (fun h0 h9 => HOK.out.short hlt H15'.out HK.out h0 h9)
        have hc15 : codeN L i ≤ 32768 := by
          have : 2 ^ L.getD i 0 ≤ 2 ^ 15 := Nat.pow_le_pow_right (by decide) hx15
          omega
        have HGX : Hid (L.getD i 0 = L.getD i 0) := Lib.hid rfl
        generalize hx : L.getD i 0 = x at *
        generalize hcd : codeN L i = c at *
        have HX := Lib.hid hx
        have HCD := Lib.hid hcd
        clear hx hcd
        by_cases hx0 : x = 0
        · have e0 : ((x : Int) == 0) = true := by rw [hx0]; rfl
          have HN2 := Lib.hid (HNO.out hx0)
          clear hx0
          go_wp2
          go_roundg (L.length - (i + 1))
          case measure => omega
          case rel => exact ⟨i + 1, E, fs, vf, by omega, by go_num, HM.out, HN2, by omega, HBL.out, rfl⟩
        · have e0 : ((x : Int) == 0) = false := by simpa using hx0
          have hg0 := HM.out.blk.2
          by_cases hx9 : x ≤ 9
          · have hx9i : (x : Int) ≤ 9 := by omega
            have HS2 := Lib.hid (HSH.out hx0 hx9)
            clear hx0
            go_wp2
            have HFL : Hid (Calls Try.prog 113 #[.slice (some ⟨w1.heap.size, 2, none⟩) 512 512, .int .i64 c, .int .i64 x, .agg (entV ⟨i, x, 0⟩)] wr.drew fun en w' => en = .returned (.tuple #[]) ∧ Own w' w1.heap.size 160 (.slice (some ⟨w1.heap.size, 0, none⟩) 1539 1539) ([.bool true, .int .i64 (L.length : Nat)] ++ flatE (fillN E c x ⟨i, x, 0⟩) 512 ++ [vf]) ∧ wr.drew.grownBy w' (some w1.heap.size)) := Lib.hid (fillP (HM.out.box.up (b_drew1 (Below.refl wr.heap.size wr))) rfl c x (by omega) (by decide) ⟨i, x, 0⟩)
            refine wp_region_tailg [0,1,2,3,4,5,6,7,8,9,10,11] [] [12] (by kernel_rfl) (by kernel_rfl) ?_
            simp only [pick, List.map_cons, List.map_nil, List.getD_cons_zero, List.getD_cons_succ]
            repeat (go_big_quiet_step (fail))
            refine wpQuiet_nil ?_
            unfold wpAct
            unfold wpAct
            go_wp2_with (go_at_call 113; refine HFL.out.mono ?_; rintro en w5 ⟨rfl, hq5, hq6⟩; have HQ5 := Lib.hid hq5; have HQ6 := Lib.hid hq6; clear hq5 hq6)
            refine ⟨trivial, ?_⟩
            unfold wpAct
            have HM5 : Hid (TabM w5 w1.heap.size w1.heap.size L.length (fillN E c x ⟨i, x, 0⟩) fs vf) := Lib.hid ((HM.out.up (b_drew1 (Below.refl wr.heap.size wr))).wrote HQ6.out HQ5.out)
            have HBL5 : Hid (Below w1.heap.size w1 w5) := Lib.hid ((b_drew1 HBL.out).grown HQ6.out (by show w1.heap.size ≤ wr.heap.size; omega) (fun k hk => by cases hk; exact Nat.le_refl _))
            clear HM HBL HQ5 HQ6 HFL
            go_wp2
            go_roundg (L.length - (i + 1))
            case measure => omega
            case rel => exact ⟨i + 1, _, fs, vf, by omega, by go_num, HM5.out, HS2, by omega, HBL5.out, rfl⟩
          · have hx9i : ¬ (x : Int) ≤ 9 := by omega
            have e9 : (x : Int) - 9 = ((x - 9 : Nat) : Int) := by omega
            have hd512 : c / 2 ^ (x - 9) < 512 := by
              rw [Nat.div_lt_iff_lt_mul (Nat.pow_pos (by decide)), show (512 : Nat) = 2 ^ 9 by decide, ← Nat.pow_add, show 9 + (x - 9) = x by omega]
              exact hcl
            have eh : (c : Int) / 2 ^ (x - 9) = ((c / 2 ^ (x - 9) : Nat) : Int) := by norm_cast
            have HBR : Hid (Calls Try.prog 114 #[.pointer (some ⟨w1.heap.size, 0, none⟩), .slice oa L.length cap, .slice oc L.length cc, .int .i64 (c / 2 ^ (x - 9) : Nat)] wr fun e w' => ∃ (k : Nat) (f : Sub) (E' : Nat → Ent) (fs' : List Sub) (vf' : Value), e = .returned (subV f) ∧ f.m ≤ 6 ∧ fs'[k]? = some f ∧ fs'.length ≤ i + 1 ∧
                TabM w' w1.heap.size w1.heap.size L.length E' fs' vf' ∧ Below w1.heap.size wr w' ∧ TabOk L (i + 1) E' (fs'.set k ⟨f.g, f.m, fillN f.F (c % 2 ^ (x - 9)) (x - 9) ⟨i, x, 0⟩⟩)) := Lib.hid (by
              have h1 := branchAny HM.out (.slice oa L.length cap) (.slice oc L.length cc) L (HIV1.out.upB (Nat.le_refl _) HBL.out) (HIC1.out.upB (Nat.le_refl _) HBL.out) hlen H15'.out HK.out HOK.out hlt (by rw [HX.out]; omega) (c / 2 ^ (x - 9)) (by rw [HX.out, HCD.out]) hfs
              rw [HX.out, HCD.out] at h1
              exact h1)
            have hr6 : x - 9 ≤ 6 := by omega
            have hr1 : 1 ≤ x - 9 := by omega
            have HMSK : Hid (bits .and .i64 (c : Int) (((2 ^ (x - 9) : Nat) : Int) - 1) = ((c % 2 ^ (x - 9) : Nat) : Int)) := Lib.hid (i64_mask c (x - 9) hr6 hc15)
            generalize hr : x - 9 = r at *
            generalize c / 2 ^ r = head at *
            obtain ⟨q, hq⟩ : ∃ q, q = 2 ^ r := ⟨_, rfl⟩
            have hq64 : q ≤ 64 := by rw [hq]; exact Nat.le_trans (Nat.pow_le_pow_right (by decide) hr6) (by decide)
            have hqi : (2 : Int) ^ r = (q : Int) := by rw [hq]; norm_cast
            have hq1 : 1 ≤ q := by rw [hq]; exact Nat.pow_pos (by decide)
            rw [← hq] at HMSK
            rw [hqi] at eh
            have HQ := Lib.hid hq
            clear hq hcl hx0
            go_wp2_with (go_at_call 114; (with_reducible refine HBR.out.mono ?_; rintro en w5 ⟨k, f, E', fs', vf', rfl, hm6, hfk, hfl, hM5, hB5, hok5⟩; have HM5 := Lib.hid hM5; have HB5 := Lib.hid hB5; have HOK5 := Lib.hid hok5; have HFK := Lib.hid hfk; have HM6 := Lib.hid hm6; have hcellc5 := (hB5.cell (p := ⟨bc, fc + i, none⟩) hbc1).trans hcellc; have hbcr5 : bc < w5.heap.size := Nat.lt_of_lt_of_le hbcr (hB5.size); clear hM5 hB5 hok5 hfk hm6))
            have h2m : 2 ^ f.m ≤ 65536 := Nat.le_trans (Nat.pow_le_pow_right (by decide) HM6.out) (by decide)
            have HFL : Hid (Calls Try.prog 113 #[subV f, .int .i64 (c % 2 ^ r : Nat), .int .i64 r, .agg #[.int .i64 i, .int .i64 x, .int .i64 0]] w5 fun en w' => en = .returned (.tuple #[]) ∧
                Own w' w1.heap.size 156 (.slice (some ⟨f.g, 0, none⟩) (3 * 2 ^ f.m) (3 * 2 ^ f.m)) ([] ++ flatE (fillN f.F (c % 2 ^ r) r ⟨i, x, 0⟩) (2 ^ f.m) ++ []) ∧ w5.grownBy w' (some f.g)) := Lib.hid (fillP (o := 0) ((HM5.out.rows k f HFK.out).1.nil3) rfl (c % 2 ^ r) r (by omega) h2m ⟨i, x, 0⟩)
            rw [HMSK.out]
            rw [← HQ.out] at HFL
            with_reducible refine HFL.out.mono ?_
            rintro en w6 ⟨rfl, hq5, hq6⟩
            rw [List.nil_append, List.append_nil, HQ.out] at hq5
            have HM7 := Lib.hid (HM5.out.wroteSub HFK.out hq6 hq5)
            have HBL7 : Hid (Below w1.heap.size w1 w6) := Lib.hid ((HBL.out.trans HB5.out).grown hq6 (HBL.out.trans HB5.out).size (fun k hk => by cases hk; exact (HM5.out.rows _ f HFK.out).1.blk.1))
            have hfl7 : (fs'.set k ⟨f.g, f.m, fillN f.F (c % 2 ^ r) r ⟨i, x, 0⟩⟩).length ≤ i + 1 := by rw [List.length_set]; exact hfl
            clear hq5 hq6 HFL HM5 HB5 HM HBL h2m HBR HMSK hcellc5 hbcr5 hcell hcellc
            go_wp2
            go_roundg (L.length - (i + 1))
            case measure => omega
            case rel => exact ⟨i + 1, E', _, vf', by omega, by go_num, HM7.out, HOK5, hfl7, HBL7.out, rfl⟩
      · obtain rfl : i = L.length := by omega
        go_wp2
        go_ret2
        exact ⟨HQ4.out.trans (HBL.out.mono hsz1), .inl ⟨by trivial, _, rfl, E, fs, vf, HM.out.mono hsz1, HOK.out⟩⟩
  · have hne : ¬ (errI l : Int) = 0 := by omega
    rw [if_neg he] at HCO
    have HE := Lib.hid he
    clear he h
    generalize errI l = q at *
    go_enter Try.func87, Try.ntmps87
    go_wp2_with (go_at_call 112; refine HCO.out.mono ?_; rintro e w1 ⟨vc, rfl, hq3, hq4⟩; have HQ4 := Lib.hid hq4; clear hq3 hq4)
    go_ret2
    exact ⟨HQ4.out, .inr ⟨HE.out, rfl⟩⟩
end Go.Cm

/- The walks of the reading of a symbol by a table. Conditions: the table and the reader are there. -/
namespace Go.Cm
open Go.RowKit Go.Proofs

theorem Own.whole {w : World} {B T g n : Nat} {xs : List Value} (h : Own w B T (.slice (some ⟨g, 0, none⟩) n n) xs) : ∃ A, w.heap[g]? = some (.cells A T (0, 0)) ∧ A.size = n ∧ A.toList = xs := by
  have hl := h.len
  rcases h.1.2 with ⟨h1, _⟩ | ⟨g', cap, cur, h1, _, hg, hnc, hcm, hcs, htake⟩
  · cases h1
  · simp only [Value.slice.injEq, Option.some.injEq, Addr.mk.injEq, and_true] at h1
    obtain ⟨rfl, h2, rfl⟩ := h1
    have hs : cur.size = n := by omega
    refine ⟨cur, hg, hs, ?_⟩
    rw [← htake, List.take_of_length_le]
    rw [Array.length_toList]; omega
theorem ext3 {A : Array Value} {pre post : List Value} {E : Nat → Ent} {n x o : Nat} (hA : A.toList = pre ++ flatE E n ++ post) (ho : pre.length = o) (hx : x < n) : A.extract (o + 3 * x) (o + 3 * x + 3) = entV (E x) := by
  have hs : A.size = pre.length + 3 * n + post.length := by rw [← Array.length_toList, hA]; simp [flatE_length]; omega
  refine Array.ext (by simp [entV]; omega) fun k h1 h2 => ?_
  have hk : k < 3 := by simpa [entV] using h2
  rw [Array.getElem_extract]
  have hg : A[o + 3 * x + k]? = some (.int .i64 (cellE (E x) k : Nat)) := by
    rw [← Array.getElem?_toList, hA, List.append_assoc, List.getElem?_append_right (by omega), List.getElem?_append_left (by rw [flatE_length]; omega), show o + 3 * x + k - pre.length = 3 * x + k by omega]
    exact flatE_at E n x k hx hk
  have hg2 := (Array.getElem?_eq_some_iff.1 hg).2
  rw [hg2]
  rcases (show k = 0 ∨ k = 1 ∨ k = 2 by omega) with rfl | rfl | rfl <;> rfl
theorem results_one_cell {P : Program} {fn : Func} {tmps : Array Value} {w : World} {a t : Nat} {ad : Addr} {v : Value} (hf : fn.results = #[.cell a t]) (ha : tmps.getD a undef = .pointer (some ad)) (hl : (loadVar t ad).run P w = .ok v w) :
    (results fn tmps).run P w = .ok v w := by
  have ha' : tmps[a]?.getD undef = .pointer (some ad) := by simpa using ha
  simp [results, hf, asAddr, ha', hl]
theorem ret_one_cell {P : Program} {fn : Func} {a : Act} {w : World} {s t : Nat} {ad : Addr} {x : Value} {R : Ending → World → Prop} (hf : fn.results = #[.cell s t]) (ha : a.tmps.getD s undef = .pointer (some ad)) (hd : a.defers = [])
    (hl : (loadVar t ad).run P w = .ok x w) (h : R (.returned x) w) : bodyPost P fn R .ret a w :=
  bodyPost_ret (v := x) (results_one_cell hf ha hl) hd h
theorem load_whole {P : Program} {w : World} {B T g n : Nat} {C : Array Value} (h : Own w B T (.slice (some ⟨g, 0, none⟩) n n) C.toList) (d : TypeDesc) (hu : P.underlying T = some d) (hd : (match d with | .struct _ | .array _ _ => true | _ => false) = true) (hi : (P.info? T).map (·.size) = some n) :
    (loadVar T ⟨g, 0, none⟩).run P w = .ok (.agg C) w := by
  obtain ⟨A, hg, hs, hA⟩ := h.whole
  have hl := run_loadVar_sub (P := P) w g 0 n T T A (0, 0) d hg hu hd hi (by omega)
  have e : A.extract 0 (0 + n) = C := by rw [Nat.zero_add, ← hs, Array.extract_size]; exact Array.toList_inj.1 hA
  rw [e] at hl
  exact hl
theorem i64_and (a r : Nat) (hr : r ≤ 15) (ha : a ≤ 65536) : bits .and .i64 (a : Int) (((2 ^ r : Nat) : Int) - 1) = ((a % 2 ^ r : Nat) : Int) := by
  have hp : 2 ^ r ≤ 2 ^ 15 := Nat.pow_le_pow_right (by decide) hr
  have hp1 : 1 ≤ 2 ^ r := Nat.pow_pos (by decide)
  have e : ((2 ^ r : Nat) : Int) - 1 = ((2 ^ r - 1 : Nat) : Int) := by omega
  rw [e, (bits_nat .i64 63 (by decide) (fun n h0 h1 => by rw [IntKind.wrap_i64]; omega) a (2 ^ r - 1) (by omega) (by omega)).1, Nat.and_two_pow_sub_one_eq_mod]
theorem look_zero {E : Nat → Ent} {fs : List Sub} {V : Nat} (h : (E (V % 512)).t = 0) : lookN E fs V = E (V % 512) := by
  unfold lookN; rw [h]
theorem look_succ {E : Nat → Ent} {fs : List Sub} {V k : Nat} {f : Sub} (h : (E (V % 512)).t = k + 1) (hf : fs[k]? = some f) : lookN E fs V = f.F (V / 512 % 2 ^ f.m) := by
  unfold lookN; rw [h]; simp only [hf]
def zE : Array Value := entV Ent.zero
theorem zero_ent (W : World) : (zeroValue 156).run Try.prog W = .ok (.agg zE) W := by kernel_rfl
set_option maxRecDepth 100000 in
set_option maxHeartbeats 1000000 in
theorem findP {w : World} {B g sy : Nat} {E : Nat → Ent} {fs : List Sub} {vf : Value} {L : List Nat} {i : Nat} (h : TabM w B g sy E fs vf) (hok : TabOk L i E fs) (V : Nat) (hV : V < 32768) :
    Calls Try.prog 139 #[.pointer (some ⟨g, 0, none⟩), .int .i64 V] w fun e w' => e = .returned (.agg (entV (lookN E fs V))) ∧ Below w.heap.size w w' := by
  have hz := zero_ent
  obtain ⟨Z, hZ⟩ : ∃ Z, Z = zE := ⟨_, rfl⟩
  have hZl : Z.toList.length = 3 := by rw [hZ]; rfl
  have hZs : Z.size = 3 := by rw [hZ]; rfl
  rw [← hZ] at hz
  clear hZ
  have hx : V % 512 < 512 := by omega
  obtain ⟨A, hA, hAs, hAl⟩ := h.box.whole
  have hext := ext3 hAl rfl hx
  simp only [pre2] at hext
  have hgl := h.blk.2
  have HM := Lib.hid h
  have hmask := i64_and V 9 (by omega) (by omega)
  have hixa := fun W => index_arr g 2 (V % 512) W hx
  have HFAR : Hid (∀ k, (E (V % 512)).t = k + 1 → ∃ f, fs[k]? = some f ∧ f.m ≤ 6) := Lib.hid (fun k hk => by obtain ⟨f, h1, h2, -⟩ := hok.far _ k hx hk; exact ⟨f, h1, h2⟩)
  clear h hok hAl
  have hmask2 : bits .and .i64 (V : Int) 511 = ((V % 512 : Nat) : Int) := hmask
  clear hmask
  obtain ⟨ex, hex⟩ : ∃ ex, ex = E (V % 512) := ⟨_, rfl⟩
  rw [← hex] at hext HFAR
  have HEX := Lib.hid hex
  clear hex
  have hes : (entV ex).size = 3 := rfl
  have he1 := entV_one ex
  have hget : (entV ex).toList.getD 2 undef = .int .i64 (ex.t : Nat) := rfl
  obtain ⟨VX, hVX⟩ : ∃ VX, VX = entV ex := ⟨_, rfl⟩
  rw [← hVX] at hext hes he1 hget
  have HVX := Lib.hid hVX
  clear hVX
  have hA5 : ((w.alloc (.cells Z 156))).heap[g]? = some (.cells A 160 (0, 0)) := ((below_alloc w _).block g hgl).trans hA
  have ho4 := own_lit w w.heap.size Z 156 (by omega) (Nat.le_refl _)
  rw [hZs] at ho4
  have ho5 := own_lit (w.alloc (.cells Z 156)) w.heap.size Z 156 (by omega) (by simp)
  rw [hZs, show (w.alloc (.cells Z 156)).heap.size = w.heap.size + 1 by simp] at ho5
  have HO4 := Lib.hid (ho4.up (below_alloc _ (.cells Z 156)))
  have HO5 := Lib.hid ho5
  clear ho4 ho5 hA
  obtain ⟨x, hxx⟩ : ∃ x, x = V % 512 := ⟨_, rfl⟩
  rw [← hxx] at hext HEX hixa hmask2 hx
  have HX := Lib.hid hxx
  clear hxx
  have HDR : Hid (∀ w2, Own w2 w.heap.size 156 (.slice (some ⟨w.heap.size + 1, 0, none⟩) 3 3) (VX.toList ++ Z.toList.drop VX.size) → Own w2 w.heap.size 156 (.slice (some ⟨w.heap.size + 1, 0, none⟩) 3 3) VX.toList) := Lib.hid (fun w2 h => by
    rw [List.drop_of_length_le (by omega), List.append_nil] at h; exact h)
  have HC5 : Hid (∀ w2, Own w2 w.heap.size 156 (.slice (some ⟨w.heap.size + 1, 0, none⟩) 3 3) VX.toList → w2.cell? ⟨w.heap.size + 1, 2, none⟩ = some (.int .i64 (ex.t : Nat))) := Lib.hid (fun w2 h => by
    rw [h.cell (by rw [Array.length_toList]; omega), hget])
  clear hget
  cases ht : ex.t with
  | zero =>
    rw [ht] at HC5
    have HLK : Hid (lookN E fs V = ex) := Lib.hid (by rw [look_zero (by rw [← HX.out, ← HEX.out]; exact ht), ← HX.out, ← HEX.out])
    go_enter Try.func139, Try.ntmps139
    go_wp2_with (first | (refine wpList_load_sub rfl 156 _ rfl g (2 + 3 * x) 3 rfl 160 A VX (0, 0) _ hA5 Try.underlying156 rfl (by kernel_rfl) (by omega) hext ?_) | (refine wpList_store_agg rfl 156 _ _ rfl w.heap.size 156 (w.heap.size + 1) 3 3 rfl VX rfl (by rw [hes]; kernel_rfl) Z.toList HO5.out (by omega) he1 ?_; intro w2 hown2 hg2; have HO2 := Lib.hid (HDR.out w2 hown2); have HG2 := Lib.hid hg2; have hc5 := HC5.out w2 HO2.out; have hs5 := HO2.out.blk.2; obtain ⟨A5, hA5g, hA5s, hA5l⟩ := HO2.out.whole; obtain rfl : A5 = VX := Array.toList_inj.1 hA5l; clear hown2 hg2 hA5l ) | (refine load_box rfl 156 3 _ rfl (w.heap.size + 1) rfl A5 hA5s hA5g _ Try.underlying156 rfl (by kernel_rfl) ?_) | (refine wpList_store_agg rfl 156 _ _ rfl w.heap.size 156 w.heap.size 3 3 rfl A5 rfl (by rw [hes]; kernel_rfl) Z.toList (HO4.out.keep HG2.out (.inr (by simp [Value.ownBlock]))) (by omega) he1 ?_; intro w6 hown6 hg6; rw [List.drop_of_length_le (by omega), List.append_nil] at hown6; have HO6 := Lib.hid hown6; have HG6 := Lib.hid hg6; clear hown6 hg6))
    refine ret_one_cell (s := 4) (ad := ⟨w.heap.size, 0, none⟩) (x := .agg A5) rfl rfl rfl (load_whole (n := 3) HO6.out _ Try.underlying156 rfl (by kernel_rfl)) ?_
    refine ⟨by rw [HLK.out, ← HVX.out], ?_⟩
    have h1 : Below w.heap.size w ((w.alloc (.cells Z 156)).alloc (.cells Z 156)) := (by repeat (first | exact Below.refl _ _ | assumption | refine b_drewN ?_ _ | refine Below.drew ?_ | refine b_ext' ?_ _ | refine b_alloc' ?_ _))
    exact (h1.grown HG2.out h1.size (fun k hk => by cases hk; omega)).grown HG6.out (by have := h1.size; have := HG2.out.size; omega) (fun k hk => by cases hk; exact Nat.le_refl _)
  | succ k =>
    rw [ht] at HC5
    obtain ⟨f, hf, hm6⟩ := HFAR.out k ht
    have HLK : Hid (lookN E fs V = f.F (V / 512 % 2 ^ f.m)) := Lib.hid (look_succ (by rw [← HX.out, ← HEX.out]; exact ht) hf)
    have hkl : k < fs.length := (List.getElem?_eq_some_iff.1 hf).1
    have hy : V / 512 % 2 ^ f.m < 2 ^ f.m := Nat.mod_lt _ (Nat.pow_pos (by decide))
    have hrow := HM.out.rows k f hf
    obtain ⟨Af, hAf, hAfs, hAfl⟩ := hrow.1.nil3.whole
    have hextf := ext3 (o := 0) hAfl rfl hy
    have hcv := HM.out.cv
    obtain ⟨of, cf, gf, rfl, hdf, -, hcf, -⟩ := HM.out.outer.cases
    rw [List.length_map] at hdf hcf hcv
    have hixf := index_any (P := Try.prog) 158 162 Try.underlying158 (by kernel_rfl) hdf
    have hixk := fun W => hixf W .i64 (k : Int) (by omega) (by omega)
    rw [Int.toNat_natCast, Nat.zero_add] at hixk
    have hck := hcf k hkl
    have hsub : (fs.map subV).getD k undef = subV f := by rw [List.getD_eq_getElem?_getD, List.getElem?_map, hf]; rfl
    rw [hsub] at hck
    have hgf := hdf.hblk (by omega)
    have hgff := hrow.1.blk.2
    have hmaskf := i64_and (V / 512) f.m (by omega) (by omega)
    have hixe := index_ent f.g 0
    have hk63 : k ≤ 140737488351232 := by have := HM.out.outer.2; rw [List.length_map] at this; omega
    unfold subV at hck
    rw [Nat.zero_add] at hextf
    have HBA : Hid (∀ w2, ((w.alloc (.cells Z 156)).alloc (.cells Z 156)).grownBy w2 (some (w.heap.size + 1)) → Below w.heap.size w w2) := Lib.hid (fun w2 hg => by
      have h1 : Below w.heap.size w ((w.alloc (.cells Z 156)).alloc (.cells Z 156)) := (by repeat (first | exact Below.refl _ _ | assumption | refine b_drewN ?_ _ | refine Below.drew ?_ | refine b_ext' ?_ _ | refine b_alloc' ?_ _))
      exact h1.grown hg h1.size (fun k hk => by cases hk; omega))
    have hAfz : Af.size = 3 * 2 ^ f.m := hAfs
    have hm64 : 2 ^ f.m ≤ 64 := Nat.le_trans (Nat.pow_le_pow_right (by decide) hm6) (by decide)
    have ez : (V : Int) / 512 = ((V / 512 : Nat) : Int) := by omega
    have hz64 : V / 512 ≤ 64 := by omega
    clear hixf hdf hcf hsub hAfl hrow hf
    generalize V / 512 = z at *
    generalize hn : 2 ^ f.m = n at *
    generalize z % n = y at *
    have hixy := fun W => hixe n W y hy
    rw [Nat.zero_add] at hixy
    have hfe := entV_one (f.F y)
    have hfs3 : (entV (f.F y)).size = 3 := rfl
    obtain ⟨VF, hVF⟩ : ∃ VF, VF = entV (f.F y) := ⟨_, rfl⟩
    rw [← hVF] at hextf hfe hfs3
    have HVF := Lib.hid hVF
    clear hVF hixe hn ht
    go_enter Try.func139, Try.ntmps139
    go_wp2_with (first | (refine wpList_load_sub rfl 156 _ rfl g (2 + 3 * x) 3 rfl 160 A VX (0, 0) _ hA5 Try.underlying156 rfl (by kernel_rfl) (by omega) hext ?_) | (refine wpList_store_agg rfl 156 _ _ rfl w.heap.size 156 (w.heap.size + 1) 3 3 rfl VX rfl (by rw [hes]; kernel_rfl) Z.toList HO5.out (by omega) he1 ?_; intro w2 hown2 hg2; have HO2 := Lib.hid (HDR.out w2 hown2); have HG2 := Lib.hid hg2; have hc5 := HC5.out w2 HO2.out; have hs5 := HO2.out.blk.2; have hb2 := HBA.out w2 hg2; have HB2 := Lib.hid hb2; have hcv2 := (hb2.cell (p := ⟨g, 1538, none⟩) hgl).trans hcv; have hck2 := (hb2.cell (p := ⟨gf, k, none⟩) hgf).trans hck; have hAf2 := (hb2.block f.g hgff).trans hAf; have hg2w : g < w2.heap.size := Nat.lt_of_lt_of_le hgl hb2.size; have hgf2w : gf < w2.heap.size := Nat.lt_of_lt_of_le hgf hb2.size; clear hown2 hg2 hb2 hcv hck))
    go_quiet (fail)
    have hAfq : (w2.drewN nq).heap[f.g]? = some (.cells Af 156 (0, 0)) := hAf2
    have HO4q := Lib.hid ((HO4.out.keep HG2.out (.inr (by simp [Value.ownBlock]))).up (below_drewN w2 nq))
    have HB2q := Lib.hid (HB2.out.trans ((below_drewN w2 nq).mono HB2.out.size))
    have hsq : f.g < (w2.drewN nq).heap.size := Nat.lt_of_lt_of_le hgff HB2q.out.size
    clear hcv2 hck2 hAf2 hg2w hgf2w HB2 HG2 HO2 hc5 hs5 HC5 HDR HBA
    generalize w2.drewN nq = wq at *
    go_wp2_with (first | (refine wpList_load_sub rfl 156 _ rfl f.g (3 * y) 3 rfl 156 Af VF (0, 0) _ hAfq Try.underlying156 rfl (by kernel_rfl) (by omega) hextf ?_) | (refine wpList_store_agg rfl 156 _ _ rfl w.heap.size 156 w.heap.size 3 3 rfl VF rfl (by rw [hfs3]; kernel_rfl) Z.toList HO4q.out (by omega) hfe ?_; intro w6 hown6 hg6; rw [List.drop_of_length_le (by omega), List.append_nil] at hown6; have HO6 := Lib.hid hown6; have HG6 := Lib.hid hg6; clear hown6 hg6))
    refine ret_one_cell (s := 4) (ad := ⟨w.heap.size, 0, none⟩) (x := .agg VF) rfl rfl rfl (load_whole (n := 3) HO6.out _ Try.underlying156 rfl (by kernel_rfl)) ?_
    refine ⟨by rw [HLK.out, ← HVF.out], ?_⟩
    exact HB2q.out.grown HG6.out HB2q.out.size (fun k hk => by cases hk; exact Nat.le_refl _)
end Go.Cm

/- The walk of the reading of a symbol by a table. Conditions: the table and the reader are there. -/
namespace Go.Cm
open Go.RowKit Go.Proofs

def zR : Array Value := #[.bool false, .string ⟨#[]⟩, .int .i64 0]
theorem zero_rd (W : World) : (zeroValue 129).run Try.prog W = .ok (.agg zR) W := by kernel_rfl
theorem BoxS.keep {w w' : World} {g p : Nat} {s : ByteArray} {row : Option Nat} (h : BoxS w g s p) (hg : w.grownBy w' row) (hne : row ≠ some g) : BoxS w' g s p := ⟨h.own.keep hg (.inr (fun e => hne e.symm))⟩
set_option maxRecDepth 100000 in
theorem copyS {w : World} {g p : Nat} {s : ByteArray} (h : BoxS w g s p) : Calls Try.prog 62 #[.pointer (some ⟨g, 0, none⟩)] w fun e w' => (∃ b, e = .returned (.pointer (some ⟨b, 0, none⟩))) ∧ Below w.heap.size w w' := by
  have HB := Lib.hid h
  have hg := h.lt
  obtain ⟨A, hA, hAs, hAl⟩ := h.own.whole
  have hA1 : ∀ u ∈ A.toList, u.oneCell' = true := by
    rw [hAl]; intro u hu; simp at hu; rcases hu with rfl | rfl | rfl <;> rfl
  have hz := zero_rd
  obtain ⟨Z, hZ⟩ : ∃ Z, Z = zR := ⟨_, rfl⟩
  have hZl : Z.toList.length = 3 := by rw [hZ]; rfl
  have hZs : Z.size = 3 := by rw [hZ]; rfl
  rw [← hZ] at hz
  clear hZ hAl h
  have ho := own_lit w w.heap.size Z 129 (by omega) (Nat.le_refl _)
  rw [hZs] at ho
  have HO := Lib.hid ho
  clear ho
  go_enter Try.func62, Try.ntmps62
  go_wp2_with (first | (go_at_call 88; refine (thereS HB.out).mono ?_; rintro e w' ⟨rfl, hw'⟩; rw [hw']; clear hw') | (refine load_box rfl 129 3 _ rfl g rfl A hAs hA _ Try.underlying129 rfl (by kernel_rfl) ?_) | (refine wpList_store_agg rfl 129 _ _ rfl w.heap.size 129 w.heap.size 3 3 rfl A rfl (by rw [hAs]; kernel_rfl) Z.toList HO.out (by omega) hA1 ?_; intro w2 hown2 hg2; have HG2 := Lib.hid hg2; clear hown2 hg2))
  go_ret
  exact ⟨⟨_, rfl⟩, (below_alloc w _).grown HG2.out (by simp) (fun k hk => by cases hk; exact Nat.le_refl _)⟩
theorem look_read {L : List Nat} {E : Nat → Ent} {fs : List Sub} (hok : TabOk L L.length E fs) (h15 : ∀ x ∈ L, x ≤ 15) (N p left : Nat) :
    ((lookN E fs (valN N p 15)).b = 0 → ReadN L (N / 2 ^ p) left 0 (if left < 15 then 2 else 9) 0) ∧
    ((lookN E fs (valN N p 15)).b ≠ 0 → (lookN E fs (valN N p 15)).b ≤ 15 ∧ ((lookN E fs (valN N p 15)).b ≤ left → ReadN L (N / 2 ^ p) left (lookN E fs (valN N p 15)).s 0 (lookN E fs (valN N p 15)).b) ∧ (left < (lookN E fs (valN N p 15)).b → ReadN L (N / 2 ^ p) left 0 2 0)) := by
  obtain ⟨h1, h2⟩ := hok.look h15 (valN N p 15)
  have hm : ∀ j, j < L.length → (hitN L (valN N p 15) j ↔ hitN L (N / 2 ^ p) j) := fun j hj => by
    unfold valN; exact hit_mod (h15 _ (getD_mem L j 0 hj))
  refine ⟨fun hb => ?_, fun hb => ?_⟩
  · refine .inr ⟨fun i hi hh => ?_, rfl, rfl, rfl⟩
    have := h1 i hi ((hm i hi).2 hh)
    rw [this] at hb
    exact absurd hb hh.1
  · obtain ⟨j, hj, hh⟩ := h2 hb
    have e := h1 j hj hh
    have hh' := (hm j hj).1 hh
    have hl := h15 _ (getD_mem L j 0 hj)
    rw [e]
    refine ⟨hl, fun hle => .inl ⟨hj, hh', hle, rfl, rfl⟩, fun hlt => .inr ⟨fun i hi hi2 => ?_, rfl, rfl, ?_⟩⟩
    · have := hit_one hi hj hi2 hh'; subst this; exact hlt
    · rw [if_pos]; simp only at hlt; omega
set_option maxRecDepth 100000 in
set_option maxHeartbeats 1000000 in
theorem readP {w : World} {B gt g p : Nat} {s : ByteArray} {L : List Nat} (hT : TabAt w B gt L) (h : BoxS w g s p) (h15 : ∀ x ∈ L, x ≤ 15) (hs : s.size ≤ 4294967296) (hp : p ≤ 8 * s.size) :
    Calls Try.prog 128 #[.pointer (some ⟨gt, 0, none⟩), .pointer (some ⟨g, 0, none⟩)] w (RetRead BoxS L s p g w) := by
  obtain ⟨E, fs, vf, hM, hok⟩ := hT
  have hv : valN (numS s) p 15 < 2 ^ 15 := Nat.mod_lt _ (Nat.pow_pos (by decide))
  obtain ⟨hlk0, hlk1⟩ := look_read hok h15 (numS s) p (8 * s.size - p)
  have HL0 := Lib.hid hlk0
  have HL1 := Lib.hid hlk1
  have hbx : (lookN E fs (valN (numS s) p 15)).b ≤ 15 := by
    by_cases hb : (lookN E fs (valN (numS s) p 15)).b = 0
    · omega
    · exact (hlk1 hb).1
  have HFI : Hid (∀ W, Below w.heap.size w W → Calls Try.prog 139 #[.pointer (some ⟨gt, 0, none⟩), .int .i64 (valN (numS s) p 15 : Nat)] W fun e w' => e = .returned (.agg (entV (lookN E fs (valN (numS s) p 15)))) ∧ Below W.heap.size W w') := Lib.hid (fun W hb => findP (hM.up hb) hok _ (by simpa using hv))
  have HB := Lib.hid h
  have HLF : Hid (∀ W, BoxS W g s p → Calls Try.prog 126 #[.pointer (some ⟨g, 0, none⟩)] W fun e w' => e = .returned (.int .i64 ((8 * s.size - p : Nat) : Int)) ∧ ∃ x, w' = ext W x) := Lib.hid (fun W h => leftS h hs hp)
  have HPK : Hid (∀ W, BoxS W g s p → Calls Try.prog 136 #[.pointer (some ⟨g, 0, none⟩), .int .i64 (15 : Nat)] W fun e w' => e = .returned (.int .i64 (valN (numS s) p 15 : Nat)) ∧ ∃ x, w' = ext W x) := Lib.hid (fun W h => peekS h hs hp 15 (by omega))
  have HSK : Hid (∀ W (n : Nat), BoxS W g s p → n ≤ 15 → n ≤ 8 * s.size - p → Calls Try.prog 137 #[.pointer (some ⟨g, 0, none⟩), .int .i64 n] W fun e w' => e = .returned (.int .i64 0) ∧ BoxS w' g s (p + n) ∧ W.grownBy w' (some g)) := Lib.hid (fun W n h hn hl => skipS h hs n (by omega) (by omega))
  have hc0 := hM.c0
  have hgt := hM.blk.2
  obtain ⟨en, hen⟩ : ∃ en, en = lookN E fs (valN (numS s) p 15) := ⟨_, rfl⟩
  rw [← hen] at HL0 HL1 HFI hbx
  clear hen hlk0 hlk1 h hv
  generalize valN (numS s) p 15 = V at *
  unfold RetRead
  obtain ⟨left, hleft⟩ : ∃ left, left = 8 * s.size - p := ⟨_, rfl⟩
  rw [← hleft] at HL0 HL1 HLF HSK ⊢
  clear hleft hM
  have hz := zero_ent
  obtain ⟨Z, hZ⟩ : ∃ Z, Z = zE := ⟨_, rfl⟩
  have hZl : Z.toList.length = 3 := by rw [hZ]; rfl
  have hZs : Z.size = 3 := by rw [hZ]; rfl
  rw [← hZ] at hz
  clear hZ
  have hes : (entV en).size = 3 := rfl
  have he1 := entV_one en
  have hget : (entV en).toList = [.int .i64 (en.s : Nat), .int .i64 (en.b : Nat), .int .i64 (en.t : Nat)] := rfl
  obtain ⟨VE, hVE⟩ : ∃ VE, VE = entV en := ⟨_, rfl⟩
  rw [← hVE] at hes he1 hget HFI
  clear hVE
  have HGT := Lib.hid hget
  clear hget
  have HON : Hid (∀ W : World, Own (W.alloc (.cells Z 156)) W.heap.size 156 (.slice (some ⟨W.heap.size, 0, none⟩) 3 3) Z.toList) := Lib.hid (fun W => by
    have h := own_lit W W.heap.size Z 156 (by omega) (Nat.le_refl _)
    rwa [hZs] at h)
  go_enter Try.func128, Try.ntmps128
  go_wp2_with (first | (go_at_call 62; refine (copyS HB.out).mono ?_; rintro e w1 ⟨⟨bb, rfl⟩, hb1⟩; have HB1 := Lib.hid hb1; have HX1 := Lib.hid (HPK.out w1 (HB.out.up hb1)); clear hb1) | (go_at_call 136; refine HX1.out.mono ?_; rintro e w2 ⟨rfl, x2, rfl⟩; have HB2 := Lib.hid (HB1.out.trans ((ext_below w1 x2).mono HB1.out.size))) | (go_at_call 139; refine (HFI.out _ HB2.out).mono ?_; rintro e w3 ⟨rfl, hb3⟩; have HB3 := Lib.hid (HB2.out.trans (hb3.mono HB2.out.size)); clear hb3) | (refine wpList_store_agg rfl 156 _ _ rfl w3.heap.size 156 w3.heap.size 3 3 rfl VE rfl (by rw [hes]; kernel_rfl) Z.toList (HON.out w3) (by omega) he1 ?_; intro w5 hown5 hg5; rw [List.drop_of_length_le (by omega), List.append_nil, HGT.out] at hown5; have HO5 := Lib.hid hown5; have HG5 := Lib.hid hg5; clear hown5 hg5))
  have HB5 : Hid (Below w.heap.size w w5) := Lib.hid ((HB3.out.alloc HB3.out.size _).grown HG5.out (by have := HB3.out.size; simp; omega) (fun k hk => by cases hk; exact HB3.out.size))
  have c60 : w5.cell? ⟨w3.heap.size, 0, none⟩ = some (.int .i64 (en.s : Nat)) := HO5.out.cell (by simp)
  have c61 : w5.cell? ⟨w3.heap.size, 1, none⟩ = some (.int .i64 (en.b : Nat)) := HO5.out.cell (by simp)
  have hg6 := HO5.out.blk.2
  have hgb6 : some w3.heap.size ≠ some g := by
    have h1 := HB.out.lt
    have h2 := HB3.out.size
    intro e; cases e; omega
  have HS5 := Lib.hid (HB.out.up HB5.out)
  have HL5 := Lib.hid (HLF.out w5 HS5.out)
  clear HO5 HG5 HB3 HX1 HB1 HB2 HFI HPK HGT HON hc0 hgt
  generalize w3.heap.size = b6 at *
  try simp only [Act.put]
  by_cases hb0 : en.b = 0
  · rw [hb0] at c61
    have HR := Lib.hid (HL0.out hb0)
    go_quiet (fail)
    have HS6 := Lib.hid (HS5.out.up (below_drewN w5 nq))
    have HB6 := Lib.hid (HB5.out.trans ((below_drewN w5 nq).mono HB5.out.size))
    have HL6 := Lib.hid (HLF.out _ HS6.out)
    clear HS5 HB5 HL5 c60 c61 hg6
    generalize w5.drewN nq = w6 at *
    by_cases hl15 : left < 15
    · rw [if_pos hl15] at HR
      have hli : (left : Int) < 15 := by omega
      go_wp2_with (go_at_call 126; refine HL6.out.mono ?_; rintro e w7 ⟨rfl, z, rfl⟩)
      go_ret2
      exact ⟨0, 2, 0, rfl, HR.out, HS6.out.up (ext_below _ _), grown_below (HB6.out.trans ((ext_below w6 _).mono HB6.out.size)) _⟩
    · rw [if_neg hl15] at HR
      have hli : ¬ (left : Int) < 15 := by omega
      go_wp2_with (go_at_call 126; refine HL6.out.mono ?_; rintro e w7 ⟨rfl, z, rfl⟩)
      go_ret2
      exact ⟨0, 9, 0, rfl, HR.out, HS6.out.up (ext_below _ _), grown_below (HB6.out.trans ((ext_below w6 _).mono HB6.out.size)) _⟩
  · have hbp : (en.b : Int) > 0 := by omega
    have hbn : 0 < en.b := by omega
    by_cases hbl : en.b ≤ left
    · have hbli : (en.b : Int) ≤ (left : Int) := by omega
      have HR := Lib.hid ((HL1.out hb0).2.1 hbl)
      go_wp2
      refine wp_region_ext (by kernel_rfl) (by kernel_rfl) ?_
      repeat (go_big_quiet_step ((go_at_call 126; exact calls_in (HLF.out _ (HS5.out.up (ext_below _ _))))))
      refine wpQuiet_nil ?_
      rintro w' ⟨y, rfl⟩
      have c60' : (ext w5 y).cell? ⟨b6, 0, none⟩ = some (.int .i64 (en.s : Nat)) := (cell?_ext w5 y b6 0 hg6).trans c60
      have c61' : (ext w5 y).cell? ⟨b6, 1, none⟩ = some (.int .i64 (en.b : Nat)) := (cell?_ext w5 y b6 1 hg6).trans c61
      have hg6' : b6 < (ext w5 y).heap.size := Nat.lt_of_lt_of_le hg6 (size_ext _ _)
      have HB6 : Hid (Below w.heap.size w (ext w5 y).drew) := Lib.hid (b_drew1 (HB5.out.trans ((ext_below w5 y).mono HB5.out.size)))
      have HS6 := Lib.hid (HSK.out (ext w5 y).drew en.b (HS5.out.up (b_drew1 (ext_below w5 y))) hbx hbl)
      clear HS5 HB5 HL5 c60 c61 hg6
      generalize ext w5 y = w6 at *
      go_wp2
      refine wp_region_row (some g) [0,1,2,3,4] [5,6,7] (by kernel_rfl) (by kernel_rfl) ?_
      simp only [pick, List.map_cons, List.map_nil, List.getD_cons_zero, List.getD_cons_succ]
      repeat (go_big_quiet_step (fail))
      refine wpQuiet_nil ?_
      unfold wpAct
      go_wp2_with (go_at_call 137; refine HS6.out.mono ?_; rintro e w7 ⟨rfl, hq1, hq2⟩; have HQ1 := Lib.hid hq1; have HQ2 := Lib.hid hq2; have HQ3 := Lib.hid (grown_trans (grown_drew w6 (some g)) hq2); clear hq1 hq2)
      refine ⟨ex_chg HQ3.out, ?_⟩
      (unfold wpAct; go_wp2; refine ⟨ex_chg HQ3.out, ?_⟩)
      (unfold wpAct; go_wp2; refine ⟨ex_chg HQ3.out, ?_⟩)
      unfold wpAct
      intro _
      go_wp2
      go_ret2
      exact ⟨en.s, 0, en.b, rfl, HR.out, HQ1.out, grown_trans (grown_below HB6.out _) HQ2.out⟩
    · have hbli : ¬ (en.b : Int) ≤ (left : Int) := by omega
      have HR := Lib.hid ((HL1.out hb0).2.2 (by omega))
      have hli : (left : Int) < 15 := by omega
      go_wp2
      refine wp_region_ext (by kernel_rfl) (by kernel_rfl) ?_
      repeat (go_big_quiet_step ((go_at_call 126; exact calls_in (HLF.out _ (HS5.out.up (ext_below _ _))))))
      refine wpQuiet_nil ?_
      rintro w' ⟨y, rfl⟩
      have HS6 := Lib.hid (HS5.out.up (ext_below w5 y))
      have HB6 := Lib.hid (HB5.out.trans ((ext_below w5 y).mono HB5.out.size))
      have HL6 := Lib.hid (HLF.out _ HS6.out)
      clear HS5 HB5 HL5 c60 c61 hg6
      generalize ext w5 y = w6 at *
      go_wp2_with (go_at_call 126; refine HL6.out.mono ?_; rintro e w7 ⟨rfl, z, rfl⟩)
      go_ret2
      exact ⟨0, 2, 0, rfl, HR.out, HS6.out.up (ext_below _ _), grown_below (HB6.out.trans ((ext_below w6 _).mono HB6.out.size)) _⟩
end Go.Cm

/- The walks of the further functions of the two bit readers. Conditions: the reader is there. -/
namespace Go.Cm
open Go.RowKit Go.Proofs

theorem BoxS.stay {w w' : World} {g p : Nat} {s : ByteArray} {row : Option Nat} (h : BoxS w g s p) (hg : w.grownBy w' row) (hne : row ≠ some g) : BoxS w' g s p := ⟨h.own.keep hg (.inr (fun e => hne e.symm))⟩
/-- what the next n bits are, what is wrong, and where the reader stands then -/
def bitsA (N T p n : Nat) : Nat × Nat × Nat := if p + n ≤ T then (valN N p n, 0, p + n) else (0, 2, p)
def RetBits (Bx : World → Nat → ByteArray → Nat → Prop) (s : ByteArray) (p n g : Nat) (w : World) (e : Ending) (w' : World) : Prop :=
  e = .returned (.tuple #[.int .i64 ((bitsA (numS s) (8 * s.size) p n).1 : Nat), .int .i64 ((bitsA (numS s) (8 * s.size) p n).2.1 : Nat)]) ∧ Bx w' g s (bitsA (numS s) (8 * s.size) p n).2.2 ∧ w.grownBy w' (some g)
theorem bitsA_le {N T p n : Nat} (hp : p ≤ T) : (bitsA N T p n).2.2 ≤ T ∧ p ≤ (bitsA N T p n).2.2 := by
  unfold bitsA; split
  · exact ⟨by assumption, by simp⟩
  · exact ⟨hp, Nat.le_refl _⟩
theorem skipShort {w : World} {g : Nat} {s : ByteArray} {p : Nat} (h : BoxS w g s p) (hs : s.size ≤ 4294967296) (n : Nat) (hn : n ≤ 32) (hp : p ≤ 8 * s.size) (hlt : 8 * s.size < p + n) : Calls Try.prog 137 #[.pointer (some ⟨g, 0, none⟩), .int .i64 n] w fun e w' => e = .returned (.int .i64 2) ∧ ∃ x, w' = ext w x := by
  have hd : decide (0 ≤ (n : Int) ∧ (n : Int) ≤ 32) = true := by simp; omega
  have HB := Lib.hid h
  have HL := Lib.hid (leftS h hs (by omega))
  have hl : (n : Int) > ((8 * s.size - p : Nat) : Int) := by omega
  obtain ⟨q, hq⟩ : ∃ q : Nat, q = 8 * s.size - p := ⟨_, rfl⟩
  rw [← hq] at HL hl
  clear hq h
  go_enter Try.func137, Try.ntmps137
  go_wp2_with (first | (go_at_call 88; refine (thereS HB.out).mono ?_; rintro e w' ⟨rfl, hw'⟩; rw [hw']; clear hw') | (go_at_call 91; refine (many _ _).mono ?_; rintro e w' ⟨rfl, hw'⟩; rw [hw', hd]; clear hw') | (go_at_call 126; refine HL.out.mono ?_; rintro e w' ⟨rfl, x, rfl⟩))
  go_ret
  exact ⟨rfl, (ex_ext (by repeat (first | exact Below.refl _ _ | assumption | refine b_drewN ?_ _ | refine Below.drew ?_ | refine b_ext' ?_ _ | refine b_alloc' ?_ _)))⟩
theorem bitsS {w : World} {g : Nat} {s : ByteArray} {p : Nat} (h : BoxS w g s p) (hs : s.size ≤ 4294967296) (n : Nat) (hn : n ≤ 32) (hp : p ≤ 8 * s.size) :
    Calls Try.prog 122 #[.pointer (some ⟨g, 0, none⟩), .int .i64 n] w (RetBits BoxS s p n g w) := by
  have HPK := Lib.hid (peekS h hs hp n hn)
  have HB := Lib.hid h
  unfold RetBits bitsA
  by_cases hl : p + n ≤ 8 * s.size
  · rw [if_pos hl]
    have HSK := Lib.hid (fun x => skipS (h.up (ext_below w x)) hs n hn hl)
    generalize valN (numS s) p n = v at *
    go_enter Try.func122, Try.ntmps122
    go_wp2_with (first | (go_at_call 136; (with_reducible refine HPK.out.mono ?_); rintro e w' ⟨rfl, x, rfl⟩) | (go_at_call 137; (with_reducible refine (HSK.out x).mono ?_); rintro e w2 ⟨rfl, hq1, hq2⟩; have HQ1 := Lib.hid hq1; have HQ2 := Lib.hid hq2; clear hq1 hq2))
    go_ret2
    exact ⟨rfl, HQ1.out, grown_trans (grown_below (ext_below w _) _) HQ2.out⟩
  · rw [if_neg hl]
    have HSK := Lib.hid (fun x => skipShort (h.up (ext_below w x)) hs n hn hp (by omega))
    generalize valN (numS s) p n = v at *
    go_enter Try.func122, Try.ntmps122
    go_wp2_with (first | (go_at_call 136; (with_reducible refine HPK.out.mono ?_); rintro e w' ⟨rfl, x, rfl⟩) | (go_at_call 137; (with_reducible refine (HSK.out x).mono ?_); rintro e w2 ⟨rfl, y, rfl⟩))
    go_ret2
    exact ⟨rfl, (HB.out.up (ext_below _ _)).up (ext_below _ _), grown_trans (grown_below (ext_below w _) _) (grown_below (ext_below _ _) _)⟩
/-- on to a byte -/
def alignN (p : Nat) : Nat := (p + 7) / 8 * 8
theorem alignS {w : World} {g : Nat} {s : ByteArray} {p : Nat} (h : BoxS w g s p) (hs : s.size ≤ 4294967296) (hp : p ≤ 8 * s.size) :
    Calls Try.prog 123 #[.pointer (some ⟨g, 0, none⟩)] w fun e w' => e = .returned (.tuple #[]) ∧ BoxS w' g s (alignN p) ∧ w.grownBy w' (some g) := by
  have HB := Lib.hid h
  have c2 := h.c2
  have f2 := h.free 2
  have hg := h.lt
  have e1 : ((p : Int) + 8 - 1) / 8 * 8 = ((alignN p : Nat) : Int) := by unfold alignN; omega
  have HST := Lib.hid (h.set2 (alignN p))
  have hap : alignN p ≤ 68719476736 := by unfold alignN; omega
  generalize alignN p = q at *
  clear h
  go_enter Try.func123, Try.ntmps123
  go_wp2_with (go_at_call 88; refine (thereS HB.out).mono ?_; rintro e w' ⟨rfl, hw'⟩; rw [hw']; clear hw')
  go_end0
  exact ⟨rfl, HST.out⟩
end Go.Cm

/- Whether all bits must be a code: the program's Fits and the document's. Conditions: the argument reads as a list. -/
namespace Go.Cm
open Go.RowKit Go.Proofs

/-- how many symbols have a code -/
def withN (L : List Nat) : Nat := L.length - L.count 0
/-- what is wrong of lengths, if all bits must be a code -/
def fitsE (l : List Int) (lone : Bool) : Nat :=
  if errI l ≠ 0 then errI l
  else if kraftN (l.map Int.toNat) = 32768 then 0
  else if lone = true ∧ (withN (l.map Int.toNat) = 0 ∨ (withN (l.map Int.toNat) = 1 ∧ (l.map Int.toNat).count 1 = 1)) then 0
  else if withN (l.map Int.toNat) = 0 then 17 else 8
theorem fitsE_bad {l : List Int} (lone : Bool) (h : errI l ≠ 0) : fitsE l lone = errI l := by unfold fitsE; rw [if_pos h]
theorem fitsE_nls {L : List Nat} (lone : Bool) (h : errI (nls L) = 0) : fitsE (nls L) lone = if kraftN L = 32768 then 0 else if lone = true ∧ (withN L = 0 ∨ (withN L = 1 ∧ L.count 1 = 1)) then 0 else if withN L = 0 then 17 else 8 := by
  unfold fitsE; rw [if_neg (by omega), nls_toNat]
theorem errI_list {l : List Int} (h : errI l = 0) : ∃ L, l = nls L ∧ L.length ≤ 320 ∧ (∀ x ∈ L, x ≤ 15) ∧ kraftN L ≤ 32768 := by
  have hw : wrongI l = 0 := by
    apply Classical.byContradiction; intro hn
    rw [errI_of_wrong hn] at h; exact hn h
  obtain ⟨hlen, hall⟩ := wrongI_zero hw
  obtain ⟨L, rfl, h15⟩ := nls_of hall
  rw [nls_length] at hlen
  rw [errI_nls hlen h15] at h
  refine ⟨L, rfl, hlen, h15, ?_⟩
  apply Classical.byContradiction; intro hn
  rw [if_pos (by omega)] at h; cases h
set_option maxRecDepth 100000 in
set_option maxHeartbeats 1000000 in
theorem fitsP (v : Value) (l : List Int) (lone : Bool) (w : World) (h : IntsAt w v l) : Calls Try.prog 116 #[v, .bool lone] w fun e w' => e = .returned (.int .i64 (fitsE l lone : Nat)) ∧ Below w.heap.size w w' := by
  have HCO := Lib.hid (codesP v l w h)
  unfold RetCodes at HCO
  by_cases hz : errI l = 0
  · have hw0 : wrongI l = 0 := by
      apply Classical.byContradiction; intro hn
      rw [errI_of_wrong hn] at hz; exact hn hz
    have HWR : Hid (∀ w', Below w.heap.size w w' → Calls Try.prog 130 #[v] w' (RetCounts l w')) := Lib.hid (fun w' hb => countsP v l w' (h.up hb))
    have hzz := zero_16
    obtain ⟨Z, hZ⟩ : ∃ Z, Z = z16 := ⟨_, rfl⟩
    rw [← hZ] at hzz
    have HZ := Lib.hid hZ
    clear hZ
    obtain ⟨L, rfl, hlen, h15, -⟩ := errI_list hz
    rw [fitsE_nls lone hz]
    rw [hz] at HCO
    unfold RetCounts at HWR
    rw [hw0] at HWR
    have HTP := Lib.hid (totalP L hlen)
    rw [totN_all L h15] at HTP
    have HCE : Hid (∀ c : List Nat, c.length = 16 → c = cntsN L → ∀ n, n < 16 → (nls c).getD n 0 = (L.count n : Nat)) := Lib.hid (fun c _ hc n hn => by rw [hc, nls_getD, cntsN_getD L n hn])
    have HBF : Hid (∀ w0 w1 w2 y : World, Below w.heap.size w w0 → Below w0.heap.size w0 w1 → (w1.alloc (.cells Z 173)).grownBy w2 (some w1.heap.size) → Below w.heap.size w (ext w2 y)) := Lib.hid (fun w0 w1 w2 y h0 h1 hg => by
      have h01 := below_up h0 h1
      have h02 : Below w.heap.size w w2 := (h01.trans ((below_alloc w1 _).mono h01.size)).grown hg (Nat.le_trans h01.size (by simp)) (fun k hk => by cases hk; exact h01.size)
      exact h02.trans ((ext_below w2 y).mono h02.size))
    obtain ⟨oa, cap, b, off, rfl, hd, hc⟩ := h.open
    rw [nls_length] at hd hc HWR HCO ⊢
    rw [nls_toNat] at HWR
    have hm := hd.len
    clear hc h hd hz h15 hw0
    have hwl : (L.length : Int) - (L.count 0 : Int) = ((withN L : Nat) : Int) := by
      have := List.count_le_length (a := 0) (l := L)
      unfold withN; omega
    have hml : withN L ≤ 320 := by unfold withN; omega
    have hc0l : L.count 0 ≤ 320 := Nat.le_trans List.count_le_length hlen
    have hc1l : L.count 1 ≤ 320 := Nat.le_trans List.count_le_length hlen
    generalize kraftN L = K at *
    generalize withN L = m at *
    obtain ⟨ct, hct⟩ : ∃ ct, ct = L.count 1 := ⟨_, rfl⟩
    rw [← hct] at hc1l ⊢
    have HCT := Lib.hid hct.symm
    clear hct
    by_cases hk : K = 32768
    · rw [if_pos hk]
      subst hk
      go_enter Try.func116, Try.ntmps116
      go_wp2_with (first | (go_at_call 112; refine HCO.out.mono ?_; rintro e w0 ⟨v1, rfl, -, hb0⟩; have HB0 := Lib.hid hb0; clear hb0) | (go_at_call 130; refine (HWR.out _ HB0.out).mono ?_; rintro e w1 ⟨c, hc1, rfl, hc2, hc3⟩; have HC1 := Lib.hid hc1; have HC2 := Lib.hid hc2; have HC3 := Lib.hid hc3; clear hc1 hc2 hc3) | (refine store_box rfl 173 16 _ _ rfl w1.heap.size rfl (nls (List.replicate 16 0)) (nls c) rfl (by rw [nls_length]; exact HC1.out) (by kernel_rfl) (box16 w1 Z HZ.out) ?_; intro w2 hb2 hg2; (obtain ⟨A, hgA, hsA, hA⟩ := hb2.open; have HAE := Lib.hid (congrArg List.toArray hA); have HB2 := Lib.hid hb2; have HG2 := Lib.hid hg2; have HT2 := Lib.hid (HTP.out); rw [← HC2.out (by trivial), ← HAE.out] at HT2; have hcl0 := hb2.cell (c := 0) (by omega); rw [HCE.out c HC1.out (HC2.out (by trivial)) 0 (by omega)] at hcl0; have hlt2 := hb2.lt; clear hb2 hg2 hA)) | (refine load_box rfl 173 16 _ rfl w1.heap.size rfl A hsA hgA _ Try.underlying173 rfl (by kernel_rfl) ?_) | (go_at_call 131; refine (HT2.out _).mono ?_; rintro e w3 ⟨rfl, y, rfl⟩; have hcl1 := (HB2.out.up (ext_below w2 y)).cell (c := 1) (by omega); rw [HCE.out c HC1.out (HC2.out (by trivial)) 1 (by omega)] at hcl1; have hlt3 := (HB2.out.up (ext_below w2 y)).lt))
      go_ret
      exact ⟨rfl, HBF.out w0 w1 w2 y HB0.out HC3.out HG2.out⟩
    · rw [if_neg hk]
      have hk2 : ((K : Int) == 32768) = false := by simp; omega
      clear hk
      cases lone with
      | false =>
        rw [if_neg (show ¬ (false = true ∧ (m = 0 ∨ (m = 1 ∧ ct = 1))) by simp)]
        by_cases h0 : m = 0
        · subst h0
          go_enter Try.func116, Try.ntmps116
          go_wp2_with (first | (go_at_call 112; refine HCO.out.mono ?_; rintro e w0 ⟨v1, rfl, -, hb0⟩; have HB0 := Lib.hid hb0; clear hb0) | (go_at_call 130; refine (HWR.out _ HB0.out).mono ?_; rintro e w1 ⟨c, hc1, rfl, hc2, hc3⟩; have HC1 := Lib.hid hc1; have HC2 := Lib.hid hc2; have HC3 := Lib.hid hc3; clear hc1 hc2 hc3) | (refine store_box rfl 173 16 _ _ rfl w1.heap.size rfl (nls (List.replicate 16 0)) (nls c) rfl (by rw [nls_length]; exact HC1.out) (by kernel_rfl) (box16 w1 Z HZ.out) ?_; intro w2 hb2 hg2; (obtain ⟨A, hgA, hsA, hA⟩ := hb2.open; have HAE := Lib.hid (congrArg List.toArray hA); have HB2 := Lib.hid hb2; have HG2 := Lib.hid hg2; have HT2 := Lib.hid (HTP.out); rw [← HC2.out (by trivial), ← HAE.out] at HT2; have hcl0 := hb2.cell (c := 0) (by omega); rw [HCE.out c HC1.out (HC2.out (by trivial)) 0 (by omega)] at hcl0; have hlt2 := hb2.lt; clear hb2 hg2 hA)) | (refine load_box rfl 173 16 _ rfl w1.heap.size rfl A hsA hgA _ Try.underlying173 rfl (by kernel_rfl) ?_) | (go_at_call 131; refine (HT2.out _).mono ?_; rintro e w3 ⟨rfl, y, rfl⟩; have hcl1 := (HB2.out.up (ext_below w2 y)).cell (c := 1) (by omega); rw [HCE.out c HC1.out (HC2.out (by trivial)) 1 (by omega), HCT.out] at hcl1; have hlt3 := (HB2.out.up (ext_below w2 y)).lt))
          go_ret
          exact ⟨rfl, HBF.out w0 w1 w2 y HB0.out HC3.out HG2.out⟩
        · rw [if_neg h0]
          have h0' : ((m : Int) == 0) = false := by simp; omega
          clear h0
          go_enter Try.func116, Try.ntmps116
          go_wp2_with (first | (go_at_call 112; refine HCO.out.mono ?_; rintro e w0 ⟨v1, rfl, -, hb0⟩; have HB0 := Lib.hid hb0; clear hb0) | (go_at_call 130; refine (HWR.out _ HB0.out).mono ?_; rintro e w1 ⟨c, hc1, rfl, hc2, hc3⟩; have HC1 := Lib.hid hc1; have HC2 := Lib.hid hc2; have HC3 := Lib.hid hc3; clear hc1 hc2 hc3) | (refine store_box rfl 173 16 _ _ rfl w1.heap.size rfl (nls (List.replicate 16 0)) (nls c) rfl (by rw [nls_length]; exact HC1.out) (by kernel_rfl) (box16 w1 Z HZ.out) ?_; intro w2 hb2 hg2; (obtain ⟨A, hgA, hsA, hA⟩ := hb2.open; have HAE := Lib.hid (congrArg List.toArray hA); have HB2 := Lib.hid hb2; have HG2 := Lib.hid hg2; have HT2 := Lib.hid (HTP.out); rw [← HC2.out (by trivial), ← HAE.out] at HT2; have hcl0 := hb2.cell (c := 0) (by omega); rw [HCE.out c HC1.out (HC2.out (by trivial)) 0 (by omega)] at hcl0; have hlt2 := hb2.lt; clear hb2 hg2 hA)) | (refine load_box rfl 173 16 _ rfl w1.heap.size rfl A hsA hgA _ Try.underlying173 rfl (by kernel_rfl) ?_) | (go_at_call 131; refine (HT2.out _).mono ?_; rintro e w3 ⟨rfl, y, rfl⟩; have hcl1 := (HB2.out.up (ext_below w2 y)).cell (c := 1) (by omega); rw [HCE.out c HC1.out (HC2.out (by trivial)) 1 (by omega), HCT.out] at hcl1; have hlt3 := (HB2.out.up (ext_below w2 y)).lt))
          go_ret
          exact ⟨rfl, HBF.out w0 w1 w2 y HB0.out HC3.out HG2.out⟩
      | true =>
        by_cases h0 : m = 0
        · subst h0
          rw [if_pos (show true = true ∧ (0 = 0 ∨ (0 = 1 ∧ ct = 1)) from ⟨rfl, .inl rfl⟩)]
          go_enter Try.func116, Try.ntmps116
          go_wp2_with (first | (go_at_call 112; refine HCO.out.mono ?_; rintro e w0 ⟨v1, rfl, -, hb0⟩; have HB0 := Lib.hid hb0; clear hb0) | (go_at_call 130; refine (HWR.out _ HB0.out).mono ?_; rintro e w1 ⟨c, hc1, rfl, hc2, hc3⟩; have HC1 := Lib.hid hc1; have HC2 := Lib.hid hc2; have HC3 := Lib.hid hc3; clear hc1 hc2 hc3) | (refine store_box rfl 173 16 _ _ rfl w1.heap.size rfl (nls (List.replicate 16 0)) (nls c) rfl (by rw [nls_length]; exact HC1.out) (by kernel_rfl) (box16 w1 Z HZ.out) ?_; intro w2 hb2 hg2; (obtain ⟨A, hgA, hsA, hA⟩ := hb2.open; have HAE := Lib.hid (congrArg List.toArray hA); have HB2 := Lib.hid hb2; have HG2 := Lib.hid hg2; have HT2 := Lib.hid (HTP.out); rw [← HC2.out (by trivial), ← HAE.out] at HT2; have hcl0 := hb2.cell (c := 0) (by omega); rw [HCE.out c HC1.out (HC2.out (by trivial)) 0 (by omega)] at hcl0; have hlt2 := hb2.lt; clear hb2 hg2 hA)) | (refine load_box rfl 173 16 _ rfl w1.heap.size rfl A hsA hgA _ Try.underlying173 rfl (by kernel_rfl) ?_) | (go_at_call 131; refine (HT2.out _).mono ?_; rintro e w3 ⟨rfl, y, rfl⟩; have hcl1 := (HB2.out.up (ext_below w2 y)).cell (c := 1) (by omega); rw [HCE.out c HC1.out (HC2.out (by trivial)) 1 (by omega), HCT.out] at hcl1; have hlt3 := (HB2.out.up (ext_below w2 y)).lt))
          go_ret
          exact ⟨rfl, HBF.out w0 w1 w2 y HB0.out HC3.out HG2.out⟩
        · have h0' : ((m : Int) == 0) = false := by simp; omega
          by_cases h1 : m = 1
          · subst h1
            clear h0 h0'
            by_cases hc : ct = 1
            · subst hc
              rw [if_pos (show true = true ∧ ((1:Nat) = 0 ∨ (1 = 1 ∧ 1 = 1)) from ⟨rfl, .inr ⟨rfl, rfl⟩⟩)]
              go_enter Try.func116, Try.ntmps116
              go_wp2_with (first | (go_at_call 112; refine HCO.out.mono ?_; rintro e w0 ⟨v1, rfl, -, hb0⟩; have HB0 := Lib.hid hb0; clear hb0) | (go_at_call 130; refine (HWR.out _ HB0.out).mono ?_; rintro e w1 ⟨c, hc1, rfl, hc2, hc3⟩; have HC1 := Lib.hid hc1; have HC2 := Lib.hid hc2; have HC3 := Lib.hid hc3; clear hc1 hc2 hc3) | (refine store_box rfl 173 16 _ _ rfl w1.heap.size rfl (nls (List.replicate 16 0)) (nls c) rfl (by rw [nls_length]; exact HC1.out) (by kernel_rfl) (box16 w1 Z HZ.out) ?_; intro w2 hb2 hg2; (obtain ⟨A, hgA, hsA, hA⟩ := hb2.open; have HAE := Lib.hid (congrArg List.toArray hA); have HB2 := Lib.hid hb2; have HG2 := Lib.hid hg2; have HT2 := Lib.hid (HTP.out); rw [← HC2.out (by trivial), ← HAE.out] at HT2; have hcl0 := hb2.cell (c := 0) (by omega); rw [HCE.out c HC1.out (HC2.out (by trivial)) 0 (by omega)] at hcl0; have hlt2 := hb2.lt; clear hb2 hg2 hA)) | (refine load_box rfl 173 16 _ rfl w1.heap.size rfl A hsA hgA _ Try.underlying173 rfl (by kernel_rfl) ?_) | (go_at_call 131; refine (HT2.out _).mono ?_; rintro e w3 ⟨rfl, y, rfl⟩; have hcl1 := (HB2.out.up (ext_below w2 y)).cell (c := 1) (by omega); rw [HCE.out c HC1.out (HC2.out (by trivial)) 1 (by omega), HCT.out] at hcl1; have hlt3 := (HB2.out.up (ext_below w2 y)).lt))
              go_ret
              exact ⟨rfl, HBF.out w0 w1 w2 y HB0.out HC3.out HG2.out⟩
            · rw [if_neg (show ¬ (true = true ∧ ((1:Nat) = 0 ∨ (1 = 1 ∧ ct = 1))) from fun hh => hc (hh.2.resolve_left (by simp)).2), if_neg (by simp)]
              have hc' : ((ct : Int) == 1) = false := by simp; omega
              clear hc
              go_enter Try.func116, Try.ntmps116
              go_wp2_with (first | (go_at_call 112; refine HCO.out.mono ?_; rintro e w0 ⟨v1, rfl, -, hb0⟩; have HB0 := Lib.hid hb0; clear hb0) | (go_at_call 130; refine (HWR.out _ HB0.out).mono ?_; rintro e w1 ⟨c, hc1, rfl, hc2, hc3⟩; have HC1 := Lib.hid hc1; have HC2 := Lib.hid hc2; have HC3 := Lib.hid hc3; clear hc1 hc2 hc3) | (refine store_box rfl 173 16 _ _ rfl w1.heap.size rfl (nls (List.replicate 16 0)) (nls c) rfl (by rw [nls_length]; exact HC1.out) (by kernel_rfl) (box16 w1 Z HZ.out) ?_; intro w2 hb2 hg2; (obtain ⟨A, hgA, hsA, hA⟩ := hb2.open; have HAE := Lib.hid (congrArg List.toArray hA); have HB2 := Lib.hid hb2; have HG2 := Lib.hid hg2; have HT2 := Lib.hid (HTP.out); rw [← HC2.out (by trivial), ← HAE.out] at HT2; have hcl0 := hb2.cell (c := 0) (by omega); rw [HCE.out c HC1.out (HC2.out (by trivial)) 0 (by omega)] at hcl0; have hlt2 := hb2.lt; clear hb2 hg2 hA)) | (refine load_box rfl 173 16 _ rfl w1.heap.size rfl A hsA hgA _ Try.underlying173 rfl (by kernel_rfl) ?_) | (go_at_call 131; refine (HT2.out _).mono ?_; rintro e w3 ⟨rfl, y, rfl⟩; have hcl1 := (HB2.out.up (ext_below w2 y)).cell (c := 1) (by omega); rw [HCE.out c HC1.out (HC2.out (by trivial)) 1 (by omega), HCT.out] at hcl1; have hlt3 := (HB2.out.up (ext_below w2 y)).lt))
              go_ret
              exact ⟨rfl, HBF.out w0 w1 w2 y HB0.out HC3.out HG2.out⟩
          · rw [if_neg (show ¬ (true = true ∧ (m = 0 ∨ (m = 1 ∧ ct = 1))) from fun hh => hh.2.elim h0 (fun q => h1 q.1)), if_neg h0]
            have h1' : ((m : Int) == 1) = false := by simp; omega
            clear h0 h1
            go_enter Try.func116, Try.ntmps116
            go_wp2_with (first | (go_at_call 112; refine HCO.out.mono ?_; rintro e w0 ⟨v1, rfl, -, hb0⟩; have HB0 := Lib.hid hb0; clear hb0) | (go_at_call 130; refine (HWR.out _ HB0.out).mono ?_; rintro e w1 ⟨c, hc1, rfl, hc2, hc3⟩; have HC1 := Lib.hid hc1; have HC2 := Lib.hid hc2; have HC3 := Lib.hid hc3; clear hc1 hc2 hc3) | (refine store_box rfl 173 16 _ _ rfl w1.heap.size rfl (nls (List.replicate 16 0)) (nls c) rfl (by rw [nls_length]; exact HC1.out) (by kernel_rfl) (box16 w1 Z HZ.out) ?_; intro w2 hb2 hg2; (obtain ⟨A, hgA, hsA, hA⟩ := hb2.open; have HAE := Lib.hid (congrArg List.toArray hA); have HB2 := Lib.hid hb2; have HG2 := Lib.hid hg2; have HT2 := Lib.hid (HTP.out); rw [← HC2.out (by trivial), ← HAE.out] at HT2; have hcl0 := hb2.cell (c := 0) (by omega); rw [HCE.out c HC1.out (HC2.out (by trivial)) 0 (by omega)] at hcl0; have hlt2 := hb2.lt; clear hb2 hg2 hA)) | (refine load_box rfl 173 16 _ rfl w1.heap.size rfl A hsA hgA _ Try.underlying173 rfl (by kernel_rfl) ?_) | (go_at_call 131; refine (HT2.out _).mono ?_; rintro e w3 ⟨rfl, y, rfl⟩; have hcl1 := (HB2.out.up (ext_below w2 y)).cell (c := 1) (by omega); rw [HCE.out c HC1.out (HC2.out (by trivial)) 1 (by omega), HCT.out] at hcl1; have hlt3 := (HB2.out.up (ext_below w2 y)).lt))
            go_ret
            exact ⟨rfl, HBF.out w0 w1 w2 y HB0.out HC3.out HG2.out⟩
  · rw [fitsE_bad lone hz]
    have hne : ((errI l : Nat) : Int) ≠ 0 := by omega
    generalize errI l = er at *
    obtain ⟨oa, cap, b, off, rfl, hd, hc⟩ := h.open
    clear hc hd h
    go_enter Try.func116, Try.ntmps116
    go_wp2_with (go_at_call 112; refine HCO.out.mono ?_; rintro e w1 ⟨v1, rfl, -, hb1⟩; have HB1 := Lib.hid hb1; clear hb1)
    go_ret
    exact ⟨rfl, HB1.out⟩
end Go.Cm

/- The reading of a block's head, in plain Lean, as steps over an error and a place. Conditions: none. -/
namespace Go.Cm

structure HeadN where
  fin : Bool
  kind : Nat
  size : Nat
  lits : List Nat
  dists : List Nat
def HeadN.zero : HeadN := ⟨false, 0, 0, [], []⟩
/-- the next bits, if nothing is wrong -/
def xb (N T n : Nat) (st : Nat × Nat) : Nat × (Nat × Nat) := if st.1 = 0 then ((bitsA N T st.2 n).1, (bitsA N T st.2 n).2.1, (bitsA N T st.2 n).2.2) else (0, st)
/-- what is wrong, if nothing was yet -/
def xf (e : Nat) (st : Nat × Nat) : Nat × Nat := if st.1 = 0 then (e, st.2) else st
def fixL : List Nat := List.replicate 144 8 ++ List.replicate 112 9 ++ List.replicate 24 7 ++ List.replicate 8 8
def fixD : List Nat := List.replicate 32 5
def ordN : List Nat := [16, 17, 18, 0, 8, 7, 9, 6, 10, 5, 11, 4, 12, 3, 13, 2, 14, 1, 15]
/-- the symbol that the next bits are -/
noncomputable def readF (L : List Nat) (V left : Nat) : Nat × Nat × Nat := @dite _ (∃ a, a < L.length ∧ hitN L V a ∧ L.getD a 0 ≤ left) (Classical.propDecidable _) (fun h => (Classical.choose h, 0, L.getD (Classical.choose h) 0)) (fun _ => (0, (if left < 15 then 2 else 9), 0))
theorem readF_ok (L : List Nat) (V left : Nat) : ReadN L V left (readF L V left).1 (readF L V left).2.1 (readF L V left).2.2 := by
  unfold readF
  split
  · rename_i h
    have := Classical.choose_spec h
    exact .inl ⟨this.1, this.2.1, this.2.2, rfl, rfl⟩
  · rename_i h
    refine .inr ⟨fun i hi hh => ?_, rfl, rfl, rfl⟩
    apply Classical.byContradiction; intro hn
    exact h ⟨i, hi, hh, by omega⟩
theorem readF_of {L : List Nat} {V left a e d : Nat} (h : ReadN L V left a e d) : readF L V left = (a, e, d) := by
  obtain ⟨h1, h2, h3⟩ := read_one (readF_ok L V left) h
  exact Prod.ext h1 (Prod.ext h2 h3)
/-- how often a symbol repeats, and what -/
def repN (N T sym : Nat) (l : List Nat) (st : Nat × Nat) : Nat × Nat × (Nat × Nat) :=
  if sym = 18 then (11 + (xb N T 7 st).1, 0, (xb N T 7 st).2)
  else if sym = 16 then (if l = [] then (0, 0, xf 4 st) else (3 + (xb N T 2 st).1, l.getD (l.length - 1) 0, (xb N T 2 st).2))
  else (3 + (xb N T 3 st).1, 0, (xb N T 3 st).2)
/-- lengths by a code of lengths -/
noncomputable def rowN (N T : Nat) (code : List Nat) (n : Nat) : Nat → List Nat → Nat × Nat → List Nat × (Nat × Nat)
  | 0, l, st => (l, st)
  | f + 1, l, st =>
    if st.1 = 0 ∧ l.length < n then
      if (readF code (N / 2 ^ st.2) (T - st.2)).2.1 ≠ 0 then (l, (readF code (N / 2 ^ st.2) (T - st.2)).2.1, st.2)
      else if (readF code (N / 2 ^ st.2) (T - st.2)).1 < 16 then rowN N T code n f (l ++ [(readF code (N / 2 ^ st.2) (T - st.2)).1]) (0, st.2 + (readF code (N / 2 ^ st.2) (T - st.2)).2.2)
      else if n < l.length + (repN N T (readF code (N / 2 ^ st.2) (T - st.2)).1 l (0, st.2 + (readF code (N / 2 ^ st.2) (T - st.2)).2.2)).1 then
        ([], xf 3 (repN N T (readF code (N / 2 ^ st.2) (T - st.2)).1 l (0, st.2 + (readF code (N / 2 ^ st.2) (T - st.2)).2.2)).2.2)
      else rowN N T code n f (l ++ List.replicate (repN N T (readF code (N / 2 ^ st.2) (T - st.2)).1 l (0, st.2 + (readF code (N / 2 ^ st.2) (T - st.2)).2.2)).1 (repN N T (readF code (N / 2 ^ st.2) (T - st.2)).1 l (0, st.2 + (readF code (N / 2 ^ st.2) (T - st.2)).2.2)).2.1)
        (repN N T (readF code (N / 2 ^ st.2) (T - st.2)).1 l (0, st.2 + (readF code (N / 2 ^ st.2) (T - st.2)).2.2)).2.2
    else (l, st)
def fits2 (lits dists : List Nat) : Nat := if lits.getD 256 0 = 0 then 21 else if fitsE (nls lits) true ≠ 0 then fitsE (nls lits) true else fitsE (nls dists) true
/-- the code of lengths: the first k of its lengths read -/
def codeK (N T c : Nat) : Nat → List Nat × (Nat × Nat) → List Nat × (Nat × Nat)
  | 0, x => x
  | k + 1, x => if k < 4 + c ∧ (codeK N T c k x).2.1 = 0 then ((codeK N T c k x).1.set (ordN.getD k 0) (xb N T 3 (codeK N T c k x).2).1, (xb N T 3 (codeK N T c k x).2).2) else codeK N T c k x
end Go.Cm

/- Whether both codes of a block fit: the program's fits and the document's. Conditions: the arguments read as lists, the first is long enough. -/
namespace Go.Cm
open Go.RowKit Go.Proofs

theorem fits2P (u v : Value) (lits dists : List Nat) (w : World) (hu : IntsAt w u (nls lits)) (hv : IntsAt w v (nls dists)) (h256 : 256 < lits.length) :
    Calls Try.prog 92 #[u, v] w fun e w' => e = .returned (.int .i64 (fits2 lits dists : Nat)) ∧ Below w.heap.size w w' := by
  have HF1 := Lib.hid (fitsP u (nls lits) true w hu)
  have HF2 := Lib.hid (fun W (hb : Below w.heap.size w W) => fitsP v (nls dists) true W (hv.up hb))
  obtain ⟨oa, cap, b, off, hvv, hd, hc⟩ := hu.open
  rw [nls_length] at hvv hd hc
  subst hvv
  have hcell := hc 256 h256
  rw [nls_getD] at hcell
  have hix := index_any (P := Try.prog) 39 3 Try.underlying39 (by kernel_rfl) hd
  have hm := hd.len
  have hbb := hd.hblk (by omega)
  have hli : (256 : Int) < (lits.length : Int) := by omega
  obtain ⟨r, hr⟩ : ∃ r, r = fits2 lits dists := ⟨_, rfl⟩
  rw [← hr]
  unfold fits2 at hr
  have HR := Lib.hid hr
  clear hc hd hu hv hr
  generalize fitsE (nls lits) true = e1 at *
  generalize fitsE (nls dists) true = e2 at *
  generalize lits.getD 256 0 = y at *
  generalize lits.length = m at *
  by_cases hy : y = 0
  · have h21 : r = 21 := by rw [HR.out]; exact if_pos hy
    subst h21 hy
    clear HR
    go_enter Try.func92, Try.ntmps92
    go_wp2
    go_ret
    exact ⟨rfl, Below.refl _ _⟩
  · have hy' : ((y : Int) == 0) = false := by simp; omega
    by_cases he : e1 = 0
    · have h2 : r = e2 := by rw [HR.out, if_neg hy]; exact if_neg (by omega)
      subst h2 he
      clear HR hy
      go_enter Try.func92, Try.ntmps92
      go_wp2_with (first | (go_at_call 116; (with_reducible refine HF1.out.mono ?_); rintro e w1 ⟨rfl, hb1⟩; (have HB1 := Lib.hid hb1; have HFF := Lib.hid (HF2.out w1 HB1.out); clear hb1)) | (go_at_call 116; (with_reducible refine HFF.out.mono ?_); rintro e w2 ⟨rfl, hb2⟩; (have HB2 := Lib.hid (below_up HB1.out hb2); clear hb2)))
      go_ret
      exact ⟨rfl, HB2.out⟩
    · have h2 : r = e1 := by rw [HR.out, if_neg hy]; exact if_pos he
      have he' : ((e1 : Int) != 0) = true := by simpa using he
      subst h2
      clear HR hy he
      go_enter Try.func92, Try.ntmps92
      go_wp2_with (go_at_call 116; (with_reducible refine HF1.out.mono ?_); rintro e w1 ⟨rfl, hb1⟩; (have HB1 := Lib.hid hb1; clear hb1))
      go_ret
      exact ⟨rfl, HB1.out⟩
end Go.Cm

/- The reading of a whole head, in plain Lean. Conditions: none. -/
namespace Go.Cm

/-- a stored block's size -/
def storedN (N T : Nat) (st : Nat × Nat) : Nat × (Nat × Nat) :=
  ((xb N T 16 (st.1, alignN st.2)).1,
   if (xb N T 16 (xb N T 16 (st.1, alignN st.2)).2).1 + (xb N T 16 (st.1, alignN st.2)).1 = 65535 then (xb N T 16 (xb N T 16 (st.1, alignN st.2)).2).2
   else xf 6 (xb N T 16 (xb N T 16 (st.1, alignN st.2)).2).2)
/-- a dynamic block's lengths: the numbers have been read -/
noncomputable def dynL (N T a b : Nat) (k : List Nat × (Nat × Nat)) : List Nat × List Nat × (Nat × Nat) :=
  if k.2.1 ≠ 0 then ([], [], k.2)
  else if fitsE (nls k.1) false ≠ 0 then ([], [], fitsE (nls k.1) false, k.2.2)
  else if (rowN N T k.1 (257 + a + (1 + b)) (257 + a + (1 + b) + 1) [] k.2).2.1 ≠ 0 then ([], [], (rowN N T k.1 (257 + a + (1 + b)) (257 + a + (1 + b) + 1) [] k.2).2)
  else ((rowN N T k.1 (257 + a + (1 + b)) (257 + a + (1 + b) + 1) [] k.2).1.take (257 + a), (rowN N T k.1 (257 + a + (1 + b)) (257 + a + (1 + b) + 1) [] k.2).1.drop (257 + a),
    fits2 ((rowN N T k.1 (257 + a + (1 + b)) (257 + a + (1 + b) + 1) [] k.2).1.take (257 + a)) ((rowN N T k.1 (257 + a + (1 + b)) (257 + a + (1 + b) + 1) [] k.2).1.drop (257 + a)),
    (rowN N T k.1 (257 + a + (1 + b)) (257 + a + (1 + b) + 1) [] k.2).2.2)
/-- .. with the numbers a, b, c and the state behind them -/
noncomputable def dynM (N T a b c : Nat) (st : Nat × Nat) : List Nat × List Nat × (Nat × Nat) :=
  dynL N T a b (codeK N T c 19 (List.replicate 19 0, if 286 < 257 + a ∨ 30 < 1 + b then xf 3 st else st))
noncomputable def dynN (N T : Nat) (st : Nat × Nat) : List Nat × List Nat × (Nat × Nat) :=
  dynM N T (xb N T 5 st).1 (xb N T 5 (xb N T 5 st).2).1 (xb N T 4 (xb N T 5 (xb N T 5 st).2).2).1 (xb N T 4 (xb N T 5 (xb N T 5 st).2).2).2
/-- a head: what it is, what is wrong, where the reader stands then -/
noncomputable def kindN (N T p : Nat) (fin : Bool) (k : Nat) (st : Nat × Nat) : HeadN × Nat × Nat :=
  if st.1 ≠ 0 then (HeadN.zero, st.1, p)
  else if k = 0 then (if (storedN N T st).2.1 ≠ 0 then (HeadN.zero, (storedN N T st).2.1, p) else (⟨fin, 0, (storedN N T st).1, [], []⟩, 0, (storedN N T st).2.2))
  else if k = 1 then (⟨fin, 1, 0, fixL, fixD⟩, 0, st.2)
  else if k = 2 then (if (dynN N T st).2.2.1 ≠ 0 then (HeadN.zero, (dynN N T st).2.2.1, p) else (⟨fin, 2, 0, (dynN N T st).1, (dynN N T st).2.1⟩, 0, (dynN N T st).2.2.2))
  else (HeadN.zero, 11, p)
noncomputable def headF (N T p : Nat) : HeadN × Nat × Nat :=
  kindN N T p (decide ((xb N T 1 (0, p)).1 = 1)) (xb N T 2 (xb N T 1 (0, p)).2).1 (xb N T 2 (xb N T 1 (0, p)).2).2
theorem xf_of {e : Nat} {st : Nat × Nat} (h : st.1 ≠ 0) : xf e st = st := if_neg h
theorem codeK_err (N T c : Nat) : ∀ (k : Nat) (x : List Nat × (Nat × Nat)), x.2.1 ≠ 0 → codeK N T c k x = x
  | 0, _, _ => rfl
  | k + 1, x, h => by rw [codeK, codeK_err N T c k x h, if_neg (fun z => h z.2)]
end Go.Cm

/- The writing of a head, in plain Lean: numbers that are put one behind the other. Conditions: none. -/
namespace Go.Cm

def putS (xs : List (Nat × Nat)) (st : Nat × Nat) : Nat × Nat := xs.foldl (fun st x => (st.1 + x.1 * 2 ^ st.2, st.2 + x.2)) st
theorem putS_nil (st : Nat × Nat) : putS [] st = st := rfl
theorem putS_cons (x : Nat × Nat) (xs : List (Nat × Nat)) (st : Nat × Nat) : putS (x :: xs) st = putS xs (st.1 + x.1 * 2 ^ st.2, st.2 + x.2) := rfl
theorem putS_append (xs ys : List (Nat × Nat)) (st : Nat × Nat) : putS (xs ++ ys) st = putS ys (putS xs st) := by unfold putS; rw [List.foldl_append]
theorem putS_snoc (xs : List (Nat × Nat)) (x : Nat × Nat) (st : Nat × Nat) : putS (xs ++ [x]) st = ((putS xs st).1 + x.1 * 2 ^ (putS xs st).2, (putS xs st).2 + x.2) := by rw [putS_append]; rfl
theorem putS_len (xs : List (Nat × Nat)) : ∀ (st : Nat × Nat), (putS xs st).2 = st.2 + (xs.map Prod.snd).sum := by
  induction xs with
  | nil => intro st; simp [putS_nil]
  | cons x xs ih => intro st; rw [putS_cons, ih]; simp; omega
def ordS : List (Nat × Nat) := ordN.map fun s => (if s < 16 then 4 else 0, 3)
def codS (l : List Nat) : List (Nat × Nat) := l.map fun n => (turnN n 4, 4)
def lenS (n m : Nat) : List (Nat × Nat) := [(n - 257, 5), (m - 1, 5), (15, 4)]
def dynS (l1 l2 : List Nat) : List (Nat × Nat) := lenS l1.length l2.length ++ (ordS ++ (codS l1 ++ codS l2))
def alignW (st : Nat × Nat) : Nat × Nat := (st.1, alignN st.2)
def finN (b : Bool) : Nat := if b then 1 else 0
theorem ordS_take (k : Nat) (h : k < 19) : ordS.take (k + 1) = ordS.take k ++ [(if ordN.getD k 0 < 16 then 4 else 0, 3)] := by
  have : ∀ k, k < 19 → ordS.take (k + 1) = ordS.take k ++ [(if ordN.getD k 0 < 16 then 4 else 0, 3)] := by decide
  exact this k h
theorem codS_take (l : List Nat) (k : Nat) (h : k < l.length) : codS (l.take (k + 1)) = codS (l.take k) ++ [(turnN (l.getD k 0) 4, 4)] := by
  unfold codS
  rw [take_succ_getD l k 0 h, List.map_append]; rfl
theorem codS_len (l : List Nat) (st : Nat × Nat) : (putS (codS l) st).2 = st.2 + 4 * l.length := by
  rw [putS_len]
  congr 1
  induction l with
  | nil => rfl
  | cons x l ih => simp [codS] at ih ⊢; omega
theorem ordS_len (k : Nat) (st : Nat × Nat) : (putS (ordS.take k) st).2 ≤ st.2 + 57 := by
  rw [putS_len]
  have hs : ∀ k, ((ordS.take k).map Prod.snd).sum ≤ 57 := fun k => by
    by_cases h : k < 20
    · have : ∀ k, k < 20 → ((ordS.take k).map Prod.snd).sum ≤ 57 := by decide
      exact this k h
    · rw [List.take_of_length_le (by show 19 ≤ k; omega)]; decide
  have := hs k
  omega
end Go.Cm

/- The source of a block: a reader and what went wrong with it; the walks of its small functions. Conditions: the source is there. -/
namespace Go.Cm
open Go.RowKit Go.Proofs

theorem Own.of_blk {w w' : World} {B E : Nat} {v : Value} {xs : List Value} (h : Own w B E v xs) (hb : ∀ k, v.ownBlock = some k → w'.heap[k]? = w.heap[k]?) : Own w' B E v xs := by
  refine ⟨⟨h.1.1, h.1.2.imp id ?_⟩, h.2⟩
  rintro ⟨g, cap, cur, rfl, h2, h3, h4⟩
  exact ⟨g, cap, cur, rfl, h2, by rw [hb g rfl]; exact h3, h4⟩
/-- only blocks of S were written to -/
structure Fx (S : Nat → Prop) (w w' : World) : Prop where
  os : w'.os = w.os
  tape : w'.tape = w.tape
  output : w'.output = w.output
  size : w.heap.size ≤ w'.heap.size
  block : ∀ k, k < w.heap.size → ¬ S k → w'.heap[k]? = w.heap[k]?
abbrev Two (q g : Nat) (w w' : World) : Prop := Fx (fun k => k = q ∨ k = g) w w'
section
variable {S : Nat → Prop} {n : Nat} {w w1 w2 : World}
theorem Fx.refl (S : Nat → Prop) (w : World) : Fx S w w := ⟨rfl, rfl, rfl, Nat.le_refl _, fun _ _ _ => rfl⟩
theorem Fx.trans (h : Fx S w w1) (k : Fx S w1 w2) : Fx S w w2 := ⟨k.os.trans h.os, k.tape.trans h.tape, k.output.trans h.output, Nat.le_trans h.size k.size, fun i hi h1 => by rw [k.block i (Nat.lt_of_lt_of_le hi h.size) h1, h.block i hi h1]⟩
theorem Fx.mono {S' : Nat → Prop} (h : Fx S w w1) (hS : ∀ k, S k → S' k) : Fx S' w w1 := ⟨h.os, h.tape, h.output, h.size, fun k hk h1 => h.block k hk (fun e => h1 (hS k e))⟩
theorem fx_grown {row : Option Nat} (h : w.grownBy w1 row) (hr : ∀ k, row = some k → S k) : Fx S w w1 := ⟨h.os, h.tape, h.output, h.size, fun k hk h1 => h.block k hk (fun e => h1 (hr k e.symm))⟩
theorem fx_below (h : Below w.heap.size w w1) : Fx S w w1 := ⟨h.os, h.tape, h.output, h.size, fun k hk _ => h.block k hk⟩
theorem Fx.grown {row : Option Nat} (h : Fx S w w1) (hg : w1.grownBy w2 row) (hr : ∀ k, row = some k → S k ∨ w.heap.size ≤ k) : Fx S w w2 :=
  ⟨hg.os.trans h.os, hg.tape.trans h.tape, hg.output.trans h.output, Nat.le_trans h.size hg.size, fun k hk h1 => by
    rw [hg.block k (Nat.lt_of_lt_of_le hk h.size) (fun e => (hr k e.symm).elim h1 (fun z => by omega)), h.block k hk h1]⟩
/-- blocks that are new since n do not count -/
theorem Fx.below (h : Fx S w1 w2) (hb : Below n w w1) (hn : n ≤ w1.heap.size) (hS : ∀ k, S k → n ≤ k) : Below n w w2 := hb.trans ⟨h.os, h.tape, h.output, h.size, fun k hk => h.block k (by omega) (fun e => by have := hS k e; omega)⟩
theorem Fx.own {B E : Nat} {v : Value} {xs : List Value} (h : Fx S w w1) (ho : Own w B E v xs) (hv : ∀ k, v.ownBlock = some k → ¬ S k) : Own w1 B E v xs :=
  ho.of_blk fun k hk => h.block k (ho.lt k hk).2 (hv k hk)
theorem Fx.cell {b o : Nat} (h : Fx S w w1) (hb : b < w.heap.size) (hv : ¬ S b) : w1.cell? ⟨b, o, none⟩ = w.cell? ⟨b, o, none⟩ := World.cell?_of_block (w := w) (h.block b hb hv)
end

/-- the source in block q, of the reader in block g, with the error e -/
structure Src (w : World) (q g e : Nat) : Prop where
  own : Own w q 150 (.slice (some ⟨q, 0, none⟩) 2 2) [.pointer (some ⟨g, 0, none⟩), .int .i64 e]
section
variable {w : World} {q g e : Nat}
theorem Src.up {w' : World} (h : Src w q g e) (hb : Below w.heap.size w w') : Src w' q g e := ⟨h.own.up hb⟩
theorem Src.lt (h : Src w q g e) : q < w.heap.size := (h.own.lt q rfl).2
theorem Src.c0 (h : Src w q g e) : w.cell? ⟨q, 0, none⟩ = some (.pointer (some ⟨g, 0, none⟩)) := h.own.cell (by simp)
theorem Src.c1 (h : Src w q g e) : w.cell? ⟨q, 1, none⟩ = some (.int .i64 e) := h.own.cell (by simp)
theorem Src.free (h : Src w q g e) (c : Nat) : w.frozen? ⟨q, c, none⟩ = false := h.own.free c
theorem Src.set1 (h : Src w q g e) (r : Nat) : Src (w.setCell ⟨q, 1, none⟩ (.int .i64 r)) q g r ∧ w.grownBy (w.setCell ⟨q, 1, none⟩ (.int .i64 r)) (some q) := ⟨⟨(h.own.store 1 _).1⟩, (h.own.store 1 _).2⟩
theorem Src.keep {w' : World} {row : Option Nat} (h : Src w q g e) (hg : w.grownBy w' row) (hne : row ≠ some q) : Src w' q g e := ⟨h.own.keep hg (.inr (fun e => hne e.symm))⟩
end
/-- the source and its reader: what is wrong, and the place -/
structure SrcT (w : World) (q g : Nat) (s : ByteArray) (st : Nat × Nat) : Prop where
  src : Src w q g st.1
  box : BoxS w g s st.2
  ne : q ≠ g
  le : st.2 ≤ 8 * s.size
  err : st.1 ≤ 64
theorem SrcT.up {w w' : World} {q g : Nat} {s : ByteArray} {st : Nat × Nat} (h : SrcT w q g s st) (hb : Below w.heap.size w w') : SrcT w' q g s st := ⟨h.src.up hb, h.box.up hb, h.ne, h.le, h.err⟩
theorem failS {w : World} {q g : Nat} {s : ByteArray} {st : Nat × Nat} (h : SrcT w q g s st) (er : Nat) (her : er ≤ 64) :
    Calls Try.prog 109 #[.pointer (some ⟨q, 0, none⟩), .int .i64 er] w fun e w' => e = .returned (.tuple #[]) ∧ SrcT w' q g s (xf er st) ∧ Two q g w w' := by
  obtain ⟨en, p⟩ := st
  have HT := Lib.hid h
  have c1 := h.src.c1
  have f1 := h.src.free 1
  have hq := h.src.lt
  have HS := Lib.hid (h.src.set1 er)
  clear h
  by_cases h0 : en = 0
  · subst h0
    go_enter Try.func109, Try.ntmps109
    go_wp2
    go_end0
    refine ⟨rfl, ?_, fx_grown HS.out.2 (fun k e => .inl (by injection e with e; exact e.symm))⟩
    exact ⟨HS.out.1, HT.out.box.stay HS.out.2 (fun e => HT.out.ne (by injection e)), HT.out.ne, HT.out.le, her⟩
  · have he : (((en, p).1 : Nat) : Int) = (en : Int) := rfl
    rw [he] at c1
    clear he
    have h0' : ((en : Int) == 0) = false := by simp; omega
    have HX : Hid (xf er (en, p) = (en, p)) := Lib.hid (if_neg h0)
    clear h0
    go_enter Try.func109, Try.ntmps109
    go_wp2
    go_end0
    refine ⟨rfl, ?_, Fx.refl _ _⟩
    rw [HX.out]; exact HT.out
theorem srcBits {w : World} {q g : Nat} {s : ByteArray} {st : Nat × Nat} (h : SrcT w q g s st) (hs : s.size ≤ 4294967296) (n : Nat) (hn : n ≤ 32) :
    Calls Try.prog 106 #[.pointer (some ⟨q, 0, none⟩), .int .i64 n] w fun e w' => e = .returned (.int .i64 ((xb (numS s) (8 * s.size) n st).1 : Nat)) ∧ SrcT w' q g s (xb (numS s) (8 * s.size) n st).2 ∧ Two q g w w' := by
  obtain ⟨en, p⟩ := st
  have HT := Lib.hid h
  have c0 := h.src.c0
  have c1 := h.src.c1
  have hq := h.src.lt
  by_cases h0 : en = 0
  · subst h0
    have HX : Hid (xb (numS s) (8 * s.size) n (0, p) = ((bitsA (numS s) (8 * s.size) p n).1, (bitsA (numS s) (8 * s.size) p n).2.1, (bitsA (numS s) (8 * s.size) p n).2.2)) := Lib.hid rfl
    rw [HX.out]
    have HBT := Lib.hid (bitsS h.box hs n hn h.le)
    have HLE := Lib.hid (bitsA_le (N := numS s) (n := n) h.le)
    have HE : Hid ((bitsA (numS s) (8 * s.size) p n).2.1 ≤ 64) := Lib.hid (by unfold bitsA; split <;> simp)
    unfold RetBits at HBT
    clear h HX
    generalize bitsA (numS s) (8 * s.size) p n = r at *
    obtain ⟨a, er, p2⟩ := r
    go_enter Try.func106, Try.ntmps106
    go_wp2_with (go_at_call 122; (with_reducible refine HBT.out.mono ?_); rintro e w1 ⟨rfl, hb1, hb2⟩; (have HS1 := Lib.hid (HT.out.src.keep hb2 (fun e => HT.out.ne (by injection e with e; exact e.symm))); have HB1 := Lib.hid hb1; have HB2 := Lib.hid hb2; have f1 := HS1.out.free 1; have hq1 := HS1.out.lt; have hcc1 := HS1.out.c1; have HST := Lib.hid (HS1.out.set1 er); clear hb1 hb2))
    go_ret
    refine ⟨rfl, ⟨HST.out.1, HB1.out.stay HST.out.2 (fun e => HT.out.ne (by injection e)), HT.out.ne, HLE.out.1, HE.out⟩, (fx_grown HB2.out (fun k e => .inr (by injection e with e; exact e.symm))).trans (fx_grown HST.out.2 (fun k e => .inl (by injection e with e; exact e.symm)))⟩
  · have he : (((en, p).1 : Nat) : Int) = (en : Int) := rfl
    rw [he] at c1
    clear he
    have h0' : ((en : Int) != 0) = true := by simp; omega
    have HX : Hid (xb (numS s) (8 * s.size) n (en, p) = (0, (en, p))) := Lib.hid (if_neg h0)
    rw [HX.out]
    clear h0 h
    go_enter Try.func106, Try.ntmps106
    go_wp2
    go_ret
    exact ⟨rfl, HT.out, Fx.refl _ _⟩
end Go.Cm

/- The walks of the repeats. Conditions: the source is there, the row is owned. -/
namespace Go.Cm
open Go.RowKit Go.Proofs

theorem ints_cell (l : List Int) : ∀ u ∈ ints l, u.oneCell' = true := by
  intro u hu; simp only [ints, List.mem_map] at hu; obtain ⟨b, -, rfl⟩ := hu; rfl
theorem row_app (l : List Nat) (k x : Nat) : ints (nls (l ++ List.replicate (k + 1) x)) = ints (nls (l ++ List.replicate k x)) ++ ints (nls [x]) := by
  rw [List.replicate_succ', ← List.append_assoc]
  simp [ints, nls]
/-- the row grows at its end -/
theorem growP (v : Value) (l : List Nat) (n x : Nat) (w : World) (B : Nat) (h : Own w B 3 v (ints (nls l))) (hB : B ≤ w.heap.size) (hl : l.length + n ≤ 1000000) :
    Calls Try.prog 95 #[v, .int .i64 n, .int .i64 x] w fun e w' => ∃ v', e = .returned v' ∧ Own w' B 3 v' (ints (nls (l ++ List.replicate n x))) ∧ Fx (fun k => v.ownBlock = some k) w w' ∧ (∀ k, v'.ownBlock = some k → v.ownBlock = some k ∨ w.heap.size ≤ k) := by
  have HO := Lib.hid h
  have H0 : Hid (Own w B 3 v (ints (nls (l ++ List.replicate 0 x)))) := Lib.hid (by simpa using h)
  have HL : Hid (∀ k, k < n → (ints (nls (l ++ List.replicate k x))).length + 1 ≤ 4294967296) := Lib.hid (fun k hk => by simp [ints, nls]; omega)
  have HAP := Lib.hid (fun k => row_app l k x)
  obtain ⟨oa, z, cap, hv⟩ : ∃ oa z cap, v = .slice oa z cap := by
    obtain ⟨oz, cz, _, h, -⟩ := h.cases
    exact ⟨oz, _, cz, h⟩
  clear h HO
  generalize hob : (fun k => v.ownBlock = some k) = S
  have HV : Hid (∀ k, v.ownBlock = some k → S k) := Lib.hid (fun k hk => by rw [← hob]; exact hk)
  have HV2 : Hid (∀ k, S k → v.ownBlock = some k) := Lib.hid (fun k hk => by rw [← hob] at hk; exact hk)
  have HVS : Hid (∀ k, (v.ownBlock = some k ∨ w.heap.size ≤ k) ↔ (S k ∨ w.heap.size ≤ k)) := Lib.hid (fun k => by rw [← hob])
  clear hob
  subst hv
  go_enter Try.func95, Try.ntmps95
  go_wp2
  go_loopg [0, 8] n (fun gk r i wr => ∃ k : Nat, k ≤ n ∧ i = .int .i64 k ∧ Own wr B 3 r (ints (nls (l ++ List.replicate k x))) ∧ Fx S w wr ∧ (∀ q, r.ownBlock = some q → S q ∨ w.heap.size ≤ q) ∧ gk = n - k)
  case atStart => exact ⟨0, Nat.zero_le _, rfl, H0.out, Fx.refl _ _, fun k hk => .inl (HV.out k hk), rfl⟩
  case round =>
    obtain ⟨k, hk, rfl, ho, hf, hro, hgk⟩ := hrel
    have HOW := Lib.hid ho
    have HF := Lib.hid hf
    have HRO := Lib.hid hro
    have hsz := hf.size
    obtain ⟨oz, nz, cz, hu⟩ : ∃ oz nz cz, u0 = .slice oz nz cz := by
      obtain ⟨oz, cz, _, h, -⟩ := ho.cases
      exact ⟨oz, _, cz, h⟩
    subst hu
    clear ho hf hro
    by_cases hlt : k < n
    · have HLK := Lib.hid (HL.out k hlt)
      have hki : (k : Int) < (n : Int) := by omega
      go_wp2_with (at_builtin; refine wpList_app rfl (.tmp 10) (.tmp 12) 39 rfl B 3 (.int .i64 0) 8 Try.underlying39 (by kernel_rfl) rfl (by decide) (.slice oz nz cz) (ints (nls (l ++ List.replicate k x))) rfl (HOW.out.up (below_alloc _ _)) (.slice (some ⟨wr.heap.size, 0, none⟩) 1 1) (ints (nls [x])) rfl (by simpa [ints, nls] using sl_lit wr #[.int .i64 (x : Int)] 3 (by simp)) (ints_cell _) (by have := HLK.out; simpa [ints, nls] using this) (Nat.le_trans hB (Nat.le_trans hsz (by simp))) ?_; intro v' w2 hown1 hg1 hk1; (have HO1 := Lib.hid hown1; have HG1 := Lib.hid hg1; have HK1 := Lib.hid hk1; clear hown1 hg1 hk1))
      go_roundg (n - (k + 1))
      case measure => omega
      case rel =>
        refine ⟨k + 1, by omega, by go_num, by rw [HAP.out]; exact HO1.out, (HF.out.trans (fx_below (below_alloc wr _))).grown HG1.out HRO.out, fun q hq => ?_, rfl⟩
        rcases HK1.out q hq with h1 | h1
        · exact HRO.out q h1
        · have h2 : wr.heap.size ≤ q := Nat.le_trans (by simp) h1
          exact .inr (by omega)
    · obtain rfl : k = n := by omega
      have hki : ¬ (k : Int) < (k : Int) := by omega
      go_wp2
      go_ret
      exact ⟨_, rfl, HOW.out, HF.out, fun q hq => (HVS.out q).2 (HRO.out q hq)⟩
theorem xb_lt (N T n : Nat) (st : Nat × Nat) : (xb N T n st).1 < 2 ^ n := by
  have hp := Nat.two_pow_pos n
  unfold xb
  split
  · unfold bitsA
    split
    · exact Nat.mod_lt _ hp
    · exact hp
  · exact hp
theorem last_cell (l : List Nat) (h : l ≠ []) : (ints (nls l)).getD (l.length - 1) undef = .int .i64 (l.getD (l.length - 1) 0 : Nat) := by
  have : 0 < l.length := List.length_pos_iff.2 h
  have h2 : l.length - 1 < l.length := by omega
  simp [ints, nls, List.getD, h2]
theorem repS {w : World} {q g : Nat} {s : ByteArray} {st : Nat × Nat} (h : SrcT w q g s st) (hs : s.size ≤ 4294967296) (sym : Nat) (hsym : sym = 16 ∨ sym = 17 ∨ sym = 18) (v : Value) (l : List Nat) (B : Nat) (ho : Own w B 3 v (ints (nls l))) (hl : l.length ≤ 1000) :
    Calls Try.prog 138 #[.pointer (some ⟨q, 0, none⟩), .int .i64 sym, v] w fun e w' => e = .returned (.tuple #[.int .i64 ((repN (numS s) (8 * s.size) sym l st).1 : Nat), .int .i64 ((repN (numS s) (8 * s.size) sym l st).2.1 : Nat)]) ∧ SrcT w' q g s (repN (numS s) (8 * s.size) sym l st).2.2 ∧ Two q g w w' := by
  have HBT := Lib.hid (fun n (hn : n ≤ 32) => srcBits h hs n hn)
  have HFL := Lib.hid (failS h 4 (by omega))
  have HXL := Lib.hid (fun n => xb_lt (numS s) (8 * s.size) n st)
  have hlen : (ints (nls l)).length = l.length := by simp [ints, nls]
  have HSL := Lib.hid (last_cell l)
  obtain ⟨oa, cap, b, hv, hd, -, hc, -, -⟩ := ho.cases
  rw [hlen] at hv hd hc
  subst hv
  have hix := index_any (P := Try.prog) 39 3 Try.underlying39 (by kernel_rfl) hd
  have hm := hd.len
  have hbk := hd.hblk
  have HC := Lib.hid hc
  clear hd hc h ho hlen
  generalize numS s = N at *
  generalize 8 * s.size = T at *
  rcases hsym with rfl | rfl | rfl
  · by_cases hnil : l = []
    · subst hnil
      have hrep : repN N T 16 [] st = (0, 0, xf 4 st) := rfl
      rw [hrep]
      rw [show ((4 : Nat) : Int) = 4 from rfl] at HFL
      clear hrep HC HSL HXL HBT hbk
      generalize xf 4 st = st2 at *
      go_enter Try.func138, Try.ntmps138
      go_wp2_with (go_at_call 109; (with_reducible refine HFL.out.mono ?_); rintro e w2 ⟨rfl, hq1, hq2⟩; (have HQ1 := Lib.hid hq1; have HQ2 := Lib.hid hq2; clear hq1 hq2))
      go_ret2
      exact ⟨rfl, HQ1.out, HQ2.out⟩
    · have hrep : repN N T 16 l st = (3 + (xb N T 2 st).1, l.getD (l.length - 1) 0, (xb N T 2 st).2) := by unfold repN; rw [if_neg (by omega), if_pos rfl, if_neg hnil]
      rw [hrep]
      have HB2 := Lib.hid (HBT.out 2 (by omega))
      rw [show ((2 : Nat) : Int) = 2 from rfl] at HB2
      have hx := HXL.out 2
      have hcell := HC.out (l.length - 1) (by have := List.length_pos_iff.2 hnil; omega)
      rw [HSL.out hnil] at hcell
      have hln : 0 < l.length := List.length_pos_iff.2 hnil
      have hbb := hbk hln
      have hpred : (l.length : Int) - 1 = ((l.length - 1 : Nat) : Int) := by omega
      have hplt : l.length - 1 < l.length := by omega
      have hl0 : ((l.length : Int) == 0) = false := by simp; omega
      clear hrep hnil HC HSL HFL HXL HBT hbk
      generalize xb N T 2 st = r at *
      obtain ⟨a, st2⟩ := r
      generalize l.getD (l.length - 1) 0 = y at *
      generalize l.length - 1 = j at *
      generalize l.length = n at *
      go_enter Try.func138, Try.ntmps138
      go_wp2_with (go_at_call 106; (with_reducible refine HB2.out.mono ?_); rintro e w2 ⟨rfl, hq1, hq2⟩; (have HQ1 := Lib.hid hq1; have HQ2 := Lib.hid hq2; clear hq1 hq2))
      go_ret2
      exact ⟨rfl, HQ1.out, HQ2.out⟩
  · have hrep : repN N T 17 l st = (3 + (xb N T 3 st).1, 0, (xb N T 3 st).2) := rfl
    rw [hrep]
    have HB2 := Lib.hid (HBT.out 3 (by omega))
    rw [show ((3 : Nat) : Int) = 3 from rfl] at HB2
    have hx := HXL.out 3
    clear hrep HC HSL HFL HXL HBT hbk
    generalize xb N T 3 st = r at *
    obtain ⟨a, st2⟩ := r
    go_enter Try.func138, Try.ntmps138
    go_wp2_with (go_at_call 106; (with_reducible refine HB2.out.mono ?_); rintro e w2 ⟨rfl, hq1, hq2⟩; (have HQ1 := Lib.hid hq1; have HQ2 := Lib.hid hq2; clear hq1 hq2))
    go_ret2
    exact ⟨rfl, HQ1.out, HQ2.out⟩
  · have hrep : repN N T 18 l st = (11 + (xb N T 7 st).1, 0, (xb N T 7 st).2) := rfl
    rw [hrep]
    have HB2 := Lib.hid (HBT.out 7 (by omega))
    rw [show ((7 : Nat) : Int) = 7 from rfl] at HB2
    have hx := HXL.out 7
    clear hrep HC HSL HFL HXL HBT hbk
    generalize xb N T 7 st = r at *
    obtain ⟨a, st2⟩ := r
    go_enter Try.func138, Try.ntmps138
    go_wp2_with (go_at_call 106; (with_reducible refine HB2.out.mono ?_); rintro e w2 ⟨rfl, hq1, hq2⟩; (have HQ1 := Lib.hid hq1; have HQ2 := Lib.hid hq2; clear hq1 hq2))
    go_ret2
    exact ⟨rfl, HQ1.out, HQ2.out⟩
end Go.Cm
