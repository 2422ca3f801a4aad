/- Texts of this claim, joined: walks of small functions and plain facts about them. Conditions: as each says. -/
import Derived.Test.YtfnkhcibcffcmaaGN
import Derived.Test.YtfnkhcibcffcmaaGA
/- Grids of truths in memory; the walks of an empty grid, and of the grid in which each place goes with itself. Conditions: none. -/
namespace Go.Cm
open Go.RowKit Go.Proofs

def rowL (N : Nat) (f : Nat → Bool) : List Value := (List.range N).map fun q => .bool (f q)
def gridL (N : Nat) (G : Nat → Nat → Bool) : List (List Value) := (List.range N).map fun p => rowL N (G p)
@[simp] theorem rowL_len (N : Nat) (f : Nat → Bool) : (rowL N f).length = N := by simp [rowL]
@[simp] theorem gridL_len (N : Nat) (G : Nat → Nat → Bool) : (gridL N G).length = N := by simp [gridL]
theorem rowL_get {N : Nat} {f : Nat → Bool} {q : Nat} (h : q < N) : (rowL N f).getD q undef = .bool (f q) := by simp [rowL, List.getD, h]
theorem gridL_get {N : Nat} {G : Nat → Nat → Bool} {p : Nat} (h : p < N) : (gridL N G).getD p [] = rowL N (G p) := by simp [gridL, List.getD, h]
def upd (G : Nat → Nat → Bool) (p q : Nat) (b : Bool) : Nat → Nat → Bool := fun p' q' => if p' = p ∧ q' = q then b else G p' q'
theorem rowL_set (N : Nat) (G : Nat → Nat → Bool) (p q : Nat) (b : Bool) : (rowL N (G p)).set q (.bool b) = rowL N (upd G p q b p) := by
  refine List.ext_getElem (by simp) fun i h1 h2 => ?_
  rw [List.getElem_set]
  have hi : i < N := by simpa using h2
  simp only [rowL, List.getElem_map, List.getElem_range, upd]
  by_cases h : q = i
  · subst h; simp
  · rw [if_neg h, if_neg (fun e => h e.2.symm)]
theorem gridL_set (N : Nat) (G : Nat → Nat → Bool) (p q : Nat) (b : Bool) : (gridL N G).set p (rowL N (upd G p q b p)) = gridL N (upd G p q b) := by
  refine List.ext_getElem (by simp) fun i h1 h2 => ?_
  rw [List.getElem_set]
  have hi : i < N := by simpa using h2
  simp only [gridL, List.getElem_map, List.getElem_range]
  by_cases h : p = i
  · subst h; simp
  · rw [if_neg h]
    have : G i = upd G p q b i := by
      funext q'
      unfold upd
      rw [if_neg (fun e => h e.1.symm)]
    rw [this]
/-- a grid that can be read -/
def GridR (w : World) (v : Value) (N : Nat) (G : Nat → Nat → Bool) : Prop := RowsG w v (gridL N G)
theorem GridR.up {w w' : World} {v : Value} {N : Nat} {G : Nat → Nat → Bool} (h : GridR w v N G) (hb : Below w.heap.size w w') : GridR w' v N G := RowsG.up h hb
theorem GridR.open {w : World} {v : Value} {N : Nat} {G : Nat → Nat → Bool} (h : GridR w v N G) :
    ∃ oa cap b off, v = .slice oa N cap ∧ Hd w oa N cap b off ∧ ∀ p, p < N → ∃ op cp bp fp, w.cell? ⟨b, off + p, none⟩ = some (.slice op N cp) ∧ Hd w op N cp bp fp ∧ ∀ q, q < N → w.cell? ⟨bp, fp + q, none⟩ = some (.bool (G p q)) := by
  obtain ⟨oa, cap, b, off, rfl, hd, hc⟩ := RowsG.open h
  rw [gridL_len] at hd hc ⊢
  refine ⟨oa, cap, b, off, rfl, hd, fun p hp => ?_⟩
  obtain ⟨op, cp, bp, fp, h1, h2, h3, -⟩ := hc p hp
  rw [gridL_get hp, rowL_len] at h1 h2 h3
  exact ⟨op, cp, bp, fp, h1, h2, fun q hq => by rw [h3 q hq, rowL_get hq]⟩
/-- a grid of one's own, from block B on -/
def GridO (w : World) (B : Nat) (v : Value) (N : Nat) (G : Nat → Nat → Bool) : Prop := ∃ vs, OwnM w B 109 4 v vs (gridL N G)
theorem GridO.read {w : World} {B : Nat} {v : Value} {N : Nat} {G : Nat → Nat → Bool} (h : GridO w B v N G) : GridR w v N G := by
  obtain ⟨vs, h⟩ := h; exact h.rowsG
theorem GridO.up {w w' : World} {B : Nat} {v : Value} {N : Nat} {G : Nat → Nat → Bool} (h : GridO w B v N G) (hb : Below w.heap.size w w') : GridO w' B v N G := by
  obtain ⟨vs, h⟩ := h; exact ⟨vs, h.up hb⟩
theorem GridO.form {w : World} {B : Nat} {v : Value} {N : Nat} {G : Nat → Nat → Bool} (h : GridO w B v N G) (hN : 0 < N) : ∃ g cap, v = .slice (some ⟨g, 0, none⟩) N cap ∧ B ≤ g ∧ Hd w (some ⟨g, 0, none⟩) N cap g 0 := by
  obtain ⟨vs, h⟩ := h
  obtain ⟨oa, cap, g, rfl, hd, hb, -⟩ := h.outer.cases
  rw [h.len, gridL_len] at hd hb ⊢
  obtain rfl := hd.hat hN
  exact ⟨g, cap, rfl, (hb hN).2, hd⟩
theorem GridO.at {w : World} {B g cap : Nat} {N : Nat} {G : Nat → Nat → Bool} (h : GridO w B (.slice (some ⟨g, 0, none⟩) N cap) N G) {p : Nat} (hp : p < N) :
    ∃ bp cp, w.cell? ⟨g, p, none⟩ = some (.slice (some ⟨bp, 0, none⟩) N cp) ∧ Hd w (some ⟨bp, 0, none⟩) N cp bp 0 ∧ g < w.heap.size ∧ B ≤ bp ∧ (∀ q, q < N → w.cell? ⟨bp, q, none⟩ = some (.bool (G p q)) ∧ w.frozen? ⟨bp, q, none⟩ = false ∧
      ∀ b, GridO (w.setCell ⟨bp, q, none⟩ (.bool b)) B (.slice (some ⟨g, 0, none⟩) N cap) N (upd G p q b) ∧ w.grownBy (w.setCell ⟨bp, q, none⟩ (.bool b)) (some bp)) := by
  obtain ⟨vs, h⟩ := h
  have hl := h.len
  rw [gridL_len] at hl
  have hr := h.rows p (by simpa using hp)
  rw [gridL_get hp] at hr
  obtain ⟨op, cp, bp, hv, hd, hb, hc, hf, hs⟩ := hr.cases
  rw [rowL_len] at hv hd hb hc hf hs
  obtain rfl := hd.hat (by omega)
  refine ⟨bp, cp, by rw [h.outer.cell (by omega), hv], hd, h.outer.blk.2, (hb (by omega)).2, fun q hq => ⟨by rw [hc q hq, rowL_get hq], hf q hq, fun b => ?_⟩⟩
  obtain ⟨h1, h2⟩ := hs q (.bool b) hq
  rw [rowL_set] at h1
  refine ⟨⟨vs, ?_⟩, h2⟩
  have h3 := h.writeRow (w' := w.setCell ⟨bp, q, none⟩ (.bool b)) (i := p) (by simpa using hp) h1 (by rw [(hb (by omega)).1]; exact h2)
  rw [gridL_set] at h3
  exact h3
theorem rowL_false (N : Nat) : List.replicate N (.bool false) = rowL N (fun _ => false) := by
  refine List.ext_getElem (by simp) fun i h1 h2 => by simp [rowL]
set_option maxRecDepth 100000 in
set_option maxHeartbeats 4000000 in
theorem gridR {w : World} {N : Nat} (hN : N ≤ 100000) :
    Calls Try.prog 71 #[.int .i64 N] w fun e w' => ∃ u, e = .returned u ∧ GridO w' w.heap.size u N (fun _ _ => false) ∧ Below w.heap.size w w' := by
  have hmk := run_mk (P := Try.prog) 109 4 (.bool false) 1 N Try.underlying109 (by kernel_rfl) rfl (by decide) (by omega)
  go_enter Try.func71, Try.ntmps71
  go_wp2
  go_loopg [3, 4] N (fun gk ov iv wr => ∃ (i : Nat) (vs : List Value), iv = .int .i64 i ∧ i ≤ N ∧ OwnM wr w.heap.size 109 4 ov vs ((List.range i).map fun _ => rowL N (fun _ => false)) ∧ Below w.heap.size w wr ∧ gk = N - i)
  case atStart => exact ⟨0, [], rfl, Nat.zero_le _, OwnM.nil _ _ _ _, Below.refl _ _, rfl⟩
  case round =>
    obtain ⟨i, vs, rfl, hi, hown, hbel, rfl⟩ := hrel
    have HO := Lib.hid hown
    have HW := Lib.hid hbel
    have hsz := HW.out.size
    have hvl : vs.length = i := by have := hown.len; simpa using this
    have HVL := Lib.hid hvl
    clear hown hbel hvl
    by_cases hlt : i < N
    · have HA := Lib.hid (below_alloc wr (.cells (madeCells #[.bool false] N) 4))
      have HR := Lib.hid (by simpa only [rowL_false] using own_made wr w.heap.size 4 (.bool false) N hsz (by omega) : Own (wr.alloc (.cells (madeCells #[.bool false] N) 4)) w.heap.size 4 (.slice (some ⟨wr.heap.size, 0, none⟩) N N) (rowL N (fun _ => false)))
      have HOA := Lib.hid (HO.out.up HA.out)
      have HFR := Lib.hid (HO.out.free_new (Nat.le_refl wr.heap.size))
      have hsz1 : (wr.alloc (.cells (madeCells #[.bool false] N) 4)).heap.size = wr.heap.size + 1 := by simp
      have HB1 := Lib.hid (HW.out.trans (HA.out.mono hsz))
      have HLW := Lib.hid (below_alloc (wr.alloc (.cells (madeCells #[.bool false] N) 4)) (.cells #[.slice (some ⟨wr.heap.size, 0, none⟩) N N] 109))
      have HSL : Hid (Sl ((wr.alloc (.cells (madeCells #[.bool false] N) 4)).alloc (.cells #[.slice (some ⟨wr.heap.size, 0, none⟩) N N] 109)) (.slice (some ⟨wr.heap.size + 1, 0, none⟩) 1 1) [.slice (some ⟨wr.heap.size, 0, none⟩) N N]) := Lib.hid (by
        have := sl_lit (wr.alloc (.cells (madeCells #[.bool false] N) 4)) #[.slice (some ⟨wr.heap.size, 0, none⟩) N N] 109 (by simp)
        rw [hsz1] at this
        exact this)
      clear HA
      go_wp2_with (at_builtin; refine wpList_app rfl (.tmp 10) (.tmp 13) 110 rfl w.heap.size 109 (.slice none 0 0) 24 Try.underlying110 (by kernel_rfl) rfl (by decide) u3 vs rfl (HOA.out.up HLW.out).outer (.slice (some ⟨wr.heap.size + 1, 0, none⟩) 1 1) [.slice (some ⟨wr.heap.size, 0, none⟩) N N] rfl HSL.out (by intro z hz; rw [List.mem_singleton] at hz; rw [hz]; rfl) (by simp; have := HVL.out; omega) (Nat.le_trans (Nat.le_trans hsz (by omega)) HLW.out.size) ?_; intro v' w5 hown1 hg1 hk1; have HO1 := Lib.hid hown1; have HG1 := Lib.hid hg1; have HK1 := Lib.hid hk1; clear hown1 hg1 hk1)
      go_roundg (N - (i + 1))
      case measure => omega
      case rel =>
        refine ⟨i + 1, vs ++ [.slice (some ⟨wr.heap.size, 0, none⟩) N N], by go_num, by omega, ?_, below_grown (HB1.out.trans (HLW.out.mono HB1.out.size)) (Nat.le_trans HB1.out.size HLW.out.size) (HOA.out.up HLW.out).outer HG1.out, rfl⟩
        have h := OwnM.push HOA.out HR.out HFR.out (grown_below HLW.out none) HO1.out HG1.out HK1.out
        have e : ((List.range (i + 1)).map fun _ => rowL N (fun _ => false)) = ((List.range i).map fun _ => rowL N (fun _ => false)) ++ [rowL N (fun _ => false)] := by rw [List.range_succ, List.map_append]; rfl
        rw [e]
        exact h
    · have hie : i = N := by omega
      subst hie
      go_wp2
      go_ret
      exact ⟨_, rfl, ⟨vs, HO.out⟩, HW.out⟩

set_option maxRecDepth 100000 in
set_option maxHeartbeats 4000000 in
theorem sameR {w : World} {N : Nat} (h0 : 0 < N) (hN : N ≤ 100000) :
    Calls Try.prog 72 #[.int .i64 N] w fun e w' => ∃ u, e = .returned u ∧ (∃ G, GridR w' u N G ∧ ∀ p q, p < N → q < N → (G p q = true ↔ p = q)) ∧ Below w.heap.size w w' := by
  have HG := Lib.hid (gridR (w := w) hN)
  go_enter Try.func72, Try.ntmps72
  go_upto_region 2 with ((with_reducible go_at_call 71); refine HG.out.mono ?_; rintro en w1 ⟨u, rfl, ho, hb⟩; obtain ⟨g, cap, rfl, hgb, hd⟩ := ho.form h0; have HO1 := Lib.hid ho; have HB1 := Lib.hid hb; have HD := Lib.hid hd; clear ho hb hd)
  have hixo := fun (W : World) (i : Nat) (hi : i < N) => index_any (P := Try.prog) 110 109 Try.underlying110 (by kernel_rfl) HD.out W .i64 i (by omega) (by omega)
  simp only [Int.toNat_natCast, Nat.zero_add] at hixo
  go_wp2
  go_loopg [4] N (fun gk iv wr => ∃ (i : Nat) (G : Nat → Nat → Bool), iv = .int .i64 i ∧ i ≤ N ∧ GridO wr w.heap.size (.slice (some ⟨g, 0, none⟩) N cap) N G ∧ (∀ p q, p < N → q < N → (G p q = true ↔ p < i ∧ p = q)) ∧ Below w.heap.size w wr ∧ gk = N - i)
  case atStart => exact ⟨0, _, rfl, Nat.zero_le _, HO1.out, fun p q _ _ => by simp, HB1.out, rfl⟩
  case round =>
    obtain ⟨i, G, rfl, hi, ho, hg, hbl, rfl⟩ := hrel
    have HO := Lib.hid ho
    have HW := Lib.hid hbl
    have HGS := Lib.hid hg
    clear hbl hg
    by_cases hlt : i < N
    · obtain ⟨bp, cp, hcr, hdp, hgw, hbp, hq⟩ := ho.at hlt
      obtain ⟨hcq, hfq, hst⟩ := hq i hlt
      have HST := Lib.hid (hst true)
      have hbw := hdp.hblk h0
      have hixp := fun (W : World) (i : Nat) (hi : i < N) => index_any (P := Try.prog) 109 4 Try.underlying109 (by kernel_rfl) hdp W .i64 i (by omega) (by omega)
      simp only [Int.toNat_natCast, Nat.zero_add] at hixp
      clear ho hst hq hdp
      go_wp2
      go_roundg (N - (i + 1))
      case measure => omega
      case rel =>
        refine ⟨i + 1, upd G i i true, by go_num, by omega, HST.out.1, fun p q hp hq => ?_, HW.out.grown HST.out.2 HW.out.size (fun k hk => by cases hk; exact hbp), rfl⟩
        unfold upd
        split
        · rename_i h; obtain ⟨rfl, rfl⟩ := h; simp
        · rename_i h
          rw [HGS.out p q hp hq]
          constructor
          · rintro ⟨h1, h2⟩; exact ⟨by omega, h2⟩
          · rintro ⟨h1, h2⟩; exact ⟨by omega, h2⟩
    · have hie : i = N := by omega
      subst hie
      go_wp2
      go_ret
      exact ⟨_, rfl, ⟨G, HO.out.read, fun p q hp hq => (HGS.out p q hp hq).trans ⟨fun h => h.2, fun h => ⟨hp, h⟩⟩⟩, HW.out⟩
end Go.Cm

/- The walk of the grid of two. Conditions: none. -/
namespace Go.Cm
open Go.RowKit Go.Proofs

theorem index_grid {w : World} {oa : Option Addr} {b off len cap : Nat} (h : Hd w oa len cap b off) :
    ∀ (W : World) (i : Nat), i < len → (Instr.indexAt 110 (.slice oa len cap) (.int .i64 i)).run Try.prog W = .ok (.pointer (some ⟨b, off + i, none⟩)) W := fun W i hi => by
  have := index_any (P := Try.prog) 110 109 Try.underlying110 (by kernel_rfl) h W .i64 i (by omega) (by omega)
  simpa using this
theorem index_bool {w : World} {oa : Option Addr} {b off len cap : Nat} (h : Hd w oa len cap b off) :
    ∀ (W : World) (i : Nat), i < len → (Instr.indexAt 109 (.slice oa len cap) (.int .i64 i)).run Try.prog W = .ok (.pointer (some ⟨b, off + i, none⟩)) W := fun W i hi => by
  have := index_any (P := Try.prog) 109 4 Try.underlying109 (by kernel_rfl) h W .i64 i (by omega) (by omega)
  simpa using this
set_option maxRecDepth 100000 in
set_option maxHeartbeats 8000000 in
theorem eitherR {w : World} {va vb : Value} {N : Nat} {A B : Nat → Nat → Bool} (ha : GridR w va N A) (hb : GridR w vb N B) (h0 : 0 < N) (hN : N ≤ 100000) :
    Calls Try.prog 74 #[va, vb] w fun e w' => ∃ u, e = .returned u ∧ (∃ G, GridO w' w.heap.size u N G ∧ ∀ p q, p < N → q < N → (G p q = true ↔ A p q = true ∨ B p q = true)) ∧ Below w.heap.size w w' := by
  have HG := Lib.hid (gridR (w := w) hN)
  obtain ⟨oa, ca, ba, fa, rfl, hda, hra⟩ := ha.open
  obtain ⟨ob, cb, bb, fb, rfl, hdb, hrb⟩ := hb.open
  have hixa := index_grid hda
  have hixb := index_grid hdb
  have hba := hda.hblk h0
  have hbb := hdb.hblk h0
  have HRA := Lib.hid hra
  have HRB := Lib.hid hrb
  clear ha hb hda hdb hra hrb
  go_enter Try.func74, Try.ntmps74
  go_upto_region 2 with ((with_reducible go_at_call 71); refine HG.out.mono ?_; rintro en w1 ⟨u, rfl, ho, hb⟩; obtain ⟨g, cap, rfl, hgb, hd⟩ := ho.form h0; have HO1 := Lib.hid ho; have HB1 := Lib.hid hb; have HD := Lib.hid hd; clear ho hb hd)
  have hixo := index_grid HD.out
  simp only [Nat.zero_add] at hixo
  go_wp2
  go_loopg [6] N (fun gk iv wr => ∃ (i : Nat) (G : Nat → Nat → Bool), iv = .int .i64 i ∧ i ≤ N ∧ GridO wr w.heap.size (.slice (some ⟨g, 0, none⟩) N cap) N G ∧ (∀ p q, p < i → q < N → (G p q = true ↔ A p q = true ∨ B p q = true)) ∧ Below w.heap.size w wr ∧ gk = N - i)
  case atStart => exact ⟨0, _, rfl, Nat.zero_le _, HO1.out, fun p q hp _ => absurd hp (Nat.not_lt_zero p), HB1.out, rfl⟩
  case round =>
    obtain ⟨i, G, rfl, hi, ho, hg, hbl, rfl⟩ := hrel
    have HO := Lib.hid ho
    have HW := Lib.hid hbl
    have HGS := Lib.hid hg
    clear hbl hg ho HO1 HB1
    by_cases hlt : i < N
    · obtain ⟨oai, cai, bai, fai, hca, hdai, hcai⟩ := HRA.out i hlt
      obtain ⟨obi, cbi, bbi, fbi, hcb, hdbi, hcbi⟩ := HRB.out i hlt
      have hixai := index_bool hdai
      have hixbi := index_bool hdbi
      have hbai := hdai.hblk h0
      have hbbi := hdbi.hblk h0
      have HCA := Lib.hid hca
      have HCB := Lib.hid hcb
      have HCAI := Lib.hid hcai
      have HCBI := Lib.hid hcbi
      clear hca hcb hcai hcbi hdai hdbi
      go_wp2
      have HOO := HO
      have HWO := HW
      clear HO HW
      generalize wr = wo at *
      go_loopg [7] N (fun gk jv wr => ∃ (j : Nat) (G : Nat → Nat → Bool), jv = .int .i64 j ∧ j ≤ N ∧ GridO wr w.heap.size (.slice (some ⟨g, 0, none⟩) N cap) N G ∧ (∀ p q, p < i → q < N → (G p q = true ↔ A p q = true ∨ B p q = true)) ∧ (∀ q, q < j → (G i q = true ↔ A i q = true ∨ B i q = true)) ∧ Below w.heap.size w wr ∧ gk = N - j)
      case atStart => exact ⟨0, G, rfl, Nat.zero_le _, HOO.out, HGS.out, fun q hq => absurd hq (Nat.not_lt_zero q), HWO.out, rfl⟩
      case round =>
        obtain ⟨j, G', rfl, hj, ho, hg, hgi, hbl, rfl⟩ := hrel
        have HO := Lib.hid ho
        have HW := Lib.hid hbl
        have HG1 := Lib.hid hg
        have HG2 := Lib.hid hgi
        clear hg hgi hbl HOO HWO
        by_cases hltj : j < N
        · obtain ⟨bp, cp, hcr, hdp, hgw, hbp, hq⟩ := ho.at hlt
          obtain ⟨hcq, hfq, hst⟩ := hq j hltj
          have hbw := hdp.hblk h0
          have hixp := index_bool hdp
          simp only [Nat.zero_add] at hixp
          have xa := (HW.out.cell (p := ⟨ba, fa + i, none⟩) hba).trans HCA.out
          have xb := (HW.out.cell (p := ⟨bb, fb + i, none⟩) hbb).trans HCB.out
          have ya := (HW.out.cell (p := ⟨bai, fai + j, none⟩) hbai).trans (HCAI.out j hltj)
          have yb := (HW.out.cell (p := ⟨bbi, fbi + j, none⟩) hbbi).trans (HCBI.out j hltj)
          have hws := HW.out.size
          have la : ba < wr.heap.size := by omega
          have lb : bb < wr.heap.size := by omega
          have lai : bai < wr.heap.size := by omega
          have lbi : bbi < wr.heap.size := by omega
          have HST := Lib.hid hst
          have hbpw : w.heap.size ≤ bp := hbp
          have n1 : ba ≠ bp := by omega
          have n2 : bb ≠ bp := by omega
          obtain ⟨x, hx⟩ : ∃ x, x = A i j := ⟨_, rfl⟩
          obtain ⟨y, hy⟩ : ∃ y, y = B i j := ⟨_, rfl⟩
          have HX := Lib.hid hx
          have HY := Lib.hid hy
          rw [← hx] at ya
          rw [← hy] at yb
          have HREL : Hid (∀ (b : Bool), (b = true ↔ x = true ∨ y = true) → (∀ p q, p < i → q < N → (upd G' i j b p q = true ↔ A p q = true ∨ B p q = true)) ∧ (∀ q, q < j + 1 → (upd G' i j b i q = true ↔ A i q = true ∨ B i q = true))) := Lib.hid (fun b hb => by
            refine ⟨fun p q hp hq => ?_, fun q hq => ?_⟩
            · unfold upd; rw [if_neg (fun e => by omega)]; exact HG1.out p q hp hq
            · unfold upd
              by_cases hqj : q = j
              · rw [if_pos ⟨rfl, hqj⟩, hqj, ← HX.out, ← HY.out]; exact hb
              · rw [if_neg (fun e => hqj e.2)]; exact HG2.out q (by omega))
          clear ho hq hdp hst hx hy
          cases x with
          | true =>
            go_wp2
            refine wp_region_tailg [0,1,2,3,4,5,6,7,8,9,10,11,12,13,14,15,16,17,18,19,20] [] [21,22] (by kernel_rfl) (by kernel_rfl) ?_
            simp only [pick, List.map_cons, List.map_nil, List.getD_cons_zero, List.getD_cons_succ]
            repeat (go_big_quiet_step (fail))
            refine wpQuiet_nil ?_
            unfold wpAct
            unfold wpAct
            go_wp2
            refine ⟨trivial, ?_⟩
            unfold wpAct
            go_wp2
            refine ⟨trivial, ?_⟩
            unfold wpAct
            go_wp2
            go_roundg (N - (j + 1))
            case measure => omega
            case rel =>
              have h1 := HST.out true
              have h2 := HREL.out true (by simp)
              exact ⟨j + 1, upd G' i j true, by go_num, by omega, h1.1.up (drew_b _), h2.1, h2.2, (HW.out.grown h1.2 HW.out.size (fun k hk => by cases hk; exact hbpw)).trans ((drew_b _).mono (by simpa using HW.out.size)), rfl⟩
          | false =>
            cases y with
            | true =>
              go_wp2
              refine wp_region_tailg [0,1,2,3,4,5,6,7,8,9,10,11,12,13,14,15,16,17,18,19,20] [] [21,22] (by kernel_rfl) (by kernel_rfl) ?_
              simp only [pick, List.map_cons, List.map_nil, List.getD_cons_zero, List.getD_cons_succ]
              repeat (go_big_quiet_step (fail))
              refine wpQuiet_nil ?_
              unfold wpAct
              unfold wpAct
              go_wp2
              refine ⟨trivial, ?_⟩
              unfold wpAct
              go_wp2
              refine ⟨trivial, ?_⟩
              unfold wpAct
              go_wp2
              go_roundg (N - (j + 1))
              case measure => omega
              case rel =>
                have h1 := HST.out true
                have h2 := HREL.out true (by simp)
                exact ⟨j + 1, upd G' i j true, by go_num, by omega, h1.1.up (drew_b _), h2.1, h2.2, (HW.out.grown h1.2 HW.out.size (fun k hk => by cases hk; exact hbpw)).trans ((drew_b _).mono (by simpa using HW.out.size)), rfl⟩
            | false =>
              go_wp2
              refine wp_region_tailg [0,1,2,3,4,5,6,7,8,9,10,11,12,13,14,15,16,17,18,19,20] [] [21,22] (by kernel_rfl) (by kernel_rfl) ?_
              simp only [pick, List.map_cons, List.map_nil, List.getD_cons_zero, List.getD_cons_succ]
              repeat (go_big_quiet_step (fail))
              refine wpQuiet_nil ?_
              unfold wpAct
              unfold wpAct
              go_wp2
              refine ⟨trivial, ?_⟩
              unfold wpAct
              go_wp2
              refine ⟨trivial, ?_⟩
              unfold wpAct
              go_wp2
              go_roundg (N - (j + 1))
              case measure => omega
              case rel =>
                have h1 := HST.out false
                have h2 := HREL.out false (by simp)
                exact ⟨j + 1, upd G' i j false, by go_num, by omega, h1.1.up (drew_b _), h2.1, h2.2, (HW.out.grown h1.2 HW.out.size (fun k hk => by cases hk; exact hbpw)).trans ((drew_b _).mono (by simpa using HW.out.size)), rfl⟩
        · go_wp2
          go_roundg (N - (i + 1))
          case measure => omega
          case rel =>
            refine ⟨i + 1, G', by go_num, by omega, HO.out, fun p q hp hq => ?_, HW.out, rfl⟩
            by_cases hpi : p = i
            · rw [hpi]; exact HG2.out q (by omega)
            · exact HG1.out p q (by omega) hq
    · have hie : i = N := by omega
      subst hie
      go_wp2
      go_ret
      exact ⟨_, rfl, ⟨G, HO.out, HGS.out⟩, HW.out⟩
end Go.Cm

/- The walk of one grid behind another one. Conditions: none. -/
namespace Go.Cm
open Go.RowKit Go.Proofs

/-- what stands in the grid in between -/
def Th (A B : Nat → Nat → Bool) (N i j k p r : Nat) : Prop := (p < i ∧ ∃ q, q < N ∧ A p q = true ∧ B q r = true) ∨ (p = i ∧ ((∃ q, q < j ∧ A i q = true ∧ B q r = true) ∨ (r < k ∧ A i j = true ∧ B j r = true)))
def ThI (A B G : Nat → Nat → Bool) (N i j k : Nat) : Prop := ∀ p r, p < N → r < N → (G p r = true ↔ Th A B N i j k p r)
theorem th_start (A B : Nat → Nat → Bool) (N : Nat) : ThI A B (fun _ _ => false) N 0 0 0 := fun p r _ _ => ⟨fun h => (by cases h), fun h => by
  rcases h with ⟨h, _⟩ | ⟨_, ⟨q, h, _⟩ | ⟨h, _⟩⟩ <;> omega⟩
theorem th_set {A B G : Nat → Nat → Bool} {N i j k : Nat} (h : ThI A B G N i j k) (hi : i < N) (hk : k < N) (ha : A i j = true) (b : Bool) (hb : b = true ↔ G i k = true ∨ B j k = true) : ThI A B (upd G i k b) N i j (k + 1) := fun p r hp hr => by
  unfold upd
  by_cases hpr : p = i ∧ r = k
  · rw [if_pos hpr, hb, h i k hi hk]
    obtain ⟨rfl, rfl⟩ := hpr
    unfold Th
    constructor
    · rintro (h1 | h1)
      · rcases h1 with ⟨h1, h2⟩ | ⟨_, h2 | ⟨h1, h2⟩⟩
        · exact .inl ⟨h1, h2⟩
        · exact .inr ⟨rfl, .inl h2⟩
        · omega
      · exact .inr ⟨rfl, .inr ⟨by omega, ha, h1⟩⟩
    · rintro (⟨h1, h2⟩ | ⟨_, h2 | ⟨h1, h2, h3⟩⟩)
      · exact .inl (.inl ⟨h1, h2⟩)
      · exact .inl (.inr ⟨rfl, .inl h2⟩)
      · exact .inr h3
  · rw [if_neg hpr, h p r hp hr]
    unfold Th
    constructor
    · rintro (h1 | ⟨h1, h2 | ⟨h3, h2⟩⟩)
      · exact .inl h1
      · exact .inr ⟨h1, .inl h2⟩
      · exact .inr ⟨h1, .inr ⟨by omega, h2⟩⟩
    · rintro (h1 | ⟨h1, h2 | ⟨h3, h2⟩⟩)
      · exact .inl h1
      · exact .inr ⟨h1, .inl h2⟩
      · exact .inr ⟨h1, .inr ⟨by omega, h2⟩⟩
theorem th_row {A B G : Nat → Nat → Bool} {N i j k : Nat} (h : ThI A B G N i j k) (hk : k = N ∨ A i j = false) : ThI A B G N i (j + 1) 0 := fun p r hp hr => by
  rw [h p r hp hr]
  unfold Th
  constructor
  · rintro (h1 | ⟨h1, ⟨q, h2, h3⟩ | ⟨h3, h2⟩⟩)
    · exact .inl h1
    · exact .inr ⟨h1, .inl ⟨q, by omega, h3⟩⟩
    · exact .inr ⟨h1, .inl ⟨j, by omega, h2⟩⟩
  · rintro (h1 | ⟨h1, ⟨q, h2, h3⟩ | ⟨h3, _⟩⟩)
    · exact .inl h1
    · by_cases hq : q = j
      · subst hq
        rcases hk with hk | hk
        · exact .inr ⟨h1, .inr ⟨by omega, h3⟩⟩
        · rw [hk] at h3; cases h3.1
      · exact .inr ⟨h1, .inl ⟨q, by omega, h3⟩⟩
    · omega
theorem th_next {A B G : Nat → Nat → Bool} {N i : Nat} (h : ThI A B G N i N 0) : ThI A B G N (i + 1) 0 0 := fun p r hp hr => by
  rw [h p r hp hr]
  unfold Th
  constructor
  · rintro (⟨h1, h2⟩ | ⟨h1, h2 | ⟨h3, _⟩⟩)
    · exact .inl ⟨by omega, h2⟩
    · exact .inl ⟨by omega, h1 ▸ h2⟩
    · omega
  · rintro (⟨h1, h2⟩ | ⟨h1, ⟨q, h2, _⟩ | ⟨h2, _⟩⟩)
    · by_cases hpi : p = i
      · exact .inr ⟨hpi, .inl (hpi ▸ h2)⟩
      · exact .inl ⟨by omega, h2⟩
    · omega
    · omega
set_option maxRecDepth 100000 in
set_option maxHeartbeats 8000000 in
theorem thenR {w : World} {va vb : Value} {N : Nat} {A B : Nat → Nat → Bool} (ha : GridR w va N A) (hb : GridR w vb N B) (h0 : 0 < N) (hN : N ≤ 100000) :
    Calls Try.prog 73 #[va, vb] w fun e w' => ∃ u, e = .returned u ∧ (∃ G, GridR w' u N G ∧ ∀ p r, p < N → r < N → (G p r = true ↔ ∃ q, q < N ∧ A p q = true ∧ B q r = true)) ∧ Below w.heap.size w w' := by
  have HG := Lib.hid (gridR (w := w) hN)
  obtain ⟨oa, ca, ba, fa, rfl, hda, hra⟩ := ha.open
  obtain ⟨ob, cb, bb, fb, rfl, hdb, hrb⟩ := hb.open
  have hixa := index_grid hda
  have hixb := index_grid hdb
  have hba := hda.hblk h0
  have hbb := hdb.hblk h0
  have HRA := Lib.hid hra
  have HRB := Lib.hid hrb
  have HSTA := Lib.hid (th_start A B N)
  clear ha hb hda hdb hra hrb
  go_enter Try.func73, Try.ntmps73
  go_upto_region 2 with ((with_reducible go_at_call 71); refine HG.out.mono ?_; rintro en w1 ⟨u, rfl, ho, hb⟩; obtain ⟨g, cap, rfl, hgb, hd⟩ := ho.form h0; have HO1 := Lib.hid ho; have HB1 := Lib.hid hb; have HD := Lib.hid hd; clear ho hb hd)
  have hixo := index_grid HD.out
  simp only [Nat.zero_add] at hixo
  go_wp2
  go_loopg [6] N (fun gk iv wr => ∃ (i : Nat) (G : Nat → Nat → Bool), iv = .int .i64 i ∧ i ≤ N ∧ GridO wr w.heap.size (.slice (some ⟨g, 0, none⟩) N cap) N G ∧ ThI A B G N i 0 0 ∧ Below w.heap.size w wr ∧ gk = N - i)
  case atStart => exact ⟨0, _, rfl, Nat.zero_le _, HO1.out, HSTA.out, HB1.out, rfl⟩
  case round =>
    obtain ⟨i, G, rfl, hi, ho, hg, hbl, rfl⟩ := hrel
    have HO := Lib.hid ho
    have HW := Lib.hid hbl
    have HGS := Lib.hid hg
    clear hbl hg ho HO1 HB1
    by_cases hlt : i < N
    · obtain ⟨oai, cai, bai, fai, hca, hdai, hcai⟩ := HRA.out i hlt
      have hixai := index_bool hdai
      have hbai := hdai.hblk h0
      have HCA := Lib.hid hca
      have HCAI := Lib.hid hcai
      clear hca hcai hdai
      go_wp2
      have HOO := HO
      have HWO := HW
      clear HO HW
      generalize wr = wo at *
      go_loopg [7] N (fun gk jv wr => ∃ (j : Nat) (G : Nat → Nat → Bool), jv = .int .i64 j ∧ j ≤ N ∧ GridO wr w.heap.size (.slice (some ⟨g, 0, none⟩) N cap) N G ∧ ThI A B G N i j 0 ∧ Below w.heap.size w wr ∧ gk = N - j)
      case atStart => exact ⟨0, G, rfl, Nat.zero_le _, HOO.out, HGS.out, HWO.out, rfl⟩
      case round =>
        obtain ⟨j, G, rfl, hj, ho, hg, hbl, rfl⟩ := hrel
        have HO := Lib.hid ho
        have HW := Lib.hid hbl
        have HGS := Lib.hid hg
        clear hg hbl HOO HWO ho
        by_cases hltj : j < N
        · obtain ⟨obi, cbi, bbi, fbi, hcb, hdbi, hcbi⟩ := HRB.out j hltj
          have hixbi := index_bool hdbi
          have hbbi := hdbi.hblk h0
          have HCB := Lib.hid hcb
          have HCBI := Lib.hid hcbi
          clear hcb hcbi hdbi
          obtain ⟨z, hz⟩ : ∃ z, z = A i j := ⟨_, rfl⟩
          have HZ := Lib.hid hz
          have HZC : Hid (w.cell? ⟨bai, fai + j, none⟩ = some (.bool z)) := Lib.hid (by rw [hz]; exact HCAI.out j hltj)
          clear hz
          go_wp2
          have HOO := HO
          have HWO := HW
          clear HO HW
          generalize wr = wo2 at *
          go_loopg [8] N (fun gk kv wr => ∃ (k : Nat) (G : Nat → Nat → Bool), kv = .int .i64 k ∧ k ≤ N ∧ GridO wr w.heap.size (.slice (some ⟨g, 0, none⟩) N cap) N G ∧ ThI A B G N i j k ∧ Below w.heap.size w wr ∧ gk = N - k)
          case atStart => exact ⟨0, G, rfl, Nat.zero_le _, HOO.out, HGS.out, HWO.out, rfl⟩
          case round =>
            obtain ⟨k, G, rfl, hk, ho, hg, hbl, rfl⟩ := hrel
            have HO := Lib.hid ho
            have HW := Lib.hid hbl
            have HGS := Lib.hid hg
            clear hg hbl HOO HWO
            have hws := HW.out.size
            by_cases hltk : k < N
            · have xa := (HW.out.cell (p := ⟨ba, fa + i, none⟩) hba).trans HCA.out
              have ya := (HW.out.cell (p := ⟨bai, fai + j, none⟩) hbai).trans HZC.out
              have la : ba < wr.heap.size := by omega
              have lai : bai < wr.heap.size := by omega
              cases z with
              | false =>
                have HTN := Lib.hid (th_row HGS.out (.inr HZ.out.symm))
                clear ho
                go_wp2
                go_roundg (N - (j + 1))
                case measure => omega
                case rel => exact ⟨j + 1, G, by go_num, by omega, HO.out, HTN.out, HW.out, rfl⟩
              | true =>
                obtain ⟨bp, cp, hcr, hdp, hgw, hbp, hq⟩ := ho.at hlt
                obtain ⟨hcq, hfq, hst⟩ := hq k hltk
                have hbw := hdp.hblk h0
                have hixp := index_bool hdp
                simp only [Nat.zero_add] at hixp
                have xb := (HW.out.cell (p := ⟨bb, fb + j, none⟩) hbb).trans HCB.out
                have yb := (HW.out.cell (p := ⟨bbi, fbi + k, none⟩) hbbi).trans (HCBI.out k hltk)
                have lb : bb < wr.heap.size := by omega
                have lbi : bbi < wr.heap.size := by omega
                have HST := Lib.hid hst
                have hbpw : w.heap.size ≤ bp := hbp
                have HREL := Lib.hid (fun (b : Bool) (hb : b = true ↔ G i k = true ∨ B j k = true) => th_set HGS.out hlt hltk HZ.out.symm b hb)
                obtain ⟨x, hx⟩ : ∃ x, x = G i k := ⟨_, rfl⟩
                obtain ⟨y, hy⟩ : ∃ y, y = B j k := ⟨_, rfl⟩
                rw [← hx] at hcq
                rw [← hy] at yb
                rw [← hx, ← hy] at HREL
                clear ho hq hdp hst hx hy
                cases x with
                | true =>
                  go_wp2
                  refine wp_region_tailg [0,1,2,3,4,5,6,7,8,9,10,11,12,13,14,15,16,17,18,19,20] [] [21,22] (by kernel_rfl) (by kernel_rfl) ?_
                  simp only [pick, List.map_cons, List.map_nil, List.getD_cons_zero, List.getD_cons_succ]
                  repeat (go_big_quiet_step (fail))
                  refine wpQuiet_nil ?_
                  unfold wpAct
                  unfold wpAct
                  go_wp2
                  refine ⟨trivial, ?_⟩
                  unfold wpAct
                  go_wp2
                  refine ⟨trivial, ?_⟩
                  unfold wpAct
                  go_wp2
                  go_roundg (N - (k + 1))
                  case measure => omega
                  case rel =>
                    have h1 := HST.out true
                    exact ⟨k + 1, upd G i k true, by go_num, by omega, h1.1.up (drew_b _), HREL.out true (by simp), (HW.out.grown h1.2 HW.out.size (fun k hk => by cases hk; exact hbpw)).trans ((drew_b _).mono (by simpa using HW.out.size)), rfl⟩
                | false =>
                  cases y with
                  | true =>
                    go_wp2
                    refine wp_region_tailg [0,1,2,3,4,5,6,7,8,9,10,11,12,13,14,15,16,17,18,19,20] [] [21,22] (by kernel_rfl) (by kernel_rfl) ?_
                    simp only [pick, List.map_cons, List.map_nil, List.getD_cons_zero, List.getD_cons_succ]
                    repeat (go_big_quiet_step (fail))
                    refine wpQuiet_nil ?_
                    unfold wpAct
                    unfold wpAct
                    go_wp2
                    refine ⟨trivial, ?_⟩
                    unfold wpAct
                    go_wp2
                    refine ⟨trivial, ?_⟩
                    unfold wpAct
                    go_wp2
                    go_roundg (N - (k + 1))
                    case measure => omega
                    case rel =>
                      have h1 := HST.out true
                      exact ⟨k + 1, upd G i k true, by go_num, by omega, h1.1.up (drew_b _), HREL.out true (by simp), (HW.out.grown h1.2 HW.out.size (fun k hk => by cases hk; exact hbpw)).trans ((drew_b _).mono (by simpa using HW.out.size)), rfl⟩
                  | false =>
                    go_wp2
                    refine wp_region_tailg [0,1,2,3,4,5,6,7,8,9,10,11,12,13,14,15,16,17,18,19,20] [] [21,22] (by kernel_rfl) (by kernel_rfl) ?_
                    simp only [pick, List.map_cons, List.map_nil, List.getD_cons_zero, List.getD_cons_succ]
                    repeat (go_big_quiet_step (fail))
                    refine wpQuiet_nil ?_
                    unfold wpAct
                    unfold wpAct
                    go_wp2
                    refine ⟨trivial, ?_⟩
                    unfold wpAct
                    go_wp2
                    refine ⟨trivial, ?_⟩
                    unfold wpAct
                    go_wp2
                    go_roundg (N - (k + 1))
                    case measure => omega
                    case rel =>
                      have h1 := HST.out false
                      exact ⟨k + 1, upd G i k false, by go_num, by omega, h1.1.up (drew_b _), HREL.out false (by simp), (HW.out.grown h1.2 HW.out.size (fun k hk => by cases hk; exact hbpw)).trans ((drew_b _).mono (by simpa using HW.out.size)), rfl⟩
            · have hke : k = N := by omega
              subst hke
              have HTN := Lib.hid (th_row HGS.out (.inl rfl))
              clear ho
              go_wp2
              go_roundg (k - (j + 1))
              case measure => omega
              case rel => exact ⟨j + 1, G, by go_num, by omega, HO.out, HTN.out, HW.out, rfl⟩
        · have hje : j = N := by omega
          subst hje
          have HTN := Lib.hid (th_next HGS.out)
          go_wp2
          go_roundg (j - (i + 1))
          case measure => omega
          case rel => exact ⟨i + 1, G, by go_num, by omega, HO.out, HTN.out, HW.out, rfl⟩
    · have hie : i = N := by omega
      subst hie
      go_wp2
      go_ret
      refine ⟨_, rfl, ⟨G, HO.out.read, fun p r hp hr => (HGS.out p r hp hr).trans ?_⟩, HW.out⟩
      unfold Th
      constructor
      · rintro (⟨-, h⟩ | ⟨h, -⟩)
        · exact h
        · omega
      · intro h; exact .inl ⟨hp, h⟩
end Go.Cm

/- The walk of a grid any number of times. Conditions: none. -/
namespace Go.Cm
open Go.RowKit Go.Proofs

/-- any number of steps of a grid -/
inductive Sta (A : Nat → Nat → Bool) (N p : Nat) : Nat → Prop
  | refl : Sta A N p p
  | step {q r : Nat} : Sta A N p q → q < N → r < N → A q r = true → Sta A N p r
theorem Sta.trans {A : Nat → Nat → Bool} {N p q r : Nat} (h : Sta A N p q) (k : Sta A N q r) : Sta A N p r := by
  induction k with
  | refl => exact h
  | step _ h1 h2 h3 ih => exact .step ih h1 h2 h3
theorem Sta.lt {A : Nat → Nat → Bool} {N p q : Nat} (h : Sta A N p q) (hp : p < N) : q < N := by
  cases h with
  | refl => exact hp
  | step _ _ h _ => exact h
/-- ahead of round k -/
structure WaO (A G : Nat → Nat → Bool) (N k : Nat) : Prop where
  base : ∀ p r, p < N → r < N → A p r = true → G p r = true
  refl : ∀ p, p < N → G p p = true
  sound : ∀ p r, p < N → r < N → G p r = true → Sta A N p r
  tr : ∀ m, m < k → ∀ p r, p < N → m < N → r < N → G p m = true → G m r = true → G p r = true
/-- in round q, at p and r -/
def WaI (G0 G : Nat → Nat → Bool) (N q p r : Nat) : Prop := ∀ p' r', p' < N → r' < N → (G p' r' = true ↔ G0 p' r' = true ∨ ((p' < p ∨ (p' = p ∧ r' < r)) ∧ G0 p' q = true ∧ G0 q r' = true))
theorem wa_start {A G : Nat → Nat → Bool} {N : Nat} (h : ∀ p q, p < N → q < N → (G p q = true ↔ A p q = true ∨ p = q)) : WaO A G N 0 :=
  ⟨fun p r hp hr ha => (h p r hp hr).2 (.inl ha), fun p hp => (h p p hp hp).2 (.inr rfl), fun p r hp hr hg => ((h p r hp hr).1 hg).elim (fun ha => .step .refl hp hr ha) (fun e => e ▸ .refl), fun m hm => absurd hm (Nat.not_lt_zero m)⟩
theorem wa_in (G : Nat → Nat → Bool) (N q : Nat) : WaI G G N q 0 0 := fun p' r' _ _ => ⟨.inl, fun h => h.elim id (fun h => by omega)⟩
theorem wa_col {G0 G : Nat → Nat → Bool} {N q p r : Nat} (h : WaI G0 G N q p r) (hq : q < N) (hp : p < N) : G p q = true ↔ G0 p q = true :=
  (h p q hp hq).trans ⟨fun h => h.elim id (fun h => h.2.1), .inl⟩
theorem wa_row {G0 G : Nat → Nat → Bool} {N q p r : Nat} (h : WaI G0 G N q p r) (hq : q < N) {r' : Nat} (hr : r' < N) : G q r' = true ↔ G0 q r' = true :=
  (h q r' hq hr).trans ⟨fun h => h.elim id (fun h => h.2.2), .inl⟩
theorem wa_set {G0 G : Nat → Nat → Bool} {N q p r : Nat} (h : WaI G0 G N q p r) (hq : q < N) (hp : p < N) (hr : r < N) (hg : G p q = true) (b : Bool) (hb : b = true ↔ G p r = true ∨ G q r = true) : WaI G0 (upd G p r b) N q p (r + 1) := fun p' r' hp' hr' => by
  unfold upd
  by_cases hpr : p' = p ∧ r' = r
  · obtain ⟨rfl, rfl⟩ := hpr
    rw [if_pos ⟨rfl, rfl⟩, hb, wa_row h hq hr, h p' r' hp hr]
    have h0 := (wa_col h hq hp).1 hg
    constructor
    · rintro ((h1 | h1) | h1)
      · exact .inl h1
      · omega
      · exact .inr ⟨.inr ⟨rfl, by omega⟩, h0, h1⟩
    · rintro (h1 | h1)
      · exact .inl (.inl h1)
      · exact .inr h1.2.2
  · rw [if_neg hpr, h p' r' hp' hr']
    constructor
    · rintro (h1 | ⟨h1 | h1, h2⟩)
      · exact .inl h1
      · exact .inr ⟨.inl h1, h2⟩
      · exact .inr ⟨.inr ⟨h1.1, by omega⟩, h2⟩
    · rintro (h1 | ⟨h1 | h1, h2⟩)
      · exact .inl h1
      · exact .inr ⟨.inl h1, h2⟩
      · exact .inr ⟨.inr ⟨h1.1, by omega⟩, h2⟩
theorem wa_end {G0 G : Nat → Nat → Bool} {N q p r : Nat} (h : WaI G0 G N q p r) (hq : q < N) (hp : p < N) (hr : r = N ∨ G p q = false) : WaI G0 G N q (p + 1) 0 := fun p' r' hp' hr' => by
  rw [h p' r' hp' hr']
  constructor
  · rintro (h1 | ⟨h1, h2⟩)
    · exact .inl h1
    · exact .inr ⟨.inl (by omega), h2⟩
  · rintro (h1 | ⟨h1, h2⟩)
    · exact .inl h1
    · by_cases hpp : p' = p
      · subst hpp
        rcases hr with hr | hr
        · exact .inr ⟨.inr ⟨rfl, by omega⟩, h2⟩
        · have := (wa_col h hq hp).2 h2.1
          rw [hr] at this; cases this
      · exact .inr ⟨.inl (by omega), h2⟩
theorem wa_next {A G0 G : Nat → Nat → Bool} {N q : Nat} (h0 : WaO A G0 N q) (hq : q < N) (h : WaI G0 G N q N 0) : WaO A G N (q + 1) := by
  have h' : ∀ p r, p < N → r < N → (G p r = true ↔ G0 p r = true ∨ (G0 p q = true ∧ G0 q r = true)) := fun p r hp hr => (h p r hp hr).trans (or_congr Iff.rfl ⟨fun h => h.2, fun h => ⟨.inl hp, h⟩⟩)
  refine ⟨fun p r hp hr ha => (h' p r hp hr).2 (.inl (h0.base p r hp hr ha)), fun p hp => (h' p p hp hp).2 (.inl (h0.refl p hp)), fun p r hp hr hg => ?_, fun m hm p r hp hmN hr h1 h2 => ?_⟩
  · rcases (h' p r hp hr).1 hg with h1 | ⟨h1, h2⟩
    · exact h0.sound p r hp hr h1
    · exact (h0.sound p q hp hq h1).trans (h0.sound q r hq hr h2)
  · rw [h' p r hp hr]
    by_cases hmq : m = q
    · subst hmq
      refine .inr ⟨?_, ?_⟩
      · rcases (h' p m hp hq).1 h1 with h3 | h3
        · exact h3
        · exact h3.1
      · rcases (h' m r hq hr).1 h2 with h3 | h3
        · exact h3
        · exact h3.2
    · have hmk : m < q := by omega
      rcases (h' p m hp hmN).1 h1 with h3 | ⟨h3, h4⟩ <;> rcases (h' m r hmN hr).1 h2 with h5 | ⟨h5, h6⟩
      · exact .inl (h0.tr m hmk p r hp hmN hr h3 h5)
      · exact .inr ⟨h0.tr m hmk p q hp hmN hq h3 h5, h6⟩
      · exact .inr ⟨h3, h0.tr m hmk q r hq hmN hr h4 h5⟩
      · exact .inr ⟨h3, h6⟩
theorem wa_all {A G : Nat → Nat → Bool} {N : Nat} (h : WaO A G N N) {p r : Nat} (hp : p < N) (hr : r < N) : G p r = true ↔ Sta A N p r := by
  refine ⟨h.sound p r hp hr, fun hs => ?_⟩
  induction hs with
  | refl => exact h.refl p hp
  | step h1 h2 h3 h4 ih => exact h.tr _ h2 p _ hp h2 h3 (ih h2) (h.base _ _ h2 h3 h4)
set_option maxRecDepth 100000 in
set_option maxHeartbeats 8000000 in
theorem oftenR {w : World} {va : Value} {N : Nat} {A : Nat → Nat → Bool} (ha : GridR w va N A) (h0 : 0 < N) (hN : N ≤ 100000) :
    Calls Try.prog 80 #[va] w fun e w' => ∃ u, e = .returned u ∧ (∃ G, GridR w' u N G ∧ ∀ p r, p < N → r < N → (G p r = true ↔ Sta A N p r)) ∧ Below w.heap.size w w' := by
  have HG := Lib.hid (sameR (w := w) h0 hN)
  have HEI := Lib.hid (fun (x : World) (hx : Below w.heap.size w x) (u : Value) (I : Nat → Nat → Bool) (hu : GridR x u N I) => eitherR (ha.up hx) hu h0 hN)
  obtain ⟨oa, ca, ba, fa, rfl, hda, hra⟩ := ha.open
  clear ha hda hra
  go_enter Try.func80, Try.ntmps80
  go_upto_region 2 with (first
    | ((with_reducible go_at_call 72); refine HG.out.mono ?_; rintro en w1 ⟨u, rfl, ⟨I, hI, hIs⟩, hb⟩; have HI := Lib.hid hI; have HIS := Lib.hid hIs; have HB1 := Lib.hid hb; clear hI hIs hb)
    | ((with_reducible go_at_call 74); refine (HEI.out _ HB1.out _ _ HI.out).mono ?_; rintro en w2 ⟨u2, rfl, ⟨G0, ho, hGs⟩, hb⟩; obtain ⟨g, cap, rfl, hgb, hd⟩ := ho.form h0; have HO1 := Lib.hid ho; have HB2 := Lib.hid (HB1.out.trans (hb.mono HB1.out.size)); have HD := Lib.hid hd; have HWS := Lib.hid (wa_start (A := A) (G := G0) (N := N) (fun p q hp hq => (hGs p q hp hq).trans (or_congr Iff.rfl (HIS.out p q hp hq)))); clear ho hb hd hGs))
  have HB1S := Lib.hid HB1.out.size
  have hixo := index_grid HD.out
  simp only [Nat.zero_add] at hixo
  have HO2 : Hid (GridO w2 w.heap.size (.slice (some ⟨g, 0, none⟩) N cap) N G0) := Lib.hid (by
    obtain ⟨vs, h⟩ := HO1.out
    exact ⟨vs, ⟨h.outer.mono HB1S.out, h.len, fun i hi => (h.rows i hi).mono HB1S.out, h.apart, h.off⟩⟩)
  clear HO1 HG HI HIS HB1 HEI HB1S
  go_wp2
  go_loopg [4] N (fun gk iv wr => ∃ (i : Nat) (G : Nat → Nat → Bool), iv = .int .i64 i ∧ i ≤ N ∧ GridO wr w.heap.size (.slice (some ⟨g, 0, none⟩) N cap) N G ∧ WaO A G N i ∧ Below w.heap.size w wr ∧ gk = N - i)
  case atStart => exact ⟨0, _, rfl, Nat.zero_le _, HO2.out, HWS.out, HB2.out, rfl⟩
  case round =>
    obtain ⟨i, G0, rfl, hi, ho, hg, hbl, rfl⟩ := hrel
    have HO := Lib.hid ho
    have HW := Lib.hid hbl
    have HWO0 := Lib.hid hg
    clear hbl hg ho HO2 HB2 HWS
    by_cases hlt : i < N
    · have HWI := Lib.hid (wa_in G0 N i)
      go_wp2
      have HOO := HO
      have HWO := HW
      clear HO HW
      generalize wr = wo at *
      go_loopg [5] N (fun gk jv wr => ∃ (j : Nat) (G : Nat → Nat → Bool), jv = .int .i64 j ∧ j ≤ N ∧ GridO wr w.heap.size (.slice (some ⟨g, 0, none⟩) N cap) N G ∧ WaI G0 G N i j 0 ∧ Below w.heap.size w wr ∧ gk = N - j)
      case atStart => exact ⟨0, G0, rfl, Nat.zero_le _, HOO.out, HWI.out, HWO.out, rfl⟩
      case round =>
        obtain ⟨j, G, rfl, hj, ho, hg, hbl, rfl⟩ := hrel
        have HO := Lib.hid ho
        have HW := Lib.hid hbl
        have HGS := Lib.hid hg
        clear hg hbl HOO HWO ho HWI
        by_cases hltj : j < N
        · go_wp2
          have HOO := HO
          have HWO := HW
          clear HO HW
          generalize wr = wo2 at *
          go_loopg [6] N (fun gk kv wr => ∃ (k : Nat) (G : Nat → Nat → Bool), kv = .int .i64 k ∧ k ≤ N ∧ GridO wr w.heap.size (.slice (some ⟨g, 0, none⟩) N cap) N G ∧ WaI G0 G N i j k ∧ Below w.heap.size w wr ∧ gk = N - k)
          case atStart => exact ⟨0, G, rfl, Nat.zero_le _, HOO.out, HGS.out, HWO.out, rfl⟩
          case round =>
            obtain ⟨k, G, rfl, hk, ho, hg, hbl, rfl⟩ := hrel
            have HO := Lib.hid ho
            have HW := Lib.hid hbl
            have HGS := Lib.hid hg
            clear hg hbl HOO HWO
            have hws := HW.out.size
            by_cases hltk : k < N
            · obtain ⟨bp, cp, hcr, hdp, hgw, hbp, hq⟩ := ho.at hltj
              obtain ⟨hcz, -, -⟩ := hq i hlt
              have hbw := hdp.hblk h0
              have hixp := index_bool hdp
              simp only [Nat.zero_add] at hixp
              obtain ⟨z, hz⟩ : ∃ z, z = G j i := ⟨_, rfl⟩
              have HZ := Lib.hid hz
              rw [← hz] at hcz
              clear hz
              cases z with
              | false =>
                have HTN := Lib.hid (wa_end HGS.out hlt hltj (.inr HZ.out.symm))
                clear ho hq hdp
                go_wp2
                go_roundg (N - (j + 1))
                case measure => omega
                case rel => exact ⟨j + 1, G, by go_num, by omega, HO.out, HTN.out, HW.out, rfl⟩
              | true =>
                obtain ⟨hcq, hfq, hst⟩ := hq k hltk
                obtain ⟨bq, cq, hcr2, hdq, -, hbq, hq2⟩ := ho.at hlt
                obtain ⟨hcy, -, -⟩ := hq2 k hltk
                have hbw2 := hdq.hblk h0
                have hixq := index_bool hdq
                simp only [Nat.zero_add] at hixq
                have HST := Lib.hid hst
                have hbpw : w.heap.size ≤ bp := hbp
                have HREL := Lib.hid (fun (b : Bool) (hb : b = true ↔ G j k = true ∨ G i k = true) => wa_set HGS.out hlt hltj hltk HZ.out.symm b hb)
                obtain ⟨x, hx⟩ : ∃ x, x = G j k := ⟨_, rfl⟩
                obtain ⟨y, hy⟩ : ∃ y, y = G i k := ⟨_, rfl⟩
                rw [← hx] at hcq
                rw [← hy] at hcy
                rw [← hx, ← hy] at HREL
                clear ho hq hq2 hdp hdq hst hx hy
                cases x with
                | true =>
                  go_wp2
                  refine wp_region_tailg [0,1,2,3,4,5,6,7,8,9,10,11,12,13,14,15,16,17,18,19,20] [] [21,22] (by kernel_rfl) (by kernel_rfl) ?_
                  simp only [pick, List.map_cons, List.map_nil, List.getD_cons_zero, List.getD_cons_succ]
                  repeat (go_big_quiet_step (fail))
                  refine wpQuiet_nil ?_
                  unfold wpAct
                  unfold wpAct
                  go_wp2
                  refine ⟨trivial, ?_⟩
                  unfold wpAct
                  go_wp2
                  refine ⟨trivial, ?_⟩
                  unfold wpAct
                  go_wp2
                  go_roundg (N - (k + 1))
                  case measure => omega
                  case rel =>
                    have h1 := HST.out true
                    exact ⟨k + 1, upd G j k true, by go_num, by omega, h1.1.up (drew_b _), HREL.out true (by simp), (HW.out.grown h1.2 HW.out.size (fun k hk => by cases hk; exact hbpw)).trans ((drew_b _).mono (by simpa using HW.out.size)), rfl⟩
                | false =>
                  cases y with
                  | true =>
                    go_wp2
                    refine wp_region_tailg [0,1,2,3,4,5,6,7,8,9,10,11,12,13,14,15,16,17,18,19,20] [] [21,22] (by kernel_rfl) (by kernel_rfl) ?_
                    simp only [pick, List.map_cons, List.map_nil, List.getD_cons_zero, List.getD_cons_succ]
                    repeat (go_big_quiet_step (fail))
                    refine wpQuiet_nil ?_
                    unfold wpAct
                    unfold wpAct
                    go_wp2
                    refine ⟨trivial, ?_⟩
                    unfold wpAct
                    go_wp2
                    refine ⟨trivial, ?_⟩
                    unfold wpAct
                    go_wp2
                    go_roundg (N - (k + 1))
                    case measure => omega
                    case rel =>
                      have h1 := HST.out true
                      exact ⟨k + 1, upd G j k true, by go_num, by omega, h1.1.up (drew_b _), HREL.out true (by simp), (HW.out.grown h1.2 HW.out.size (fun k hk => by cases hk; exact hbpw)).trans ((drew_b _).mono (by simpa using HW.out.size)), rfl⟩
                  | false =>
                    go_wp2
                    refine wp_region_tailg [0,1,2,3,4,5,6,7,8,9,10,11,12,13,14,15,16,17,18,19,20] [] [21,22] (by kernel_rfl) (by kernel_rfl) ?_
                    simp only [pick, List.map_cons, List.map_nil, List.getD_cons_zero, List.getD_cons_succ]
                    repeat (go_big_quiet_step (fail))
                    refine wpQuiet_nil ?_
                    unfold wpAct
                    unfold wpAct
                    go_wp2
                    refine ⟨trivial, ?_⟩
                    unfold wpAct
                    go_wp2
                    refine ⟨trivial, ?_⟩
                    unfold wpAct
                    go_wp2
                    go_roundg (N - (k + 1))
                    case measure => omega
                    case rel =>
                      have h1 := HST.out false
                      exact ⟨k + 1, upd G j k false, by go_num, by omega, h1.1.up (drew_b _), HREL.out false (by simp), (HW.out.grown h1.2 HW.out.size (fun k hk => by cases hk; exact hbpw)).trans ((drew_b _).mono (by simpa using HW.out.size)), rfl⟩
            · have hke : k = N := by omega
              subst hke
              have HTN := Lib.hid (wa_end HGS.out hlt hltj (.inl rfl))
              clear ho
              go_wp2
              go_roundg (k - (j + 1))
              case measure => omega
              case rel => exact ⟨j + 1, G, by go_num, by omega, HO.out, HTN.out, HW.out, rfl⟩
        · have hje : j = N := by omega
          subst hje
          have HTN := Lib.hid (wa_next HWO0.out hlt HGS.out)
          go_wp2
          go_roundg (j - (i + 1))
          case measure => omega
          case rel => exact ⟨i + 1, G, by go_num, by omega, HO.out, HTN.out, HW.out, rfl⟩
    · have hie : i = N := by omega
      subst hie
      go_wp2
      go_ret
      exact ⟨_, rfl, ⟨G0, HO.out.read, fun p r hp hr => wa_all HWO0.out hp hr⟩, HW.out⟩
end Go.Cm

/- Grids as languages; the walk of a grid low to high times. Conditions: none. -/
namespace Go.Cm
open Go.RowKit Go.Proofs

/-- a grid tells of each two places of a text whether a language has what stands between them -/
def GL (L : Lng) (t : List Nat) (N : Nat) (G : Nat → Nat → Bool) : Prop := ∀ p r, p < N → r < N → (G p r = true ↔ p ≤ r ∧ L ((t.drop p).take (r - p)))
theorem GL.congr {L L' : Lng} {t : List Nat} {N : Nat} {G : Nat → Nat → Bool} (h : GL L t N G) (hl : ∀ w, L w ↔ L' w) : GL L' t N G := fun p r hp hr => (h p r hp hr).trans (and_congr_right fun _ => hl _)
theorem mid_len {t : List Nat} {p r : Nat} (hr : r ≤ t.length) (hpr : p ≤ r) : ((t.drop p).take (r - p)).length = r - p := by rw [List.length_take, List.length_drop]; omega
theorem mid_split (t : List Nat) {p q r : Nat} (h1 : p ≤ q) (h2 : q ≤ r) : (t.drop p).take (r - p) = (t.drop p).take (q - p) ++ (t.drop q).take (r - q) := by
  have e : r - p = (q - p) + (r - q) := by omega
  rw [e, List.take_add, List.drop_drop]
  congr 3
  omega
theorem gl_then {A B : Lng} {t : List Nat} {N : Nat} (hN : N = t.length + 1) {Ga Gb G : Nat → Nat → Bool} (ha : GL A t N Ga) (hb : GL B t N Gb) (h : ∀ p r, p < N → r < N → (G p r = true ↔ ∃ q, q < N ∧ Ga p q = true ∧ Gb q r = true)) : GL (cat A B) t N G := fun p r hp hr => by
  rw [h p r hp hr]
  constructor
  · rintro ⟨q, hq, h1, h2⟩
    have h3 := (ha p q hp hq).1 h1
    have h4 := (hb q r hq hr).1 h2
    exact ⟨by omega, _, _, mid_split t h3.1 h4.1, h3.2, h4.2⟩
  · rintro ⟨hpr, u, v, e, hu, hv⟩
    have hl := mid_len (t := t) (p := p) (r := r) (by omega) hpr
    rw [e, List.length_append] at hl
    have hs := mid_split t (show p ≤ p + u.length by omega) (show p + u.length ≤ r by omega)
    rw [e] at hs
    have hlu : ((t.drop p).take (p + u.length - p)).length = u.length := by rw [mid_len (by omega) (by omega)]; omega
    obtain ⟨e1, e2⟩ := List.append_inj hs hlu.symm
    exact ⟨p + u.length, by omega, (ha _ _ hp (by omega)).2 ⟨by omega, e1 ▸ hu⟩, (hb _ _ (by omega) hr).2 ⟨by omega, e2 ▸ hv⟩⟩
theorem gl_same {t : List Nat} {N : Nat} (hN : N = t.length + 1) {G : Nat → Nat → Bool} (h : ∀ p q, p < N → q < N → (G p q = true ↔ p = q)) : GL eps t N G := fun p r hp hr => by
  rw [h p r hp hr]
  constructor
  · rintro rfl; exact ⟨Nat.le_refl _, by simp [eps]⟩
  · rintro ⟨h1, h2⟩
    have hl := mid_len (t := t) (p := p) (r := r) (by omega) h1
    rw [show (t.drop p).take (r - p) = [] from h2] at hl
    simp at hl; omega
theorem gl_either {A B : Lng} {t : List Nat} {N : Nat} {Ga Gb G : Nat → Nat → Bool} (ha : GL A t N Ga) (hb : GL B t N Gb) (h : ∀ p q, p < N → q < N → (G p q = true ↔ Ga p q = true ∨ Gb p q = true)) : GL (fun w => A w ∨ B w) t N G := fun p r hp hr => by
  rw [h p r hp hr, ha p r hp hr, hb p r hp hr]
  constructor
  · rintro (⟨h1, h2⟩ | ⟨h1, h2⟩)
    · exact ⟨h1, .inl h2⟩
    · exact ⟨h1, .inr h2⟩
  · rintro ⟨h1, h2 | h2⟩
    · exact .inl ⟨h1, h2⟩
    · exact .inr ⟨h1, h2⟩
def starL (A : Lng) : Lng := fun w => ∃ k, powL A k w
theorem gl_often {A : Lng} {t : List Nat} {N : Nat} (hN : N = t.length + 1) {Ga G : Nat → Nat → Bool} (ha : GL A t N Ga) (h : ∀ p r, p < N → r < N → (G p r = true ↔ Sta Ga N p r)) : GL (starL A) t N G := fun p r hp hr => by
  rw [h p r hp hr]
  constructor
  · intro hs
    induction hs with
    | refl => exact ⟨Nat.le_refl _, 0, by simp [powL, eps]⟩
    | step h1 h2 h3 h4 ih =>
      rename_i q r
      obtain ⟨h5, k, h6⟩ := ih h2
      have h7 := (ha q r h2 h3).1 h4
      exact ⟨by omega, k + 1, _, _, mid_split t h5 h7.1, h6, h7.2⟩
  · rintro ⟨hpr, k, hk⟩
    have key : ∀ (k r : Nat), r < N → p ≤ r → powL A k ((t.drop p).take (r - p)) → Sta Ga N p r := by
      intro k
      induction k with
      | zero =>
        intro r hr hpr hk
        have hl := mid_len (t := t) (p := p) (r := r) (by omega) hpr
        rw [show (t.drop p).take (r - p) = [] from hk] at hl
        have : r = p := by simp at hl; omega
        rw [this]; exact .refl
      | succ k ih =>
        intro r hr hpr hk
        obtain ⟨u, v, e, hu, hv⟩ := hk
        have hl := mid_len (t := t) (p := p) (r := r) (by omega) hpr
        rw [e, List.length_append] at hl
        have hs := mid_split t (show p ≤ p + u.length by omega) (show p + u.length ≤ r by omega)
        rw [e] at hs
        have hlu : ((t.drop p).take (p + u.length - p)).length = u.length := by rw [mid_len (by omega) (by omega)]; omega
        obtain ⟨e1, e2⟩ := List.append_inj hs hlu.symm
        exact .step (ih (p + u.length) (by omega) (by omega) (e1 ▸ hu)) (by omega) hr ((ha _ _ (by omega) hr).2 ⟨by omega, e2 ▸ hv⟩)
    exact key k r hr hpr hk
theorem rep_star (A : Lng) (lo : Nat) (hi : Int) (hh : hi < 0) (w : List Nat) : cat (powL A lo) (starL A) w ↔ repL lo hi A w := by
  unfold repL starL
  constructor
  · rintro ⟨u, v, rfl, hu, k, hk⟩
    exact ⟨lo + k, by omega, .inl hh, (powL_add A lo k _).2 ⟨u, v, rfl, hu, hk⟩⟩
  · rintro ⟨k, h1, -, hk⟩
    have e : k = lo + (k - lo) := by omega
    rw [e] at hk
    obtain ⟨u, v, e2, hu, hv⟩ := (powL_add A lo (k - lo) w).1 hk
    exact ⟨u, v, e2, hu, k - lo, hv⟩
theorem rep_low (A : Lng) (lo : Nat) (w : List Nat) : powL A lo w ↔ repL lo lo A w := by
  unfold repL
  constructor
  · intro h; exact ⟨lo, Int.le_refl _, .inr (Int.le_refl _), h⟩
  · rintro ⟨k, h1, h2, h3⟩
    obtain rfl : k = lo := by omega
    exact h3
theorem rep_up (A : Lng) (lo j : Nat) (hj : lo ≤ j) (w : List Nat) : cat (repL lo j A) (fun w => A w ∨ eps w) w ↔ repL lo ((j : Int) + 1) A w := by
  unfold repL
  constructor
  · rintro ⟨u, v, rfl, ⟨k, h1, h2, h3⟩, h4 | h4⟩
    · exact ⟨k + 1, by omega, .inr (by omega), u, v, rfl, h3, h4⟩
    · obtain rfl : v = [] := h4
      exact ⟨k, h1, .inr (by omega), by simpa using h3⟩
  · rintro ⟨k, h1, h2, h3⟩
    by_cases hk : k ≤ j
    · exact ⟨w, [], by simp, ⟨k, h1, .inr (by omega), h3⟩, .inr rfl⟩
    · obtain rfl : k = j + 1 := by omega
      obtain ⟨u, v, rfl, h4, h5⟩ := h3
      exact ⟨u, v, rfl, ⟨j, by omega, .inr (by omega), h4⟩, .inl h5⟩
set_option maxRecDepth 100000 in
set_option maxHeartbeats 8000000 in
theorem timesR {w : World} {va : Value} {N : Nat} {Ga : Nat → Nat → Bool} {A : Lng} {t : List Nat} (ha : GridR w va N Ga) (hA : GL A t N Ga) (hN0 : N = t.length + 1) (hN : N ≤ 100000) (lo : Nat) (hlo : lo ≤ 1000) (hi : Int) (hhi : hi = -1 ∨ ((lo : Int) ≤ hi ∧ hi ≤ 1000)) :
    Calls Try.prog 75 #[va, .int .i64 lo, .int .i64 hi] w fun e w' => ∃ u, e = .returned u ∧ (∃ G, GridR w' u N G ∧ GL (repL lo hi A) t N G) ∧ Below w.heap.size w w' := by
  have h0 : 0 < N := by omega
  have HSM := Lib.hid (fun (x : World) => sameR (w := x) h0 hN)
  have HA := Lib.hid ha
  have HAL := Lib.hid hA
  have HN0 := Lib.hid hN0
  have HTH := Lib.hid (fun (x : World) (u1 u2 : Value) (G1 G2 : Nat → Nat → Bool) (h1 : GridR x u1 N G1) (h2 : GridR x u2 N G2) => thenR h1 h2 h0 hN)
  have HEI := Lib.hid (fun (x : World) (u1 u2 : Value) (G1 G2 : Nat → Nat → Bool) (h1 : GridR x u1 N G1) (h2 : GridR x u2 N G2) => eitherR h1 h2 h0 hN)
  have HOF := Lib.hid (fun (x : World) (hx : Below w.heap.size w x) => oftenR (ha.up hx) h0 hN)
  obtain ⟨oa, ca, ba, fa, rfl, -, -⟩ := ha.open
  clear ha hA hN0
  go_enter Try.func75, Try.ntmps75
  go_upto_region 2 with ((with_reducible go_at_call 72); refine (HSM.out _).mono ?_; rintro en w1 ⟨u, rfl, ⟨I, hI, hIs⟩, hb⟩; have HI := Lib.hid hI; have HIS := Lib.hid (gl_same HN0.out hIs); have HB1 := Lib.hid hb; clear hI hIs hb)
  go_wp2
  go_loopg [7, 8] lo (fun gk ov jv wr => ∃ (j : Nat) (G : Nat → Nat → Bool), jv = .int .i64 j ∧ j ≤ lo ∧ GridR wr ov N G ∧ GL (powL A j) t N G ∧ Below w.heap.size w wr ∧ gk = lo - j)
  case atStart => exact ⟨0, I, rfl, Nat.zero_le _, HI.out, HIS.out, HB1.out, rfl⟩
  case round =>
    obtain ⟨j, G, rfl, hj, hg, hgl, hbl, rfl⟩ := hrel
    have HG := Lib.hid hg
    have HGL := Lib.hid hgl
    have HW := Lib.hid hbl
    clear hg hgl hbl HI HIS HB1
    by_cases hlt : j < lo
    · go_wp2_with ((with_reducible go_at_call 73); refine (HTH.out _ _ _ _ _ HG.out (HA.out.up HW.out)).mono ?_; rintro en w3 ⟨u3, rfl, ⟨G3, hg3, hs3⟩, hb⟩; have HG3 := Lib.hid hg3; have HL3 := Lib.hid (gl_then HN0.out HGL.out HAL.out hs3); have HB3 := Lib.hid (HW.out.trans (hb.mono HW.out.size)); clear hg3 hs3 hb)
      go_roundg (lo - (j + 1))
      case measure => omega
      case rel => exact ⟨j + 1, G3, by go_num, by omega, HG3.out, HL3.out, HB3.out, rfl⟩
    · have hje : j = lo := by omega
      subst hje
      by_cases hneg : hi < 0
      · go_wp2_with (first
          | ((with_reducible go_at_call 80); refine (HOF.out _ HW.out).mono ?_; rintro en w3 ⟨u3, rfl, ⟨G3, hg3, hs3⟩, hb⟩; have HG3 := Lib.hid hg3; have HL3 := Lib.hid (gl_often HN0.out HAL.out hs3); have HB3 := Lib.hid hb; clear hg3 hs3 hb)
          | ((with_reducible go_at_call 73); refine (HTH.out _ _ _ _ _ (HG.out.up HB3.out) HG3.out).mono ?_; rintro en w4 ⟨u4, rfl, ⟨G4, hg4, hs4⟩, hb⟩; have HG4 := Lib.hid hg4; have HL4 := Lib.hid (gl_then HN0.out HGL.out HL3.out hs4); have HB4 := Lib.hid (HW.out.trans ((HB3.out.trans (hb.mono HB3.out.size)).mono HW.out.size)); clear hg4 hs4 hb))
        go_ret
        exact ⟨_, rfl, ⟨G4, HG4.out, HL4.out.congr (rep_star A j hi hneg)⟩, HB4.out⟩
      · obtain ⟨hn, rfl⟩ := Int.eq_ofNat_of_zero_le (show 0 ≤ hi by omega)
        have hhn : j ≤ hn ∧ hn ≤ 1000 := by omega
        have HGL2 := Lib.hid (HGL.out.congr (rep_low A j))
        clear HGL
        go_wp2
        have HGO := HG
        have HWO := HW
        clear HG HW
        generalize wr = wo at *
        go_loopg [7, 9] (hn - j) (fun gk ov kv wr => ∃ (k : Nat) (G : Nat → Nat → Bool), kv = .int .i64 k ∧ j ≤ k ∧ k ≤ hn ∧ GridR wr ov N G ∧ GL (repL j k A) t N G ∧ Below w.heap.size w wr ∧ gk = hn - k)
        case atStart => exact ⟨j, G, rfl, Nat.le_refl _, hhn.1, HGO.out, HGL2.out, HWO.out, rfl⟩
        case round =>
          obtain ⟨k, G, rfl, hjk, hk, hg, hgl, hbl, rfl⟩ := hrel
          have HG := Lib.hid hg
          have HGL := Lib.hid hgl
          have HW := Lib.hid hbl
          clear hg hgl hbl HGO HWO HGL2
          by_cases hltk : k < hn
          · go_wp2_with (first
              | ((with_reducible go_at_call 72); refine (HSM.out _).mono ?_; rintro en w3 ⟨u3, rfl, ⟨G3, hg3, hs3⟩, hb⟩; have HG3 := Lib.hid hg3; have HL3 := Lib.hid (gl_same HN0.out hs3); have HB3 := Lib.hid hb; clear hg3 hs3 hb)
              | ((with_reducible go_at_call 74); refine (HEI.out _ _ _ _ _ ((HA.out.up HW.out).up HB3.out) HG3.out).mono ?_; rintro en w4 ⟨u4, rfl, ⟨G4, hg4, hs4⟩, hb⟩; have HG4 := Lib.hid hg4.read; have HL4 := Lib.hid (gl_either HAL.out HL3.out hs4); have HB4 := Lib.hid (HB3.out.trans (hb.mono HB3.out.size)); clear hg4 hs4 hb)
              | ((with_reducible go_at_call 73); refine (HTH.out _ _ _ _ _ (HG.out.up HB4.out) HG4.out).mono ?_; rintro en w5 ⟨u5, rfl, ⟨G5, hg5, hs5⟩, hb⟩; have HG5 := Lib.hid hg5; have HL5 := Lib.hid (gl_then HN0.out HGL.out HL4.out hs5); have HB5 := Lib.hid (HW.out.trans ((HB4.out.trans (hb.mono HB4.out.size)).mono HW.out.size)); clear hg5 hs5 hb))
            go_roundg (hn - (k + 1))
            case measure => omega
            case rel => exact ⟨k + 1, G5, by go_num, by omega, by omega, HG5.out, HL5.out.congr (fun w => by rw [rep_up A j k hjk]; rfl), HB5.out, rfl⟩
          · have hke : k = hn := by omega
            subst hke
            go_wp2
            go_ret
            exact ⟨_, rfl, ⟨G, HG.out, HGL.out⟩, HW.out⟩
end Go.Cm
