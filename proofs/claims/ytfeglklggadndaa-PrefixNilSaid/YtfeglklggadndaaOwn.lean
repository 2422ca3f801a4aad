/- Slices that a call makes itself: owned, read, written, appended to. Conditions: none. -/
import Derived.Test.YtfeglklggadndaaReg
namespace Go.Cm
open Go.RowKit Go.Proofs

/-- A slice of one-cell elements that lies in a block of its own, from block B on, or nil. -/
def Own (w : World) (B : Nat) (E : TypeId) (v : Value) (xs : List Value) : Prop :=
  w.ownsRow B E 1 v xs.length xs ∧ xs.length ≤ 140737488351232

theorem Own.nil (w : World) (B : Nat) (E : TypeId) : Own w B E (.slice none 0 0) [] := ⟨World.ownsRow_nil w B E 1, by simp⟩

theorem Own.sl {w : World} {B : Nat} {E : TypeId} {v : Value} {xs : List Value} (h : Own w B E v xs) : Sl w v xs := by
  obtain ⟨⟨_, h⟩, hl⟩ := h
  rcases h with ⟨rfl, h0⟩ | ⟨g, cap, cur, rfl, hb, hg, hnc, hcm, hcs, htake⟩
  · obtain rfl : xs = [] := List.length_eq_zero_iff.1 h0
    exact Sl.nil w
  · refine ⟨some ⟨g, 0, none⟩, cap, g, 0, rfl, ⟨fun _ => rfl, hnc, hcm, hl, fun _ => (Array.getElem?_eq_some_iff.1 hg).1⟩, fun i hi => ?_⟩
    rw [cell_of_row w g (0 + i) cur E (0, 0) hg, Nat.zero_add]
    have h1 : xs[i]? = cur[i]? := by
      rw [← htake, List.getElem?_take, if_pos (by omega)]; simp
    rw [← h1]
    simp [List.getD, hi]

theorem Own.keep {w w' : World} {B : Nat} {E : TypeId} {v : Value} {xs : List Value} {row : Option Nat} (h : Own w B E v xs) (hg : w.grownBy w' row) (hne : v.ownBlock = none ∨ v.ownBlock ≠ row) : Own w' B E v xs := ⟨h.1.kept hg hne, h.2⟩
theorem Own.up {w w' : World} {B : Nat} {E : TypeId} {v : Value} {xs : List Value} (h : Own w B E v xs) (hb : Below w.heap.size w w') : Own w' B E v xs :=
  h.keep (row := none) ⟨hb.os, hb.tape, hb.output, hb.size, fun k hk _ => hb.block k hk⟩ (by cases v.ownBlock <;> simp)
theorem Own.lt {w : World} {B : Nat} {E : TypeId} {v : Value} {xs : List Value} (h : Own w B E v xs) : ∀ k, v.ownBlock = some k → B ≤ k ∧ k < w.heap.size := h.1.lt
theorem below_grown {B : Nat} {w0 w w' : World} {E : TypeId} {v : Value} {xs : List Value} (h : Below B w0 w) (hB : B ≤ w.heap.size) (ho : Own w B E v xs) (hg : w.grownBy w' v.ownBlock) : Below B w0 w' :=
  h.grown hg hB fun k hk => (ho.lt k hk).1

/-- what an owned slice is when it has elements -/
theorem Own.cases {w : World} {B : Nat} {E : TypeId} {v : Value} {xs : List Value} (h : Own w B E v xs) :
    ∃ oa cap g, v = .slice oa xs.length cap ∧ Hd w oa xs.length cap g 0 ∧ (0 < xs.length → v.ownBlock = some g ∧ B ≤ g) ∧ (∀ i, i < xs.length → w.cell? ⟨g, i, none⟩ = some (xs.getD i undef)) ∧ (∀ i, i < xs.length → w.frozen? ⟨g, i, none⟩ = false) ∧
      ∀ i u, i < xs.length → Own (w.setCell ⟨g, i, none⟩ u) B E v (xs.set i u) ∧ w.grownBy (w.setCell ⟨g, i, none⟩ u) (some g) := by
  obtain ⟨⟨h0, h⟩, hl⟩ := h
  rcases h with ⟨rfl, hx⟩ | ⟨g, cap, cur, rfl, hb, hg, hnc, hcm, hcs, htake⟩
  · obtain rfl : xs = [] := List.length_eq_zero_iff.1 hx
    exact ⟨none, 0, 0, rfl, ⟨fun h => absurd h (Nat.lt_irrefl 0), Nat.le_refl _, by simp [maxLen], by simp, fun h => absurd h (Nat.lt_irrefl 0)⟩, fun h => absurd h (Nat.lt_irrefl 0), fun i hi => absurd hi (Nat.not_lt_zero i), fun i hi => absurd hi (Nat.not_lt_zero i), fun i u hi => absurd hi (Nat.not_lt_zero i)⟩
  · have hown : w.ownsRow B E 1 (.slice (some ⟨g, 0, none⟩) xs.length cap) xs.length xs := ⟨h0, .inr ⟨g, cap, cur, rfl, hb, hg, hnc, hcm, hcs, htake⟩⟩
    refine ⟨some ⟨g, 0, none⟩, cap, g, rfl, ⟨fun _ => rfl, hnc, hcm, hl, fun _ => (Array.getElem?_eq_some_iff.1 hg).1⟩, fun _ => ⟨rfl, hb⟩, fun i hi => ?_, fun i hi => hown.frozenAt i, fun i u hi => ?_⟩
    · rw [hown.cellAt i (by omega)]; simp [List.getD, hi]
    · have := hown.stored i u
      refine ⟨⟨?_, by simpa using hl⟩, this.2⟩
      rw [List.length_set]
      exact this.1

theorem add_off (b off j : Nat) : (⟨b, off, none⟩ : Addr).add j = ⟨b, off + j, none⟩ := by unfold Addr.add; split <;> simp_all

/-- 'append(s, x...)' of one-cell elements: s is owned, x reads as a list. -/
theorem run_app {P : Program} (w : World) (B : Nat) (t ty E : TypeId) (z : Value) (bytes : Nat) (ht : P.underlying t = some (.slice E)) (hinf : (P.info? E).map (fun i => (i.zero, i.size, i.bytes)) = some (some z, 1, bytes)) (hz : z.cells.size = 1) (hby : bytes ≤ 24)
    (v : Value) (xs : List Value) (hown : Own w B E v xs) (xv : Value) (news : List Value) (hx : Sl w xv news) (h1 : ∀ u ∈ news, u.oneCell' = true) (hlen : xs.length + news.length ≤ 4294967296) (hB : B ≤ w.heap.size) :
    ∃ v' w', (Builtin.append_ #[t, t] ty #[v, xv]).run P w = .ok v' w' ∧ Own w' B E v' (xs ++ news) ∧ w.grownBy w' v.ownBlock ∧ (∀ k, v'.ownBlock = some k → v.ownBlock = some k ∨ w.heap.size ≤ k) := by
  obtain ⟨i0, hi, hz0, hz1, hz2⟩ : ∃ i0, P.info? E = some i0 ∧ i0.zero = some z ∧ i0.size = 1 ∧ i0.bytes = bytes := by
    cases hq : P.info? E with
    | none => simp [hq] at hinf
    | some i0 => simp [hq] at hinf; exact ⟨i0, rfl, hinf.1, hinf.2.1, hinf.2.2⟩
  have hl1 : xs.length + news.length ≤ maxLen := by simp only [maxLen]; omega
  have hl2 : (xs.length + news.length) * bytes ≤ 140737488355328 := by
    have := Nat.mul_le_mul hlen hby; omega
  obtain ⟨oa, cx, b, off, rfl, hd, hc⟩ := hx
  have hlen' : xs.length + news.length ≤ 140737488351232 := by omega
  rcases hown with ⟨hrow, hsm⟩
  by_cases hn : news = []
  · subst hn
    refine ⟨v, w, ?_, ⟨by simpa using hrow, by simpa using hsm⟩, ⟨rfl, rfl, rfl, Nat.le_refl _, fun _ _ _ => rfl⟩, fun k hk => .inl hk⟩
    rcases hrow.2 with ⟨rfl, hx0⟩ | ⟨g, cap, cur, rfl, _, _, hnc, _⟩
    · cases oa <;> simp [Builtin.append_, run_underlying ht, sizeOf, typeInfo, hi, Builtin.lenOf, Builtin.firstCells, loadCells, loadCellsFrom]
    · cases oa <;> simp [Builtin.append_, run_underlying ht, sizeOf, typeInfo, hi, Builtin.lenOf, Builtin.firstCells, loadCells, loadCellsFrom, hnc, storeCells]
  · have hpos : 0 < news.length := List.length_pos_iff.2 hn
    obtain rfl := hd.hat hpos
    have hnews : ∀ j u, news[j]? = some u → w.cell? ((⟨b, off, none⟩ : Addr).add j) = some u := fun j u hu => by
      have hj := (List.getElem?_eq_some_iff.1 hu).1
      rw [add_off, hc j hj]; simp [List.getD, hu]
    rcases hrow.2 with ⟨rfl, hx0⟩ | ⟨g, cap, cur, rfl, hbg, hg, hnc, hcm, hcs, htake⟩
    · obtain rfl : xs = [] := List.length_eq_zero_iff.1 hx0
      obtain ⟨v', w', hr, ho, hgr, -⟩ := run_append_own (P := P) w w.heap.size t ty E i0 z 1 bytes ht hi hz0 hz1 hz2 hz (by decide) (.slice none 0 0) 0 [] (World.ownsRow_nil _ _ _ _) ⟨b, off, none⟩ news.length cx news (by simp) hnews h1 (by simpa using hl1) (by simpa using hl2) (Nat.le_refl _)
      have hk := ho.lt
      refine ⟨v', w', hr, ⟨⟨by simp, ?_⟩, by simp only [List.nil_append]; omega⟩, hgr, fun k hk' => .inr (hk k hk').1⟩
      simp only [Nat.zero_add, List.nil_append] at ho
      rcases ho.2 with ⟨h1, h2⟩ | ⟨g, cap, cur, h1, h2, h3⟩
      · exact .inl ⟨h1, by simpa using h2⟩
      · exact .inr ⟨g, cap, cur, h1, by omega, by simpa using h3⟩
    · by_cases hroom : xs.length + news.length ≤ cap
      · obtain ⟨w', hr, ho, hgr⟩ := run_append_fits (P := P) w B t ty E i0 1 ht hi hz1 g xs.length cap xs ⟨hrow.1, .inr ⟨g, cap, cur, rfl, hbg, hg, hnc, hcm, hcs, htake⟩⟩ ⟨b, off, none⟩ news.length cx news (by simp) hnews h1 hroom
        exact ⟨_, w', hr, ⟨by rw [List.length_append]; exact ho, by rw [List.length_append]; exact hlen'⟩, hgr, fun k hk => .inl hk⟩
      · have holds : ∀ j u, xs[j]? = some u → w.cell? ((⟨g, 0, none⟩ : Addr).add j) = some u := World.ownsRow.cells (g := g) hrow rfl
        have hsmall : xs.length + news.length ≤ 9223372036854775807 := by omega
        have hr := run_append_grow (P := P) w t ty E i0 z ht hi hz0 ⟨g, 0, none⟩ xs.length cap xs (by rw [hz1]; exact hrow.1) holds ⟨b, off, none⟩ news.length cx news (by rw [hz1]; simp) hnews (by omega) (by omega) (growslice_fits (by omega) (by rw [hz2]; exact hl2))
        have hge := grownCap_ge w (xs.length + news.length) cap E
        have hcm' : grownCap w (xs.length + news.length) cap E ≤ maxLen := grownCap_le_maxLen w _ cap E hl1
        refine ⟨_, _, hr, ⟨⟨by simp, .inr ⟨w.heap.size, _, _, by rw [List.length_append], hB, heap_alloc_new w.drew _, by rw [List.length_append]; exact hge, hcm', ?_, ?_⟩⟩, by rw [List.length_append]; exact hlen'⟩, ⟨rfl, rfl, rfl, by simp, fun k hk _ => Below.heap_alloc w.drew _ k hk⟩, fun k hk => .inr (by simp [Value.ownBlock] at hk; omega)⟩
        · simp only [Array.size_append, List.size_toArray, size_zeroCells, hz]
          omega
        · simp only [Array.toList_append, List.append_assoc]
          rw [← List.append_assoc, Nat.mul_one]
          exact List.take_left

theorem wpList_app {P : Program} {ops : Array Oper} {rest : List Oper} {o : Oper} {a : Act} {w : World} {Q : Exit → Act → World → Prop} (hgd : o.guard = none) (s x : Operand) (t : TypeId)
    (ho : o.op = .call { callee := .builtin .append, args := #[s, x], argTypes := #[t, t] })
    (B E : TypeId) (z : Value) (bytes : Nat) (ht : P.underlying t = some (.slice E)) (hinf : (P.info? E).map (fun i => (i.zero, i.size, i.bytes)) = some (some z, 1, bytes)) (hz : z.cells.size = 1) (hby : bytes ≤ 24)
    (v : Value) (xs : List Value) (hs : a.eval s = v) (hown : Own w B E v xs) (xv : Value) (news : List Value) (hxe : a.eval x = xv) (hx : Sl w xv news) (h1 : ∀ u ∈ news, u.oneCell' = true) (hlen : xs.length + news.length ≤ 4294967296) (hB : B ≤ w.heap.size)
    (h : ∀ v' w', Own w' B E v' (xs ++ news) → w.grownBy w' v.ownBlock → (∀ k, v'.ownBlock = some k → v.ownBlock = some k ∨ w.heap.size ≤ k) → wpList P ops Q rest (a.put o.dst v') w') : wpList P ops Q (o :: rest) a w := by
  obtain ⟨v', w', hr, h2, h3, h4⟩ := run_app (P := P) w B t o.type E z bytes ht hinf hz hby v xs hown xv news hx h1 hlen hB
  refine wpList_plain hgd fun K hK => ?_
  unfold Oper.wp execOp
  simp only [ho, resolve, invoke, builtin, Sem.run_bind, Sem.run_pure, Result.andThen_ok, List.map_toArray, List.map_cons, List.map_nil, hs, hxe, hr]
  exact hK _ _ (h v' w' h2 h3 h4)

/-- the slice over a block that has just been laid -/
theorem sl_lit (w : World) (c : Array Value) (E : TypeId) (hc : c.size ≤ 4294967296) : Sl (w.alloc (.cells c E)) (.slice (some ⟨w.heap.size, 0, none⟩) c.size c.size) c.toList := by
  refine ⟨some ⟨w.heap.size, 0, none⟩, c.size, w.heap.size, 0, by simp, ⟨fun _ => rfl, by simp, by simp only [maxLen]; omega, by simp; omega, fun _ => by simp⟩, fun i hi => ?_⟩
  have hi' : i < c.size := by simpa using hi
  rw [Nat.zero_add, World.cell?_alloc_new]
  simp [List.getD, hi']
theorem own_lit (w : World) (B : Nat) (c : Array Value) (E : TypeId) (hc : c.size ≤ 4294967296) (hB : B ≤ w.heap.size) : Own (w.alloc (.cells c E)) B E (.slice (some ⟨w.heap.size, 0, none⟩) c.size c.size) c.toList := by
  have h := World.ownsRow_lit (base := B) (e := E) (size := 1) w c c.size hB (by simp only [maxLen]; omega) (by simp)
  exact ⟨by simpa using h, by simp; omega⟩

/-- 'make([]T, n)' -/
theorem run_mk {P : Program} (t E : TypeId) (z : Value) (bytes n : Nat) (ht : P.underlying t = some (.slice E)) (hinf : (P.info? E).map (fun i => (i.zero, i.size, i.bytes)) = some (some z, 1, bytes)) (hz : z.cells = #[z]) (hby : bytes ≤ 24) (hn : n ≤ 4294967296) :
    ∀ W : World, (Instr.makeSlice t (.int .i64 (n : Int)) (.int .i64 (n : Int))).run P W = .ok (.slice (some ⟨W.heap.size, 0, none⟩) n n) (W.alloc (.cells (madeCells #[z] n) E)) := by
  intro W
  obtain ⟨i0, hi, hz0, hz1, hz2⟩ : ∃ i0, P.info? E = some i0 ∧ i0.zero = some z ∧ i0.size = 1 ∧ i0.bytes = bytes := by
    cases hq : P.info? E with
    | none => simp [hq] at hinf
    | some i0 => simp [hq] at hinf; exact ⟨i0, rfl, hinf.1, hinf.2.1, hinf.2.2⟩
  have hb : bytes * n ≤ 24 * 4294967296 := Nat.mul_le_mul hby hn
  have hb' : (i0.bytes : Int) * (n : Int) ≤ 281474976710656 := by
    rw [hz2, ← Int.natCast_mul]; omega
  have hr := run_make (P := P) W t E i0 z ht hi hz0 .i64 .i64 n n (by omega) (Int.le_refl _) hb' (by omega)
  simp only [Int.toNat_natCast, hz1, hz, Nat.mul_one] at hr
  exact hr
theorem own_made (W : World) (B E : TypeId) (z : Value) (n : Nat) (hB : B ≤ W.heap.size) (hn : n ≤ 4294967296) : Own (W.alloc (.cells (madeCells #[z] n) E)) B E (.slice (some ⟨W.heap.size, 0, none⟩) n n) (List.replicate n z) := by
  have h := own_lit W B (madeCells #[z] n) E (by rw [size_madeCells]; simpa using hn) hB
  rw [toList_madeCells_one] at h
  rw [size_madeCells] at h
  simpa using h

section
variable {w : World} {B : Nat} {E : TypeId} {g n cap : Nat} {xs : List Value}
theorem Own.len (h : Own w B E (.slice (some ⟨g, 0, none⟩) n cap) xs) : n = xs.length := by
  rcases h.1.2 with ⟨h1, _⟩ | ⟨g', cap', cur, h1, _⟩
  · cases h1
  · simp at h1; exact h1.2.1
theorem Own.row (h : Own w B E (.slice (some ⟨g, 0, none⟩) n cap) xs) : w.ownsRow B E 1 (.slice (some ⟨g, 0, none⟩) xs.length cap) xs.length xs := by
  have := h.len; subst this; exact h.1
theorem Own.cell (h : Own w B E (.slice (some ⟨g, 0, none⟩) n cap) xs) {i : Nat} (hi : i < xs.length) : w.cell? ⟨g, i, none⟩ = some (xs.getD i undef) := by
  rw [h.row.cellAt i (by omega)]; simp [List.getD, hi]
theorem Own.free (h : Own w B E (.slice (some ⟨g, 0, none⟩) n cap) xs) (i : Nat) : w.frozen? ⟨g, i, none⟩ = false := h.row.frozenAt i
theorem Own.store (h : Own w B E (.slice (some ⟨g, 0, none⟩) n cap) xs) (i : Nat) (u : Value) : Own (w.setCell ⟨g, i, none⟩ u) B E (.slice (some ⟨g, 0, none⟩) n cap) (xs.set i u) ∧ w.grownBy (w.setCell ⟨g, i, none⟩ u) (some g) := by
  have h1 := h.row.stored i u
  have hl := h.len
  subst hl
  exact ⟨⟨by rw [List.length_set]; exact h1.1, by rw [List.length_set]; exact h.2⟩, h1.2⟩
theorem Own.blk (h : Own w B E (.slice (some ⟨g, 0, none⟩) n cap) xs) : B ≤ g ∧ g < w.heap.size := h.lt g rfl
end
theorem size_grown {w w' : World} {row : Option Nat} (h : w.grownBy w' row) : w.heap.size ≤ w'.heap.size := h.size
theorem Own.mono {w : World} {B B' E : Nat} {v : Value} {xs : List Value} (h : Own w B E v xs) (hB : B' ≤ B) : Own w B' E v xs :=
  ⟨⟨h.1.1, h.1.2.imp id fun ⟨g, cap, cur, h1, h2, h3⟩ => ⟨g, cap, cur, h1, by omega, h3⟩⟩, h.2⟩
theorem Own.upB {w w' : World} {B E n : Nat} {v : Value} {xs : List Value} (h : Own w B E v xs) (hn : w.heap.size ≤ n) (hb : Below n w w') : Own w' B E v xs := h.up (hb.mono hn)
end Go.Cm
