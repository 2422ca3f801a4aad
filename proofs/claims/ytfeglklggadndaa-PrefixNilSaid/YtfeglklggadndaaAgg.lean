/- Variables of a call's own that hold an array: read, written, loaded whole, stored whole. Conditions: none. -/
import Derived.Test.YtfeglklggadndaaOwnM
namespace Go.Cm
open Go.RowKit Go.Proofs

theorem Own.storeList {B : Nat} {E : TypeId} {g n cap : Nat} (ys : List Value) : ∀ {w : World} {xs : List Value} (o : Nat), Own w B E (.slice (some ⟨g, 0, none⟩) n cap) xs → o + ys.length ≤ xs.length →
    Own (w.setCells g o ys) B E (.slice (some ⟨g, 0, none⟩) n cap) (xs.take o ++ ys ++ xs.drop (o + ys.length)) ∧ w.grownBy (w.setCells g o ys) (some g) := by
  induction ys with
  | nil => intro w xs o h hl; simp only [World.setCells]; exact ⟨by simpa using h, grown_refl w _⟩
  | cons y ys ih =>
    intro w xs o h hl
    rw [List.length_cons] at hl
    obtain ⟨h1, h2⟩ := h.store o y
    obtain ⟨h3, h4⟩ := ih (o + 1) h1 (by rw [List.length_set]; omega)
    refine ⟨?_, grown_trans h2 h4⟩
    have e : (xs.set o y).take (o + 1) ++ ys ++ (xs.set o y).drop (o + 1 + ys.length) = xs.take o ++ y :: ys ++ xs.drop (o + (y :: ys).length) := by
      rw [List.take_set, List.take_succ_eq_append_getElem (by omega), List.set_append_right _ _ (by simp [Nat.min_le_left]), List.drop_set_of_lt (by omega)]
      simp [Nat.min_eq_left (show o ≤ xs.length by omega), show o + 1 + ys.length = o + (ys.length + 1) by omega]
    rw [← e]
    exact h3
theorem setCells_one (w : World) (g o : Nat) (v : Value) : w.setCells g o [v] = w.setCell ⟨g, o, none⟩ v := rfl

theorem wpList_store_agg {P : Program} {ops : Array Oper} {rest : List Oper} {o : Oper} {a : Act} {w : World} {Q : Exit → Act → World → Prop} (hgd : o.guard = none) (ty : TypeId) (x y : Operand) (ho : o.op = .store ty x y)
    (B E g n cap : Nat) (hx : a.eval x = .pointer (some ⟨g, 0, none⟩)) (C : Array Value) (hy : a.eval y = .agg C) (hi : (P.info? ty).map (·.size) = some C.size) (xs : List Value) (hown : Own w B E (.slice (some ⟨g, 0, none⟩) n cap) xs) (hle : C.size ≤ xs.length) (h1 : ∀ u ∈ C.toList, u.oneCell' = true)
    (h : ∀ w', Own w' B E (.slice (some ⟨g, 0, none⟩) n cap) (C.toList ++ xs.drop C.size) → w.grownBy w' (some g) → wpList P ops Q rest (a.put o.dst undef) w') : wpList P ops Q (o :: rest) a w := by
  have hst := run_storeCells_cells (P := P) g 0 C.toList 0 w (fun j hj => by
      rw [Array.length_toList] at hj
      rw [Nat.zero_add, hown.cell (by omega)]; rfl) (fun j _ => by rw [Nat.zero_add]; exact hown.free j) h1
  have hl := hown.storeList C.toList 0 (by simpa using hle)
  rw [List.take_zero, List.nil_append, Nat.zero_add, Array.length_toList] at hl
  refine wpList_plain hgd fun K hK => ?_
  have hsz : (sizeOf ty).run P w = .ok C.size w := by
    cases hq : P.info? ty with
    | none => simp [hq] at hi
    | some i => simp [hq] at hi; simp [sizeOf, typeInfo, hq, hi]
  unfold Oper.wp execOp
  simp only [ho, hx, hy, Instr.storeAt, Instr.sureAddr, storeVar, Value.cells, Sem.run_bind, Sem.run_pure, Result.andThen_ok, hsz, ne_eq, not_true_eq_false, if_false, hst]
  exact hK _ _ (h _ hl.1 hl.2)
/-- .. a part of the block: ITEM o of the block on, as many cells as the value has -/
theorem wpList_store_part {P : Program} {ops : Array Oper} {rest : List Oper} {o : Oper} {a : Act} {w : World} {Q : Exit → Act → World → Prop} (hgd : o.guard = none) (ty : TypeId) (x y : Operand) (ho : o.op = .store ty x y)
    (B E g n cap off : Nat) (hx : a.eval x = .pointer (some ⟨g, off, none⟩)) (C : Array Value) (hy : a.eval y = .agg C) (hi : (P.info? ty).map (·.size) = some C.size) (xs : List Value) (hown : Own w B E (.slice (some ⟨g, 0, none⟩) n cap) xs) (hle : off + C.size ≤ xs.length) (h1 : ∀ u ∈ C.toList, u.oneCell' = true)
    (h : ∀ w', Own w' B E (.slice (some ⟨g, 0, none⟩) n cap) (xs.take off ++ C.toList ++ xs.drop (off + C.size)) → w.grownBy w' (some g) → wpList P ops Q rest (a.put o.dst undef) w') : wpList P ops Q (o :: rest) a w := by
  have hst := run_storeCells_cells (P := P) g off C.toList 0 w (fun j hj => by
      rw [Array.length_toList] at hj
      rw [Nat.add_zero, hown.cell (by omega)]; rfl) (fun j _ => by rw [Nat.add_zero]; exact hown.free _) h1
  have hl := hown.storeList C.toList off (by simpa using hle)
  rw [Array.length_toList] at hl
  refine wpList_plain hgd fun K hK => ?_
  have hsz : (sizeOf ty).run P w = .ok C.size w := by
    cases hq : P.info? ty with
    | none => simp [hq] at hi
    | some i => simp [hq] at hi; simp [sizeOf, typeInfo, hq, hi]
  rw [Nat.add_zero] at hst
  unfold Oper.wp execOp
  simp only [ho, hx, hy, Instr.storeAt, Instr.sureAddr, storeVar, Value.cells, Sem.run_bind, Sem.run_pure, Result.andThen_ok, hsz, ne_eq, not_true_eq_false, if_false, hst]
  exact hK _ _ (h _ hl.1 hl.2)

/-- an array of ints in a variable -/
structure BoxA (w : World) (T n g : Nat) (cl : List Int) : Prop where
  own : Own w g T (.slice (some ⟨g, 0, none⟩) n n) (ints cl)
  len : cl.length = n
section
variable {w w' : World} {T n g : Nat} {cl : List Int}
theorem BoxA.keep {row : Option Nat} (h : BoxA w T n g cl) (hg : w.grownBy w' row) (hne : row ≠ some g) : BoxA w' T n g cl := ⟨h.own.keep hg (.inr (fun e => hne e.symm)), h.len⟩
theorem BoxA.up (h : BoxA w T n g cl) (hb : Below w.heap.size w w') : BoxA w' T n g cl := ⟨h.own.up hb, h.len⟩
theorem BoxA.lt (h : BoxA w T n g cl) : g < w.heap.size := (h.own.lt g rfl).2
theorem BoxA.cell (h : BoxA w T n g cl) {c : Nat} (hc : c < n) : w.cell? ⟨g, c, none⟩ = some (.int .i64 (cl.getD c 0)) := by
  rw [h.own.cell (by rw [ints_length, h.len]; exact hc), ints_getD _ _ (by rw [h.len]; exact hc)]
theorem BoxA.free (h : BoxA w T n g cl) (c : Nat) : w.frozen? ⟨g, c, none⟩ = false := h.own.free c
theorem BoxA.set (h : BoxA w T n g cl) (c : Nat) (k : Int) : BoxA (w.setCell ⟨g, c, none⟩ (.int .i64 k)) T n g (cl.set c k) ∧ w.grownBy (w.setCell ⟨g, c, none⟩ (.int .i64 k)) (some g) := by
  obtain ⟨h1, h2⟩ := h.own.store c (.int .i64 k)
  have e : (ints cl).set c (.int .i64 k) = ints (cl.set c k) := by simp [ints, List.map_set]
  rw [e] at h1
  exact ⟨⟨h1, by simp [h.len]⟩, h2⟩
theorem BoxA.open (h : BoxA w T n g cl) : ∃ A, w.heap[g]? = some (.cells A T (0, 0)) ∧ A.size = n ∧ A.toList = ints cl := by
  rcases h.own.1.2 with ⟨h1, _⟩ | ⟨g', cap, cur, h1, _, hg, hnc, hcm, hcs, htake⟩
  · cases h1
  · simp only [Value.slice.injEq, Option.some.injEq, Addr.mk.injEq, and_true] at h1
    obtain ⟨rfl, h2, rfl⟩ := h1
    have hl : (ints cl).length = n := by rw [ints_length, h.len]
    have hs : cur.size = n := by omega
    refine ⟨cur, hg, hs, ?_⟩
    rw [← htake, List.take_of_length_le]
    rw [Array.length_toList]; omega
theorem boxA_new (w : World) (T : Nat) (A : Array Value) (cl : List Int) (hA : A.toList = ints cl) (hn : cl.length ≤ 4294967296) : BoxA (w.alloc (.cells A T)) T cl.length w.heap.size cl := by
  have hs : A.size = cl.length := by rw [← Array.length_toList, hA, ints_length]
  have h := own_lit w w.heap.size A T (by rw [hs]; exact hn) (Nat.le_refl _)
  rw [hA, hs] at h
  exact ⟨h, rfl⟩
end
theorem load_box {P : Program} {ops : Array Oper} {rest : List Oper} {o : Oper} {a : Act} {w : World} {Q : Exit → Act → World → Prop} (hgd : o.guard = none) (T n : Nat) (x : Operand) (ho : o.op = .load T x)
    (g : Nat) (hx : a.eval x = .pointer (some ⟨g, 0, none⟩)) (A : Array Value) (hs : A.size = n) (hg : w.heap[g]? = some (.cells A T (0, 0))) (d : TypeDesc) (hu : P.underlying T = some d) (hd : (match d with | .struct _ | .array _ _ => true | _ => false) = true) (hi : (P.info? T).map (·.size) = some n)
    (h : wpList P ops Q rest (a.put o.dst (.agg A)) w) : wpList P ops Q (o :: rest) a w :=
  wpList_load_sub hgd T x ho g 0 n hx T A A (0, 0) d hg hu hd hi (by rw [hs]; omega) (by rw [← hs]; simp) h
theorem quiet_load_box {P : Program} {C : World → Prop} {o : Oper} {a : Act} {K : Act → Prop} (T n : Nat) (x : Operand) (ho : o.op = .load T x) (g : Nat) (hx : a.eval x = .pointer (some ⟨g, 0, none⟩)) (A : Array Value) (hs : A.size = n)
    (hg : ∀ w', C w' → w'.heap[g]? = some (.cells A T (0, 0))) (d : TypeDesc) (hu : P.underlying T = some d) (hd : (match d with | .struct _ | .array _ _ => true | _ => false) = true) (hi : (P.info? T).map (·.size) = some n) (h : K (a.put o.dst (.agg A))) : o.quiet P a C K := by
  refine ⟨.agg A, fun w' hw' => ?_, h⟩
  have hl := run_loadVar_sub (P := P) w' g 0 n T T A (0, 0) d (hg w' hw') hu hd hi (by rw [hs]; omega)
  unfold Oper.quietAt execOp
  simp only [ho, hx, Instr.loadAt, Instr.sureAddr, Sem.run_bind, Sem.run_pure, Result.andThen_ok, hl, Oper.quietUpon]
  exact ⟨trivial, by rw [← hs]; simp⟩
theorem results_cell_tmp {P : Program} {fn : Func} {tmps : Array Value} {w : World} {a t b : Nat} {ad : Addr} {v : Value} (hf : fn.results = #[.cell a t, .tmp b]) (ha : tmps.getD a undef = .pointer (some ad)) (hl : (loadVar t ad).run P w = .ok v w) :
    (results fn tmps).run P w = .ok (.tuple #[v, tmps.getD b undef]) w := by
  have ha' : tmps[a]?.getD undef = .pointer (some ad) := by simpa using ha
  simp [results, hf, asAddr, ha', hl]
theorem results_tmp_cell {P : Program} {fn : Func} {tmps : Array Value} {w : World} {a t b : Nat} {ad : Addr} {v : Value} (hf : fn.results = #[.tmp b, .cell a t]) (ha : tmps.getD a undef = .pointer (some ad)) (hl : (loadVar t ad).run P w = .ok v w) :
    (results fn tmps).run P w = .ok (.tuple #[tmps.getD b undef, v]) w := by
  have ha' : tmps[a]?.getD undef = .pointer (some ad) := by simpa using ha
  simp [results, hf, asAddr, ha', hl]
theorem ret_cell_tmp {P : Program} {fn : Func} {tmps : Array Value} {w : World} {ds : List Deferred} {s b t : Nat} {ad : Addr} {x y : Value} {R : Ending → World → Prop} (hf : fn.results = #[.cell s t, .tmp b]) (ha : tmps.getD s undef = .pointer (some ad)) (hb : tmps.getD b undef = y) (hd : ds = [])
    (hl : (loadVar t ad).run P w = .ok x w) (h : R (.returned (.tuple #[x, y])) w) : bodyPost P fn R .ret ⟨tmps, ds⟩ w :=
  bodyPost_ret (v := .tuple #[x, y]) (by rw [results_cell_tmp hf ha hl, hb]) hd h
theorem ret_tmp_cell {P : Program} {fn : Func} {tmps : Array Value} {w : World} {ds : List Deferred} {s b t : Nat} {ad : Addr} {x y : Value} {R : Ending → World → Prop} (hf : fn.results = #[.tmp b, .cell s t]) (ha : tmps.getD s undef = .pointer (some ad)) (hb : tmps.getD b undef = y) (hd : ds = [])
    (hl : (loadVar t ad).run P w = .ok x w) (h : R (.returned (.tuple #[y, x])) w) : bodyPost P fn R .ret ⟨tmps, ds⟩ w :=
  bodyPost_ret (v := .tuple #[y, x]) (by rw [results_tmp_cell hf ha hl, hb]) hd h
theorem BoxA.load {P : Program} {w : World} {T n g : Nat} {cl : List Int} (h : BoxA w T n g cl) (d : TypeDesc) (hu : P.underlying T = some d) (hd : (match d with | .struct _ | .array _ _ => true | _ => false) = true) (hi : (P.info? T).map (·.size) = some n) :
    (loadVar T ⟨g, 0, none⟩).run P w = .ok (.agg (ints cl).toArray) w := by
  obtain ⟨A, hg, hs, hA⟩ := h.open
  have hl := run_loadVar_sub (P := P) w g 0 n T T A (0, 0) d hg hu hd hi (by omega)
  have e : A.extract 0 (0 + n) = (ints cl).toArray := by rw [Nat.zero_add, ← hs, Array.extract_size, ← hA]
  rw [e] at hl
  exact hl
end Go.Cm
