/- Automata that a call builds in a variable of its own. Conditions: none. -/
import Derived.Test.YtjeclleophlliaaOwnM
import Derived.Test.YtjeclleophlliaaReachP
import Derived.Test.YtjeclleophlliaaDfaW
import Derived.Laws.IdiomCopy
namespace Go.Cm
open Go.RowKit Go.Proofs

theorem Own.storeList {B : Nat} {E : TypeId} {g n cap : Nat} (ys : List Value) : ∀ {w : World} {xs : List Value} (o : Nat), Own w B E (.slice (some ⟨g, 0, none⟩) n cap) xs → o + ys.length ≤ xs.length →
    Own (w.setCells g o ys) B E (.slice (some ⟨g, 0, none⟩) n cap) (xs.take o ++ ys ++ xs.drop (o + ys.length)) ∧ w.grownBy (w.setCells g o ys) (some g) := by
  induction ys with
  | nil => intro w xs o h hl; simp only [World.setCells]; exact ⟨by simpa using h, grown_refl w _⟩
  | cons y ys ih =>
    intro w xs o h hl
    rw [List.length_cons] at hl
    obtain ⟨h1, h2⟩ := h.store o y
    obtain ⟨h3, h4⟩ := ih (o + 1) h1 (by rw [List.length_set]; omega)
    refine ⟨?_, grown_trans h2 h4⟩
    have e : (xs.set o y).take (o + 1) ++ ys ++ (xs.set o y).drop (o + 1 + ys.length) = xs.take o ++ y :: ys ++ xs.drop (o + (y :: ys).length) := by
      rw [List.take_set, List.take_succ_eq_append_getElem (by omega), List.set_append_right _ _ (by simp [Nat.min_le_left]), List.drop_set_of_lt (by omega)]
      simp [Nat.min_eq_left (show o ≤ xs.length by omega), show o + 1 + ys.length = o + (ys.length + 1) by omega]
    rw [← e]
    exact h3

theorem wpList_store_agg {P : Program} {ops : Array Oper} {rest : List Oper} {o : Oper} {a : Act} {w : World} {Q : Exit → Act → World → Prop} (hgd : o.guard = none) (ty : TypeId) (x y : Operand) (ho : o.op = .store ty x y)
    (B E g n cap : Nat) (hx : a.eval x = .pointer (some ⟨g, 0, none⟩)) (C : Array Value) (hy : a.eval y = .agg C) (hi : (P.info? ty).map (·.size) = some C.size) (xs : List Value) (hown : Own w B E (.slice (some ⟨g, 0, none⟩) n cap) xs) (hle : C.size ≤ xs.length) (h1 : ∀ u ∈ C.toList, u.oneCell' = true)
    (h : ∀ w', Own w' B E (.slice (some ⟨g, 0, none⟩) n cap) (C.toList ++ xs.drop C.size) → w.grownBy w' (some g) → wpList P ops Q rest (a.put o.dst undef) w') : wpList P ops Q (o :: rest) a w := by
  have hst := run_storeCells_cells (P := P) g 0 C.toList 0 w (fun j hj => by
      rw [Array.length_toList] at hj
      rw [Nat.zero_add, hown.cell (by omega)]; rfl) (fun j _ => by rw [Nat.zero_add]; exact hown.free j) h1
  have hl := hown.storeList C.toList 0 (by simpa using hle)
  rw [List.take_zero, List.nil_append, Nat.zero_add, Array.length_toList] at hl
  refine wpList_plain hgd fun K hK => ?_
  have hsz : (sizeOf ty).run P w = .ok C.size w := by
    cases hq : P.info? ty with
    | none => simp [hq] at hi
    | some i => simp [hq] at hi; simp [sizeOf, typeInfo, hq, hi]
  unfold Oper.wp execOp
  simp only [ho, hx, hy, Instr.storeAt, Instr.sureAddr, storeVar, Value.cells, Sem.run_bind, Sem.run_pure, Result.andThen_ok, hsz, ne_eq, not_true_eq_false, if_false, hst]
  exact hK _ _ (h _ hl.1 hl.2)

/-- an automaton in the making, in the block g -/
structure BoxD (w : World) (g : Nat) (nv rv : Value) (cl : List Int) : Prop where
  own : Own w g 26 (.slice (some ⟨g, 0, none⟩) 258 258) (ints cl ++ [nv, rv])
  len : cl.length = 256
theorem BoxD.keep {w w' : World} {g : Nat} {nv rv : Value} {cl : List Int} {row : Option Nat} (h : BoxD w g nv rv cl) (hg : w.grownBy w' row) (hne : row ≠ some g) : BoxD w' g nv rv cl := ⟨h.own.keep hg (.inr (fun e => hne e.symm)), h.len⟩
theorem BoxD.up {w w' : World} {g : Nat} {nv rv : Value} {cl : List Int} (h : BoxD w g nv rv cl) (hb : Below w.heap.size w w') : BoxD w' g nv rv cl := ⟨h.own.up hb, h.len⟩
theorem BoxD.lt {w : World} {g : Nat} {nv rv : Value} {cl : List Int} (h : BoxD w g nv rv cl) : g < w.heap.size := (h.own.lt g rfl).2
theorem box_getD_next {cl : List Int} {nv rv : Value} (h : cl.length = 256) : (ints cl ++ [nv, rv]).getD 256 undef = nv := by
  have : (ints cl).length = 256 := by rw [ints_length, h]
  rw [List.getD_eq_getElem?_getD, List.getElem?_append_right (by omega), this]; rfl
theorem box_getD_rules {cl : List Int} {nv rv : Value} (h : cl.length = 256) : (ints cl ++ [nv, rv]).getD 257 undef = rv := by
  have : (ints cl).length = 256 := by rw [ints_length, h]
  rw [List.getD_eq_getElem?_getD, List.getElem?_append_right (by omega), this]; rfl
theorem box_getD_cls {cl : List Int} {nv rv : Value} (h : cl.length = 256) {c : Nat} (hc : c < 256) : (ints cl ++ [nv, rv]).getD c undef = .int .i64 (cl.getD c 0) := by
  rw [List.getD_eq_getElem?_getD, List.getElem?_append_left (by rw [ints_length, h]; exact hc), ← List.getD_eq_getElem?_getD, ints_getD _ _ (by rw [h]; exact hc)]
section
variable {w : World} {g : Nat} {nv rv : Value} {cl : List Int}
theorem BoxD.cellN (h : BoxD w g nv rv cl) : w.cell? ⟨g, 256, none⟩ = some nv := by
  rw [h.own.cell (by simp [h.len]), box_getD_next h.len]
theorem BoxD.cellR (h : BoxD w g nv rv cl) : w.cell? ⟨g, 257, none⟩ = some rv := by
  rw [h.own.cell (by simp [h.len]), box_getD_rules h.len]
theorem BoxD.cellC (h : BoxD w g nv rv cl) {c : Nat} (hc : c < 256) : w.cell? ⟨g, c, none⟩ = some (.int .i64 (cl.getD c 0)) := by
  rw [h.own.cell (by simp [h.len]; omega), box_getD_cls h.len hc]
theorem BoxD.free (h : BoxD w g nv rv cl) (c : Nat) : w.frozen? ⟨g, c, none⟩ = false := h.own.free c
theorem BoxD.setR (h : BoxD w g nv rv cl) (v : Value) : BoxD (w.setCell ⟨g, 257, none⟩ v) g nv v cl ∧ w.grownBy (w.setCell ⟨g, 257, none⟩ v) (some g) := by
  obtain ⟨h1, h2⟩ := h.own.store 257 v
  refine ⟨⟨?_, h.len⟩, h2⟩
  have hl : (ints cl).length = 256 := by rw [ints_length, h.len]
  rw [List.set_append_right _ _ (by omega), hl] at h1
  exact h1
theorem BoxD.setN (h : BoxD w g nv rv cl) (v : Value) : BoxD (w.setCell ⟨g, 256, none⟩ v) g v rv cl ∧ w.grownBy (w.setCell ⟨g, 256, none⟩ v) (some g) := by
  obtain ⟨h1, h2⟩ := h.own.store 256 v
  refine ⟨⟨?_, h.len⟩, h2⟩
  have hl : (ints cl).length = 256 := by rw [ints_length, h.len]
  rw [List.set_append_right _ _ (by omega), hl] at h1
  exact h1
theorem BoxD.setC (h : BoxD w g nv rv cl) {c : Nat} (hc : c < 256) (k : Int) : BoxD (w.setCell ⟨g, c, none⟩ (.int .i64 k)) g nv rv (cl.set c k) ∧ w.grownBy (w.setCell ⟨g, c, none⟩ (.int .i64 k)) (some g) := by
  obtain ⟨h1, h2⟩ := h.own.store c (.int .i64 k)
  refine ⟨⟨?_, by simp [h.len]⟩, h2⟩
  rw [List.set_append_left _ _ (by rw [ints_length, h.len]; exact hc), ints_set] at h1
  exact h1
/-- the box as one value -/
theorem BoxD.open (h : BoxD w g nv rv cl) : ∃ A, w.heap[g]? = some (.cells A 26 (0, 0)) ∧ A.size = 258 ∧ A.toList = ints cl ++ [nv, rv] := by
  rcases h.own.1.2 with ⟨h1, _⟩ | ⟨g', cap, cur, h1, _, hg, hnc, hcm, hcs, htake⟩
  · cases h1
  · simp only [Value.slice.injEq, Option.some.injEq, Addr.mk.injEq, and_true] at h1
    obtain ⟨rfl, h2, rfl⟩ := h1
    have hs : cur.size = 258 := by omega
    refine ⟨cur, hg, hs, ?_⟩
    rw [← htake, List.take_of_length_le]
    simp [hs, h.len]
theorem dfaV_of {A : Array Value} (hA : A.toList = ints cl ++ [nv, rv]) (hl : cl.length = 256) {next : List (List Int)} {rules : List Int} (hn : RowsAt w nv next) (hr : IntsAt w rv rules) : DfaV w A ⟨cl, next, rules⟩ := by
  have hs : A.size = 258 := by rw [← Array.length_toList, hA]; simp [hl]
  have hg : ∀ i, i < 258 → A[i]? = some ((ints cl ++ [nv, rv]).getD i undef) := fun i hi => by
    rw [← Array.getElem?_toList, hA, List.getD_eq_getElem?_getD, List.getElem?_eq_getElem (by simp [hl]; omega)]; rfl
  exact ⟨hs, hl, fun i hi => by rw [hg i (by omega), box_getD_cls hl hi], ⟨nv, by rw [hg 256 (by omega), box_getD_next hl], hn⟩, ⟨rv, by rw [hg 257 (by omega), box_getD_rules hl], hr⟩⟩
end
theorem one_box {cl : List Int} {nv rv : Value} (h1 : nv.oneCell' = true) (h2 : rv.oneCell' = true) : ∀ u ∈ ints cl ++ [nv, rv], u.oneCell' = true := by
  intro u hu
  rcases List.mem_append.1 hu with h | h
  · exact ints_one _ u h
  · simp only [List.mem_cons, List.not_mem_nil, or_false] at h
    rcases h with rfl | rfl
    · exact h1
    · exact h2
theorem store_dfa {ops : Array Oper} {rest : List Oper} {o : Oper} {a : Act} {w : World} {Q : Exit → Act → World → Prop} (hgd : o.guard = none) (x y : Operand) (ho : o.op = .store 26 x y)
    (g : Nat) (hx : a.eval x = .pointer (some ⟨g, 0, none⟩)) (C : Array Value) (hy : a.eval y = .agg C) {nv rv nv' rv' : Value} {cl cl' : List Int} (hC : C.toList = ints cl' ++ [nv', rv']) (hl : cl'.length = 256) (h1 : nv'.oneCell' = true) (h2 : rv'.oneCell' = true) (hB : BoxD w g nv rv cl)
    (h : ∀ w', BoxD w' g nv' rv' cl' → w.grownBy w' (some g) → wpList Try.prog ops Q rest (a.put o.dst undef) w') : wpList Try.prog ops Q (o :: rest) a w := by
  have hs : C.size = 258 := by rw [← Array.length_toList, hC, List.length_append, ints_length, hl]; rfl
  have hx258 : (ints cl ++ [nv, rv]).length = 258 := by rw [List.length_append, ints_length, hB.len]; rfl
  refine wpList_store_agg hgd 26 x y ho g 26 g 258 258 hx C hy (by rw [hs]; kernel_rfl) (ints cl ++ [nv, rv]) hB.own (by rw [hs, hx258]; exact Nat.le_refl _) (by rw [hC]; exact one_box h1 h2) fun w' hw hg => h w' ⟨?_, hl⟩ hg
  rw [hs, List.drop_of_length_le (by rw [hx258]; exact Nat.le_refl _), List.append_nil, hC] at hw
  exact hw
/-- the zero automaton -/
def zArr : Array Value := (ints (List.replicate 256 0) ++ [Value.slice none 0 0, Value.slice none 0 0]).toArray
theorem zero_dfa (W : World) : (zeroValue 26).run Try.prog W = .ok (.agg zArr) W := by kernel_rfl
theorem build_dfa (W : World) : (Instr.build 26 #[]).run Try.prog W = .ok (.agg zArr) W := by kernel_rfl
theorem zArr_list : zArr.toList = ints (List.replicate 256 0) ++ [Value.slice none 0 0, Value.slice none 0 0] := rfl
theorem zArr_size : zArr.size = 258 := by
  rw [← Array.length_toList, zArr_list, List.length_append, ints_length, List.length_replicate]; rfl
theorem box_new (w : World) : BoxD (w.alloc (.cells zArr 26)) w.heap.size (.slice none 0 0) (.slice none 0 0) (List.replicate 256 0) := by
  refine ⟨?_, List.length_replicate⟩
  have h := own_lit w w.heap.size zArr 26 (by rw [zArr_size]; decide) (Nat.le_refl _)
  rw [zArr_list, zArr_size] at h
  exact h
theorem results_cell_tmp {P : Program} {fn : Func} {tmps : Array Value} {w : World} {a t b : Nat} {ad : Addr} {v : Value} (hf : fn.results = #[.cell a t, .tmp b]) (ha : tmps.getD a undef = .pointer (some ad)) (hl : (loadVar t ad).run P w = .ok v w) :
    (results fn tmps).run P w = .ok (.tuple #[v, tmps.getD b undef]) w := by
  have ha' : tmps[a]?.getD undef = .pointer (some ad) := by simpa using ha
  simp [results, hf, asAddr, ha', hl]
theorem ret_dfa {fn : Func} {tmps : Array Value} {w : World} {ds : List Deferred} {s b g : Nat} {nv rv y : Value} {cl : List Int} {next : List (List Int)} {rules : List Int} {R : Ending → World → Prop} (hf : fn.results = #[.cell s 26, .tmp b]) (ha : tmps.getD s undef = .pointer (some ⟨g, 0, none⟩)) (hb : tmps.getD b undef = y) (hd : ds = [])
    (hB : BoxD w g nv rv cl) (hn : RowsAt w nv next) (hr : IntsAt w rv rules) (h : ∀ v, DfaAt w v ⟨cl, next, rules⟩ → R (.returned (.tuple #[v, y])) w) : bodyPost Try.prog fn R .ret ⟨tmps, ds⟩ w := by
  obtain ⟨A, hg, hs, hA⟩ := hB.open
  have hl := run_loadVar_sub (P := Try.prog) w g 0 258 26 26 A (0, 0) _ hg Try.underlying26 rfl (by kernel_rfl) (by rw [hs]; decide)
  have e : A.extract 0 (0 + 258) = A := by rw [Nat.zero_add, ← hs]; simp
  rw [e] at hl
  refine bodyPost_ret (v := .tuple #[.agg A, y]) ?_ hd (h _ ⟨A, rfl, dfaV_of hA hB.len hn hr⟩)
  rw [results_cell_tmp hf ha hl, hb]
theorem rows_nil (w : World) : RowsAt w (.slice none 0 0) [] := ⟨[], Sl.nil _, rfl, fun i hi => absurd hi (Nat.not_lt_zero i)⟩
end Go.Cm
