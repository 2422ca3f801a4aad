/- Memory facts that the walks share: a world with more behind it ('ext'), slices read as lists. Conditions: none. -/
import Derived.Test.YtfeglklggadndaaRows
import Derived.WalkKit
import Derived.WalkSpells
import Derived.WalkLawsBesides
import Derived.Deep.QuietTactic
import Derived.BigQuiet
import Derived.Lib.Hide
namespace Go.Cm
open Go.RowKit

/-- A world that has grown: what lay in w lies there as it did. -/
noncomputable def ext (w x : World) : World := @ite _ (Below w.heap.size w x) (Classical.propDecidable _) x w

theorem ext_below (w x : World) : Below w.heap.size w (ext w x) := by
  unfold ext
  split
  · assumption
  · exact Below.refl _ _
theorem ext_of {w x : World} (h : Below w.heap.size w x) : ext w x = x := by
  unfold ext; rw [if_pos h]
theorem ex_ext {w x : World} (h : Below w.heap.size w x) : ∃ y, x = ext w y := ⟨x, (ext_of h).symm⟩
theorem below_ext {w w' : World} (h : ∃ x, w' = ext w x) : Below w.heap.size w w' := by
  obtain ⟨x, rfl⟩ := h; exact ext_below w x
theorem below_drewN (w : World) (n : Nat) : Below w.heap.size w (w.drewN n) := ⟨rfl, rfl, rfl, Nat.le_refl _, fun _ _ => rfl⟩
theorem drewN_ext (w : World) (n : Nat) : ∃ x, w.drewN n = ext w x := ex_ext (below_drewN w n)
theorem below_up {w x y : World} (h : Below w.heap.size w x) (k : Below x.heap.size x y) : Below w.heap.size w y := h.trans (k.mono h.size)
theorem ext_ext (w x y : World) : ∃ z, ext (ext w x) y = ext w z := ex_ext (below_up (ext_below w x) (ext_below _ y))
theorem ext_drew (w x : World) : ∃ z, (ext w x).drew = ext w z := ex_ext (below_up (ext_below w x) (below_drewN _ 1))
theorem below_alloc (w : World) (o : Obj) : Below w.heap.size w (w.alloc o) := (Below.refl _ _).alloc (Nat.le_refl _) o
theorem refl_ext (w : World) : ∃ x, w = ext w x := ex_ext (Below.refl _ _)

@[go_sem] theorem cell?_ext (w x : World) (b o : Nat) (h : b < w.heap.size) : (ext w x).cell? ⟨b, o, none⟩ = w.cell? ⟨b, o, none⟩ := (ext_below w x).cell (p := ⟨b, o, none⟩) h
@[go_sem] theorem frozen?_ext (w x : World) (b o : Nat) (h : b < w.heap.size) : (ext w x).frozen? ⟨b, o, none⟩ = w.frozen? ⟨b, o, none⟩ := (ext_below w x).frozen (p := ⟨b, o, none⟩) h
theorem size_ext (w x : World) : w.heap.size ≤ (ext w x).heap.size := (ext_below w x).size
theorem heap_ext (w x : World) (b : Nat) (h : b < w.heap.size) : (ext w x).heap[b]? = w.heap[b]? := (ext_below w x).block b h
@[go_sem] theorem cell?_ext_alloc_old (w x : World) (a : Obj) (b o : Nat) (h : b < w.heap.size) : (ext (w.alloc a) x).cell? ⟨b, o, none⟩ = w.cell? ⟨b, o, none⟩ := by
  rw [cell?_ext _ _ _ _ (by simp; omega), World.cell?_alloc_past _ _ _ h]
@[go_sem] theorem cell?_ext_alloc_new (w x : World) (c : Array Value) (t : TypeId) (o : Nat) : (ext (w.alloc (.cells c t)) x).cell? ⟨w.heap.size, o, none⟩ = c[o]? := by
  rw [cell?_ext _ _ _ _ (by simp), World.cell?_alloc_new]

/-- A slice's header. -/
structure Hd (w : World) (oa : Option Addr) (len cap b off : Nat) : Prop where
  hat : 0 < len → oa = some ⟨b, off, none⟩
  hcap : len ≤ cap
  hmax : cap ≤ maxLen
  hsml : len ≤ 140737488351232
  hblk : 0 < len → b < w.heap.size

theorem Hd.len {w : World} {oa : Option Addr} {len cap b off : Nat} (h : Hd w oa len cap b off) : len ≤ 9223372036854775807 := by
  have h1 := h.hsml; omega

/-- A slice whose elements are one cell each reads as a list of values. -/
def Sl (w : World) (v : Value) (l : List Value) : Prop :=
  ∃ oa cap b off, v = .slice oa l.length cap ∧ Hd w oa l.length cap b off ∧ ∀ i, i < l.length → w.cell? ⟨b, off + i, none⟩ = some (l.getD i undef)

theorem Sl.up {w w' : World} {v : Value} {l : List Value} (h : Sl w v l) (hb : Below w.heap.size w w') : Sl w' v l := by
  obtain ⟨oa, cap, b, off, rfl, hd, hc⟩ := h
  refine ⟨oa, cap, b, off, rfl, ⟨hd.hat, hd.hcap, hd.hmax, hd.hsml, fun h => Nat.lt_of_lt_of_le (hd.hblk h) hb.size⟩, fun i hi => ?_⟩
  rw [hb.cell (p := ⟨b, off + i, none⟩) (hd.hblk (by omega))]
  exact hc i hi
theorem Sl.nil (w : World) : Sl w (.slice none 0 0) [] := ⟨none, 0, 0, 0, rfl, ⟨fun h => absurd h (Nat.lt_irrefl 0), Nat.le_refl _, by simp [maxLen], by simp, fun h => absurd h (Nat.lt_irrefl 0)⟩, fun i hi => absurd hi (Nat.not_lt_zero i)⟩

/-- The address of an element, whatever the slice's make. -/
theorem index_any {P : Program} {w : World} {oa : Option Addr} {b off len cap : Nat} (T E : TypeId) (hT : P.underlying T = some (.slice E)) (hE : (P.info? E).map (·.size) = some 1) (h : Hd w oa len cap b off) :
    ∀ (W : World) (k : IntKind) (i : Int), 0 ≤ i → i < len → (Instr.indexAt T (.slice oa len cap) (.int k i)).run P W = .ok (.pointer (some ⟨b, off + i.toNat, none⟩)) W := by
  intro W k i h0 h1
  rw [h.hat (by omega)]
  have he : P.elem T = E := by simp [Program.elem, hT]
  rw [run_indexAt_slice W T ⟨b, off, none⟩ len cap k i (by rw [he]; exact hT), if_pos ⟨h0, h1⟩, he]
  cases hq : P.info? E with
  | none => simp [hq] at hE
  | some inf =>
    have hs : inf.size = 1 := by simpa [hq] using hE
    simp [sizeOf, typeInfo, hq, hs, Result.andThen, Addr.add]

def ints (l : List Int) : List Value := l.map (Value.int .i64)
@[simp] theorem ints_length (l : List Int) : (ints l).length = l.length := by simp [ints]
theorem ints_getD (l : List Int) (i : Nat) (h : i < l.length) : (ints l).getD i undef = .int .i64 (l.getD i 0) := by
  simp [ints, List.getD, h]

/-- .. as a list of ints -/
def IntsAt (w : World) (v : Value) (l : List Int) : Prop := Sl w v (ints l)
theorem IntsAt.up {w w' : World} {v : Value} {l : List Int} (h : IntsAt w v l) (hb : Below w.heap.size w w') : IntsAt w' v l := Sl.up h hb
theorem IntsAt.open {w : World} {v : Value} {l : List Int} (h : IntsAt w v l) :
    ∃ oa cap b off, v = .slice oa l.length cap ∧ Hd w oa l.length cap b off ∧ ∀ i, i < l.length → w.cell? ⟨b, off + i, none⟩ = some (.int .i64 (l.getD i 0)) := by
  obtain ⟨oa, cap, b, off, rfl, hd, hc⟩ := h
  simp only [ints_length] at hd hc ⊢
  exact ⟨oa, cap, b, off, rfl, hd, fun i hi => by rw [hc i hi, ints_getD l i hi]⟩

/-- a slice of slices of ints -/
def RowsAt (w : World) (v : Value) (ll : List (List Int)) : Prop :=
  ∃ vs, Sl w v vs ∧ vs.length = ll.length ∧ ∀ i, i < ll.length → IntsAt w (vs.getD i undef) (ll.getD i [])
theorem RowsAt.up {w w' : World} {v : Value} {l : List (List Int)} (h : RowsAt w v l) (hb : Below w.heap.size w w') : RowsAt w' v l := by
  obtain ⟨vs, h1, h2, h3⟩ := h
  exact ⟨vs, h1.up hb, h2, fun i hi => (h3 i hi).up hb⟩
theorem RowsAt.open {w : World} {v : Value} {ll : List (List Int)} (h : RowsAt w v ll) :
    ∃ oa cap b off, v = .slice oa ll.length cap ∧ Hd w oa ll.length cap b off ∧ ∀ i, i < ll.length →
      ∃ oi ci bi fi, w.cell? ⟨b, off + i, none⟩ = some (.slice oi (ll.getD i []).length ci) ∧ Hd w oi (ll.getD i []).length ci bi fi ∧
        (∀ j, j < (ll.getD i []).length → w.cell? ⟨bi, fi + j, none⟩ = some (.int .i64 ((ll.getD i []).getD j 0))) ∧ IntsAt w (.slice oi (ll.getD i []).length ci) (ll.getD i []) := by
  obtain ⟨vs, ⟨oa, cap, b, off, rfl, hd, hc⟩, h2, h3⟩ := h
  rw [h2] at hd hc ⊢
  refine ⟨oa, cap, b, off, rfl, hd, fun i hi => ?_⟩
  have h4 := h3 i hi
  obtain ⟨oi, ci, bi, fi, he, hdi, hci⟩ := h4.open
  refine ⟨oi, ci, bi, fi, ?_, hdi, hci, ?_⟩
  · rw [hc i hi, he]
  · rw [← he]; exact h4

/-- Cells of a block, from an offset on, loaded as one value. -/
theorem run_loadVar_sub {P : Program} (w : World) (g off n : Nat) (t ty : TypeId) (cs : Array Value) (fr : Nat × Nat) (d : TypeDesc) (hg : w.heap[g]? = some (.cells cs t fr))
    (hu : P.underlying ty = some d) (hd : (match d with | .struct _ | .array _ _ => true | _ => false) = true) (hi : (P.info? ty).map (·.size) = some n) (hs : off + n ≤ cs.size) :
    (loadVar ty ⟨g, off, none⟩).run P w = .ok (.agg (cs.extract off (off + n))) w := by
  have hlen : (cs.extract off (off + n)).toList.length = n := by simp; omega
  have hl : (loadCells ⟨g, off, none⟩ (cs.extract off (off + n)).toList.length).run P w = .ok (cs.extract off (off + n)).toList.toArray w :=
    run_loadCells_list (P := P) w ⟨g, off, none⟩ (cs.extract off (off + n)).toList (fun j v hv => by
      have hadd : (⟨g, off, none⟩ : Addr).add j = ⟨g, off + j, none⟩ := by unfold Addr.add; split <;> simp_all
      rw [hadd, cell_of_row w g (off + j) cs t fr hg]
      have hj : j < n := by
        have := (List.getElem?_eq_some_iff.1 hv).1
        omega
      rw [← hv]
      simp [Array.getElem?_extract, hj])
  rw [hlen] at hl
  simp only [Array.toArray_toList] at hl
  cases hq : P.info? ty with
  | none => simp [hq] at hi
  | some i =>
    have hs' : i.size = n := by simpa [hq] using hi
    have hagg : (isAgg ty).run P w = .ok true w := by
      unfold isAgg
      rw [Sem.run_bind, run_underlying hu w]
      cases d <;> simp_all
    simp [loadVar, Sem.run_bind, hagg, sizeOf, typeInfo, hq, hs', hl]

/-- .. as an operation -/
theorem wpList_load_sub {P : Program} {ops : Array Oper} {rest : List Oper} {o : Oper} {a : Act} {w : World} {Q : Exit → Act → World → Prop} (hgd : o.guard = none) (ty : TypeId) (x : Operand) (ho : o.op = .load ty x)
    (g off n : Nat) (hx : a.eval x = .pointer (some ⟨g, off, none⟩)) (t : TypeId) (cs B : Array Value) (fr : Nat × Nat) (d : TypeDesc) (hg : w.heap[g]? = some (.cells cs t fr))
    (hu : P.underlying ty = some d) (hd : (match d with | .struct _ | .array _ _ => true | _ => false) = true) (hi : (P.info? ty).map (·.size) = some n) (hs : off + n ≤ cs.size) (hB : cs.extract off (off + n) = B)
    (h : wpList P ops Q rest (a.put o.dst (.agg B)) w) : wpList P ops Q (o :: rest) a w := by
  subst hB
  refine wpList_plain hgd fun K hK => ?_
  unfold Oper.wp execOp
  simp only [ho, hx, Instr.loadAt, Instr.sureAddr, Sem.run_bind, Sem.run_pure, Result.andThen_ok, run_loadVar_sub w g off n t ty cs fr d hg hu hd hi hs]
  exact hK _ _ h

theorem b_drewN {B : Nat} {w v : World} (h : Below B w v) (n : Nat) : Below B w (v.drewN n) := h.trans ⟨rfl, rfl, rfl, Nat.le_refl _, fun _ _ => rfl⟩
theorem b_ext {B : Nat} {w v : World} (h : Below B w v) (hB : B ≤ v.heap.size) (x : World) : Below B w (ext v x) := h.trans ((ext_below v x).mono hB)
theorem b_ext' {w v : World} (h : Below w.heap.size w v) (x : World) : Below w.heap.size w (ext v x) := b_ext h h.size x
theorem b_alloc' {w v : World} (h : Below w.heap.size w v) (o : Obj) : Below w.heap.size w (v.alloc o) := h.alloc h.size o

/-- a call's contract where the world has grown, met in a region that draws its order -/
theorem calls_in {P : Program} {f : FuncId} {args : Array Value} {w x : World} {v : Value}
    (h : Calls P f args (ext w x) fun e w' => e = .returned v ∧ ∃ y, w' = ext (ext w x) y) : Calls P f args (ext w x) fun e w' => e = .returned v ∧ ∃ y, w' = ext w y :=
  h.mono fun _ _ ⟨he, y, hy⟩ => ⟨he, by rw [hy]; exact ext_ext w x y⟩

/-- A region that draws its order, walked once in the text's order, where the callees may make memory. -/
theorem wp_region_ext {P : Program} {id : Nat} {Q : Exit → Act → World → Prop} {a : Act} {w : World} {l : List Oper} (hm : P.follows .mixedOrders = true) (hB : Region.lexB .any l.toArray = true)
    (h : wpQuiet P l.toArray (fun w' => ∃ x, w' = ext w x) (fun a' => ∀ w', (∃ x, w' = ext w x) → Q .normal a' w') l a) : (Code.region id l.toArray true).wp P Q a w :=
  wp_region_quiet (C := fun w' => ∃ x, w' = ext w x) hm hB (ex_ext (below_drewN w 1)) (by simpa using h)

/-- '==' on arrays of ints -/
theorem run_equalIn_ints {P : Program} (w : World) (T E n : Nat) (hT : P.underlying T = some (.array n E)) (hE : P.underlying E = some (.int .i64)) (hs : (P.info? E).map (·.size) = some 1)
    (xs ys : Array Value) (l m : List Int) (hl : l.length = n) (hm : m.length = n) (hx : ∀ i, i < n → xs[i]? = some (.int .i64 (l.getD i 0))) (hy : ∀ i, i < n → ys[i]? = some (.int .i64 (m.getD i 0))) (d : Nat) :
    (Op.equalIn (d + 2) T (.agg xs) (.agg ys)).run P w = .ok (decide (l = m)) w := by
  have hsz : ∀ W, (sizeOf E).run P W = .ok 1 W := fun W => by
    cases hq : P.info? E with
    | none => simp [hq] at hs
    | some inf => have : inf.size = 1 := by simpa [hq] using hs
                  simp [sizeOf, typeInfo, hq, this]
  have hag : ∀ W, (isAgg E).run P W = .ok false W := fun W => by unfold isAgg; rw [Sem.run_bind, run_underlying hE]; rfl
  have hpart : ∀ (zs : Array Value) (q : List Int) (i : Nat) (W : World), zs[i]? = some (.int .i64 (q.getD i 0)) → (part E zs (i * 1)).run P W = .ok (.int .i64 (q.getD i 0)) W := fun zs q i W h => by
    unfold part; rw [Sem.run_bind, hag]; simp only [Result.andThen, Nat.mul_one, h]; rfl
  have hel : ∀ (x y : Int) (W : World), (Op.equalIn (d + 1) E (.int .i64 x) (.int .i64 y)).run P W = .ok (x == y) W := fun x y W => by
    rw [Op.equalIn, Sem.run_bind, run_underlying hE]; simp [Result.andThen]
  rw [Op.equalIn, Sem.run_bind, run_underlying hT]
  simp only [Result.andThen_ok, Sem.run_bind, hsz]
  have key : ∀ (k s : Nat), s + k = n → l.take s = m.take s → ∀ W, (forIn (List.range' s k) ((none, ()) : Option Bool × Unit) fun i r => do
      let __do_lift ← part E xs (i * 1)
      let __do_lift_1 ← part E ys (i * 1)
      let __do_lift ← Op.equalIn (d + 1) E __do_lift __do_lift_1
      if (!__do_lift) = true then pure (ForInStep.done (some false, ())) else pure (ForInStep.yield (none, ())) : Sem (Option Bool × Unit)).run P W = .ok (if l = m then (none, ()) else (some false, ())) W := by
    intro k
    induction k with
    | zero =>
      intro s hs' ht W
      have : l = m := by rwa [List.take_of_length_le (by omega), List.take_of_length_le (by omega)] at ht
      simp [this]
    | succ k ih =>
      intro s hs' ht W
      simp only [List.range'_succ, List.forIn_cons, Sem.run_bind, hpart xs l s W (hx s (by omega)), Result.andThen_ok, hpart ys m s W (hy s (by omega)), hel]
      by_cases he : l.getD s 0 = m.getD s 0
      · have h2 : l.take (s + 1) = m.take (s + 1) := by
          have he' : l[s]'(by omega) = m[s]'(by omega) := by simpa [List.getD, show s < l.length by omega, show s < m.length by omega] using he
          rw [List.take_succ_eq_append_getElem (by omega), List.take_succ_eq_append_getElem (by omega), ht, he']
        have h3 := ih (s + 1) (by omega) h2 W
        simp only [he, beq_self_eq_true, Bool.not_true, Bool.false_eq_true, if_false]
        exact h3
      · have hne : l ≠ m := fun h => he (by rw [h])
        have hb : (l.getD s 0 == m.getD s 0) = false := by simpa using he
        simp only [hb, Bool.not_false, if_true, Sem.run_pure, Result.andThen_ok, hne, if_false]
  have h0 := key n 0 (by omega) (by simp) w
  rw [Std.Legacy.Range.forIn_eq_forIn_range']
  simp only [Std.Legacy.Range.size, Nat.sub_zero, Nat.add_sub_cancel, Nat.div_one]
  rw [h0]
  by_cases he : l = m <;> simp [he]
end Go.Cm
