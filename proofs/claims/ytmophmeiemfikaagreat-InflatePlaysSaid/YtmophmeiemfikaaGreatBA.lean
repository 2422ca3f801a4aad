/- Texts of this claim, joined: walks of small functions and plain facts about them. Conditions: as each says. -/
import Derived.Test.YtmophmeiemfikaaGreatRows
import Derived.WalkKit
import Derived.WalkSpells
import Derived.WalkLawsBesides
import Derived.Deep.QuietTactic
import Derived.BigQuiet
import Derived.Lib.Hide
import Derived.Laws.Small
/- Memory facts that the walks share: a world with more behind it ('ext'), slices read as lists. Conditions: none. -/
namespace Go.Cm
open Go.RowKit

/-- A world that has grown: what lay in w lies there as it did. -/
noncomputable def ext (w x : World) : World := @ite _ (Below w.heap.size w x) (Classical.propDecidable _) x w
theorem ext_below (w x : World) : Below w.heap.size w (ext w x) := by
  unfold ext
  split
  · assumption
  · exact Below.refl _ _
theorem ext_of {w x : World} (h : Below w.heap.size w x) : ext w x = x := by
  unfold ext; rw [if_pos h]
theorem ex_ext {w x : World} (h : Below w.heap.size w x) : ∃ y, x = ext w y := ⟨x, (ext_of h).symm⟩
theorem below_ext {w w' : World} (h : ∃ x, w' = ext w x) : Below w.heap.size w w' := by
  obtain ⟨x, rfl⟩ := h; exact ext_below w x
theorem below_drewN (w : World) (n : Nat) : Below w.heap.size w (w.drewN n) := ⟨rfl, rfl, rfl, Nat.le_refl _, fun _ _ => rfl⟩
theorem below_up {w x y : World} (h : Below w.heap.size w x) (k : Below x.heap.size x y) : Below w.heap.size w y := h.trans (k.mono h.size)
theorem ext_ext (w x y : World) : ∃ z, ext (ext w x) y = ext w z := ex_ext (below_up (ext_below w x) (ext_below _ y))
theorem below_alloc (w : World) (o : Obj) : Below w.heap.size w (w.alloc o) := (Below.refl _ _).alloc (Nat.le_refl _) o
theorem refl_ext (w : World) : ∃ x, w = ext w x := ex_ext (Below.refl _ _)
@[go_sem] theorem cell?_ext (w x : World) (b o : Nat) (h : b < w.heap.size) : (ext w x).cell? ⟨b, o, none⟩ = w.cell? ⟨b, o, none⟩ := (ext_below w x).cell (p := ⟨b, o, none⟩) h
@[go_sem] theorem frozen?_ext (w x : World) (b o : Nat) (h : b < w.heap.size) : (ext w x).frozen? ⟨b, o, none⟩ = w.frozen? ⟨b, o, none⟩ := (ext_below w x).frozen (p := ⟨b, o, none⟩) h
theorem size_ext (w x : World) : w.heap.size ≤ (ext w x).heap.size := (ext_below w x).size
theorem heap_ext (w x : World) (b : Nat) (h : b < w.heap.size) : (ext w x).heap[b]? = w.heap[b]? := (ext_below w x).block b h
@[go_sem] theorem cell?_ext_alloc_old (w x : World) (a : Obj) (b o : Nat) (h : b < w.heap.size) : (ext (w.alloc a) x).cell? ⟨b, o, none⟩ = w.cell? ⟨b, o, none⟩ := by
  rw [cell?_ext _ _ _ _ (by simp; omega), World.cell?_alloc_past _ _ _ h]
@[go_sem] theorem cell?_ext_alloc_new (w x : World) (c : Array Value) (t : TypeId) (o : Nat) : (ext (w.alloc (.cells c t)) x).cell? ⟨w.heap.size, o, none⟩ = c[o]? := by
  rw [cell?_ext _ _ _ _ (by simp), World.cell?_alloc_new]
/-- A slice's header. -/
structure Hd (w : World) (oa : Option Addr) (len cap b off : Nat) : Prop where
  hat : 0 < len → oa = some ⟨b, off, none⟩
  hcap : len ≤ cap
  hmax : cap ≤ maxLen
  hsml : len ≤ 140737488351232
  hblk : 0 < len → b < w.heap.size
theorem Hd.len {w : World} {oa : Option Addr} {len cap b off : Nat} (h : Hd w oa len cap b off) : len ≤ 9223372036854775807 := by
  have h1 := h.hsml; omega
/-- A slice whose elements are one cell each reads as a list of values. -/
def Sl (w : World) (v : Value) (l : List Value) : Prop :=
  ∃ oa cap b off, v = .slice oa l.length cap ∧ Hd w oa l.length cap b off ∧ ∀ i, i < l.length → w.cell? ⟨b, off + i, none⟩ = some (l.getD i undef)
theorem Sl.up {w w' : World} {v : Value} {l : List Value} (h : Sl w v l) (hb : Below w.heap.size w w') : Sl w' v l := by
  obtain ⟨oa, cap, b, off, rfl, hd, hc⟩ := h
  refine ⟨oa, cap, b, off, rfl, ⟨hd.hat, hd.hcap, hd.hmax, hd.hsml, fun h => Nat.lt_of_lt_of_le (hd.hblk h) hb.size⟩, fun i hi => ?_⟩
  rw [hb.cell (p := ⟨b, off + i, none⟩) (hd.hblk (by omega))]
  exact hc i hi
theorem Sl.nil (w : World) : Sl w (.slice none 0 0) [] := ⟨none, 0, 0, 0, rfl, ⟨fun h => absurd h (Nat.lt_irrefl 0), Nat.le_refl _, by simp [maxLen], by simp, fun h => absurd h (Nat.lt_irrefl 0)⟩, fun i hi => absurd hi (Nat.not_lt_zero i)⟩
/-- The address of an element, whatever the slice's make. -/
theorem index_any {P : Program} {w : World} {oa : Option Addr} {b off len cap : Nat} (T E : TypeId) (hT : P.underlying T = some (.slice E)) (hE : (P.info? E).map (·.size) = some 1) (h : Hd w oa len cap b off) :
    ∀ (W : World) (k : IntKind) (i : Int), 0 ≤ i → i < len → (Instr.indexAt T (.slice oa len cap) (.int k i)).run P W = .ok (.pointer (some ⟨b, off + i.toNat, none⟩)) W := by
  intro W k i h0 h1
  rw [h.hat (by omega)]
  have he : P.elem T = E := by simp [Program.elem, hT]
  rw [run_indexAt_slice W T ⟨b, off, none⟩ len cap k i (by rw [he]; exact hT), if_pos ⟨h0, h1⟩, he]
  cases hq : P.info? E with
  | none => simp [hq] at hE
  | some inf =>
    have hs : inf.size = 1 := by simpa [hq] using hE
    simp [sizeOf, typeInfo, hq, hs, Result.andThen, Addr.add]
def ints (l : List Int) : List Value := l.map (Value.int .i64)
@[simp] theorem ints_length (l : List Int) : (ints l).length = l.length := by simp [ints]
theorem ints_getD (l : List Int) (i : Nat) (h : i < l.length) : (ints l).getD i undef = .int .i64 (l.getD i 0) := by
  simp [ints, List.getD, h]
/-- .. as a list of ints -/
def IntsAt (w : World) (v : Value) (l : List Int) : Prop := Sl w v (ints l)
theorem IntsAt.up {w w' : World} {v : Value} {l : List Int} (h : IntsAt w v l) (hb : Below w.heap.size w w') : IntsAt w' v l := Sl.up h hb
theorem IntsAt.open {w : World} {v : Value} {l : List Int} (h : IntsAt w v l) :
    ∃ oa cap b off, v = .slice oa l.length cap ∧ Hd w oa l.length cap b off ∧ ∀ i, i < l.length → w.cell? ⟨b, off + i, none⟩ = some (.int .i64 (l.getD i 0)) := by
  obtain ⟨oa, cap, b, off, rfl, hd, hc⟩ := h
  simp only [ints_length] at hd hc ⊢
  exact ⟨oa, cap, b, off, rfl, hd, fun i hi => by rw [hc i hi, ints_getD l i hi]⟩
/-- a slice of slices of ints -/
def RowsAt (w : World) (v : Value) (ll : List (List Int)) : Prop :=
  ∃ vs, Sl w v vs ∧ vs.length = ll.length ∧ ∀ i, i < ll.length → IntsAt w (vs.getD i undef) (ll.getD i [])
theorem RowsAt.up {w w' : World} {v : Value} {l : List (List Int)} (h : RowsAt w v l) (hb : Below w.heap.size w w') : RowsAt w' v l := by
  obtain ⟨vs, h1, h2, h3⟩ := h
  exact ⟨vs, h1.up hb, h2, fun i hi => (h3 i hi).up hb⟩
theorem RowsAt.open {w : World} {v : Value} {ll : List (List Int)} (h : RowsAt w v ll) :
    ∃ oa cap b off, v = .slice oa ll.length cap ∧ Hd w oa ll.length cap b off ∧ ∀ i, i < ll.length →
      ∃ oi ci bi fi, w.cell? ⟨b, off + i, none⟩ = some (.slice oi (ll.getD i []).length ci) ∧ Hd w oi (ll.getD i []).length ci bi fi ∧
        (∀ j, j < (ll.getD i []).length → w.cell? ⟨bi, fi + j, none⟩ = some (.int .i64 ((ll.getD i []).getD j 0))) ∧ IntsAt w (.slice oi (ll.getD i []).length ci) (ll.getD i []) := by
  obtain ⟨vs, ⟨oa, cap, b, off, rfl, hd, hc⟩, h2, h3⟩ := h
  rw [h2] at hd hc ⊢
  refine ⟨oa, cap, b, off, rfl, hd, fun i hi => ?_⟩
  have h4 := h3 i hi
  obtain ⟨oi, ci, bi, fi, he, hdi, hci⟩ := h4.open
  refine ⟨oi, ci, bi, fi, ?_, hdi, hci, ?_⟩
  · rw [hc i hi, he]
  · rw [← he]; exact h4
/-- Cells of a block, from an offset on, loaded as one value. -/
theorem run_loadVar_sub {P : Program} (w : World) (g off n : Nat) (t ty : TypeId) (cs : Array Value) (fr : Nat × Nat) (d : TypeDesc) (hg : w.heap[g]? = some (.cells cs t fr))
    (hu : P.underlying ty = some d) (hd : (match d with | .struct _ | .array _ _ => true | _ => false) = true) (hi : (P.info? ty).map (·.size) = some n) (hs : off + n ≤ cs.size) :
    (loadVar ty ⟨g, off, none⟩).run P w = .ok (.agg (cs.extract off (off + n))) w := by
  have hlen : (cs.extract off (off + n)).toList.length = n := by simp; omega
  have hl : (loadCells ⟨g, off, none⟩ (cs.extract off (off + n)).toList.length).run P w = .ok (cs.extract off (off + n)).toList.toArray w :=
    run_loadCells_list (P := P) w ⟨g, off, none⟩ (cs.extract off (off + n)).toList (fun j v hv => by
      have hadd : (⟨g, off, none⟩ : Addr).add j = ⟨g, off + j, none⟩ := by unfold Addr.add; split <;> simp_all
      rw [hadd, cell_of_row w g (off + j) cs t fr hg]
      have hj : j < n := by
        have := (List.getElem?_eq_some_iff.1 hv).1
        omega
      rw [← hv]
      simp [hj])
  rw [hlen] at hl
  simp only [Array.toArray_toList] at hl
  cases hq : P.info? ty with
  | none => simp [hq] at hi
  | some i =>
    have hs' : i.size = n := by simpa [hq] using hi
    have hagg : (isAgg ty).run P w = .ok true w := by
      unfold isAgg
      rw [Sem.run_bind, run_underlying hu w]
      cases d <;> simp_all
    simp [loadVar, Sem.run_bind, hagg, sizeOf, typeInfo, hq, hs', hl]
/-- .. as an operation -/
theorem wpList_load_sub {P : Program} {ops : Array Oper} {rest : List Oper} {o : Oper} {a : Act} {w : World} {Q : Exit → Act → World → Prop} (hgd : o.guard = none) (ty : TypeId) (x : Operand) (ho : o.op = .load ty x)
    (g off n : Nat) (hx : a.eval x = .pointer (some ⟨g, off, none⟩)) (t : TypeId) (cs B : Array Value) (fr : Nat × Nat) (d : TypeDesc) (hg : w.heap[g]? = some (.cells cs t fr))
    (hu : P.underlying ty = some d) (hd : (match d with | .struct _ | .array _ _ => true | _ => false) = true) (hi : (P.info? ty).map (·.size) = some n) (hs : off + n ≤ cs.size) (hB : cs.extract off (off + n) = B)
    (h : wpList P ops Q rest (a.put o.dst (.agg B)) w) : wpList P ops Q (o :: rest) a w := by
  subst hB
  refine wpList_plain hgd fun K hK => ?_
  unfold Oper.wp execOp
  simp only [ho, hx, Instr.loadAt, Instr.sureAddr, Sem.run_bind, Sem.run_pure, Result.andThen_ok, run_loadVar_sub w g off n t ty cs fr d hg hu hd hi hs]
  exact hK _ _ h
theorem b_drewN {B : Nat} {w v : World} (h : Below B w v) (n : Nat) : Below B w (v.drewN n) := h.trans ⟨rfl, rfl, rfl, Nat.le_refl _, fun _ _ => rfl⟩
theorem b_ext {B : Nat} {w v : World} (h : Below B w v) (hB : B ≤ v.heap.size) (x : World) : Below B w (ext v x) := h.trans ((ext_below v x).mono hB)
theorem b_ext' {w v : World} (h : Below w.heap.size w v) (x : World) : Below w.heap.size w (ext v x) := b_ext h h.size x
theorem b_alloc' {w v : World} (h : Below w.heap.size w v) (o : Obj) : Below w.heap.size w (v.alloc o) := h.alloc h.size o
/-- a call's contract where the world has grown, met in a region that draws its order -/
theorem calls_in {P : Program} {f : FuncId} {args : Array Value} {w x : World} {v : Value}
    (h : Calls P f args (ext w x) fun e w' => e = .returned v ∧ ∃ y, w' = ext (ext w x) y) : Calls P f args (ext w x) fun e w' => e = .returned v ∧ ∃ y, w' = ext w y :=
  h.mono fun _ _ ⟨he, y, hy⟩ => ⟨he, by rw [hy]; exact ext_ext w x y⟩
/-- A region that draws its order, walked once in the text's order, where the callees may make memory. -/
theorem wp_region_ext {P : Program} {id : Nat} {Q : Exit → Act → World → Prop} {a : Act} {w : World} {l : List Oper} (hm : P.follows .mixedOrders = true) (hB : Region.lexB .any l.toArray = true)
    (h : wpQuiet P l.toArray (fun w' => ∃ x, w' = ext w x) (fun a' => ∀ w', (∃ x, w' = ext w x) → Q .normal a' w') l a) : (Code.region id l.toArray true).wp P Q a w :=
  wp_region_quiet (C := fun w' => ∃ x, w' = ext w x) hm hB (ex_ext (below_drewN w 1)) (by simpa using h)
end Go.Cm

/- A region that draws its order: the operations that only look are taken first, then those that must come one behind the other and may change memory. Conditions: none. -/
namespace Go.Cm
open Go.RowKit

def actQ (C : World → Prop) (K : Act → World → Prop) : Exit → Act → World → Prop
  | .normal, a, w => C w ∧ K a w
  | _, _, _ => False
def noQ : Exit → Act → World → Prop := fun _ _ _ => False
def wpAct (P : Program) (ops : Array Oper) (C : World → Prop) (Q : Act → World → Prop) : List Oper → Act → World → Prop
  | [], a, w => Q a w
  | o :: rest, a, w => wpList P ops (actQ C (wpAct P ops C Q rest)) [o] a w
section
variable {P : Program} {ops : Array Oper} {md : Region.Mode} {C : World → Prop}

def wpAnyM (P : Program) (md : Region.Mode) (ops : Array Oper) (C : World → Prop) (Q : Act → World → Prop) : Nat → Array Bool → Act → World → Prop
  | 0, listed, a, w => C w ∧ Region.ready md ops listed = [] ∧ Q a w
  | fuel + 1, listed, a, w => C w ∧ (Region.ready md ops listed = [] → Q a w) ∧
    ∀ i ∈ Region.ready md ops listed, wpOp P ops noQ i (wpAnyM P md ops C Q fuel (listed.setIfInBounds i true)) a w
theorem wp_exits {o : Oper} {a : Act} {w : World} {K : Act → World → Prop} {Q1 Q2 : Exit → Act → World → Prop} (h1 : ∀ c a w, ¬ Q1 (.panic c) a w) (h2 : ¬ LetsOut Q1) (h : o.wp P a w K Q1) : o.wp P a w K Q2 := by
  unfold Oper.wp at *
  generalize (execOp a.eval o).run P w = r at *
  cases r with
  | ok n w' =>
    cases n <;> simp only [Oper.upon] at h ⊢ <;>
      first
        | exact h
        | exact Calls.mono h (fun e w'' he => by cases e <;> first | exact he | exact (h1 _ _ _ he).elim | exact (h2 he).elim)
        | exact Rows.mono h (fun _ _ he => he)
  | halt x w' => cases x <;> simp only [Oper.upon] at h ⊢ <;> first | exact h.elim | exact (h1 _ _ _ h).elim
theorem noQ_out : ¬ LetsOut noQ := fun ⟨_, _, h⟩ => h
theorem actQ_out {K : Act → World → Prop} : ¬ LetsOut (actQ C K) := fun ⟨_, _, h⟩ => h
theorem wpAny_of_M {Q : Act → World → Prop} {Q' : Exit → Act → World → Prop} (hQ : ∀ a w, C w → Q a w → Q' .normal a w) : ∀ (fuel : Nat) (listed : Array Bool) (a : Act) (w : World),
    wpAnyM P md ops C Q fuel listed a w → wpAny P md ops Q' fuel listed a w
  | 0, _, _, _, h => ⟨h.2.1, hQ _ _ h.1 h.2.2⟩
  | fuel + 1, listed, a, w, h => ⟨fun h0 => hQ _ _ h.1 (h.2.1 h0), fun i hi => by
      have h1 := wpOp_mono (fun a w => wpAny_of_M (Q' := Q') hQ fuel _ a w) (h.2.2 i hi)
      unfold wpOp at h1 ⊢
      split
      · rename_i ho; simpa [ho] using h1
      · rename_i o ho
        simp only [ho] at h1
        split
        · rename_i hw
          simp only [hw, if_true] at h1
          rcases h1 with h1 | ⟨-, h1⟩
          · exact .inl (wp_exits (fun _ _ _ h => h) noQ_out h1)
          · exact (noQ_out h1).elim
        · rename_i hw; simpa [hw] using h1⟩
/-- an operation that is no call of a Go function -/
def noCall : Op → Bool
  | .call c => (match c.callee with | .builtin .len | .builtin .cap | .builtin .min | .builtin .max => true | _ => false)
  | .go _ | .defer _ | .panic _ | .send .. | .recv .. | .select .. => false
  | _ => true
theorem not_enter_v {s : Sem Value} {w w' : World} {f : FuncId} {args : Array Value} : (s >>= fun x => pure (Next.value x) : Sem Next).run P w ≠ .ok (.enter f args) w' := by
  rw [Sem.run_bind]
  cases s.run P w <;> simp [Result.andThen]
theorem not_enter_u {s : Sem Unit} {w w' : World} {f : FuncId} {args : Array Value} : (s >>= fun _ => pure Next.skip : Sem Next).run P w ≠ .ok (.enter f args) w' := by
  rw [Sem.run_bind]
  cases s.run P w <;> simp [Result.andThen]
/-- in every world of the class this operation gives v and leaves the world -/
def Yin (P : Program) (ops : Array Oper) (C : World → Prop) (o : Oper) (v : Value) (a : Act) : Prop :=
  (Region.wanted o (yielded ops a.tmps) = true ∧ ∀ w, C w → (execOp a.eval o).run P w = .ok (.value v) w ∨ ((execOp a.eval o).run P w = .ok .skip w ∧ v = undef)) ∨
  (Region.wanted o (yielded ops a.tmps) = false ∧ v = undef)
theorem Yin.of_same {o : Oper} {v : Value} {a a' : Act} (hy : Yin P ops C o v a) (he : execOp a'.eval o = execOp a.eval o)
    (hw : Region.wanted o (yielded ops a'.tmps) = Region.wanted o (yielded ops a.tmps)) : Yin P ops C o v a' := by
  unfold Yin at *
  rw [he, hw]
  exact hy
theorem Yin.wpOp {i : Nat} {o : Oper} {v : Value} {a : Act} {w : World} (hC : C w) (hi : ops[i]? = some o) (hy : Yin P ops C o v a)
    {K : Act → World → Prop} (h : K (a.put o.dst v) w) : wpOp P ops noQ i K a w := by
  unfold Go.wpOp
  simp only [hi]
  rcases hy with ⟨hw, hv⟩ | ⟨hw, rfl⟩
  · simp only [hw, if_true, Oper.wp]
    rcases hv w hC with hx | ⟨hx, he⟩
    · rw [hx]; exact .inl h
    · subst he; rw [hx]; exact .inl h
  · simp only [hw, Bool.false_eq_true, if_false]; exact h
theorem mOp_put {j : Nat} {oi oj : Oper} {v : Value} (hj : ops[j]? = some oj) (hap : oi.apart ops oj = true)
    (hsi : ∀ cs b, oi.op ≠ .select cs b) (hsj : ∀ cs b, oj.op ≠ .select cs b) {K : Act → World → Prop} {a : Act} {w : World}
    (hy : Yin P ops C oi v a) (h : wpOp P ops noQ j K (a.put oi.dst v) w) :
    wpOp P ops noQ j (fun a' w' => Yin P ops C oi v a' ∧ K (a'.put oi.dst v) w') a w := by
  obtain ⟨h1, h2, h3⟩ := Oper.apart_spec hap
  have keep : ∀ (a : Act), Yin P ops C oi v a → ∀ u, Yin P ops C oi v (a.put oj.dst u) := fun a hy u =>
    hy.of_same (execOp_put oi hsi a oj.dst u h3) (wanted_put oi a oj.dst u h3)
  have keepD : ∀ d, Yin P ops C oi v { a with defers := d :: a.defers } := fun d => hy.of_same rfl rfl
  unfold wpOp at *
  simp only [hj] at *
  rw [wanted_put oj a oi.dst v h1] at h
  split
  · rename_i hw
    simp only [hw, if_true] at h
    rcases h with h | ⟨_, hlets⟩
    case inr => exact (noQ_out hlets).elim
    refine .inl ?_
    unfold Oper.wp at *
    rw [execOp_put oj hsj a oi.dst v h1] at h
    generalize (execOp a.eval oj).run P w = r at *
    cases r with
    | ok n w' =>
      cases n <;> simp only [Oper.upon] at h ⊢
      case value u => exact ⟨keep a hy u, by rw [← Act.put_comm a v u h2]; exact h⟩
      case skip => exact ⟨keep a hy _, by rw [← Act.put_comm a v undef h2]; exact h⟩
      case defer d =>
        refine ⟨keep _ (keepD d) _, ?_⟩
        rw [← Act.put_comm _ v undef h2, ← Act.put_defers]
        exact h
      case enter f args =>
        refine Calls.mono h fun e w'' he => ?_
        cases e with
        | returned u => exact ⟨keep a hy u, by rw [← Act.put_comm a v u h2]; exact he⟩
        | panicked c => exact (he : False).elim
        | outgrown => exact he
      case row row args => exact Rows.mono h fun u w'' he => ⟨keep a hy u, by rw [← Act.put_comm a v u h2]; exact he⟩
    | halt x w' =>
      cases x <;> simp only [Oper.upon] at h ⊢
      case panic u => exact (h : False).elim
  · rename_i hw
    simp only [hw] at h
    exact ⟨keep a hy _, by rw [← Act.put_comm a v undef h2]; exact h⟩
theorem wpAnyM_first {Q : Act → World → Prop} {i : Nat} {oi : Oper} {v : Value} (hi : ops[i]? = some oi) (hsel : ∀ (j : Nat) (o : Oper) cs b, ops[j]? = some o → o.op ≠ .select cs b) :
    ∀ (fuel : Nat) (listed : Array Bool) (a : Act) (w : World),
      (∀ j oj, ops[j]? = some oj → j ≠ i → listed.getD j true = false → (∀ e ∈ oj.after, Region.binds md e = true → e.on ≠ i) → oi.apart ops oj = true) →
      i ∈ Region.ready md ops listed → Yin P ops C oi v a →
      wpAnyM P md ops C Q fuel (listed.setIfInBounds i true) (a.put oi.dst v) w → wpAnyM P md ops C Q (fuel + 1) listed a w := by
  intro fuel
  induction fuel with
  | zero =>
    intro listed a w _ hr hy H
    refine ⟨H.1, fun h => (by rw [h] at hr; cases hr), fun j hj => ?_⟩
    by_cases hji : j = i
    · subst hji; exact hy.wpOp H.1 hi H
    · have := ready_mono hj hji
      rw [H.2.1] at this
      cases this
  | succ fuel ih =>
    intro listed a w hfree hr hy H
    refine ⟨H.1, fun h => (by rw [h] at hr; cases hr), fun j hj => ?_⟩
    by_cases hji : j = i
    · subst hji; exact hy.wpOp H.1 hi H
    · have h1 := H.2.2 j (ready_mono hj hji)
      obtain ⟨hjun, oj, hoj, hall⟩ := mem_ready.1 hj
      have hnot : ∀ e ∈ oj.after, Region.binds md e = true → e.on ≠ i := fun e he hb heq => by
        have h1 := hall e he hb
        have h0 := (mem_ready.1 hr).1
        rw [heq] at h1
        rcases Nat.lt_or_ge i listed.size with h' | h'
        · simp [h'] at h0 h1; rw [h0] at h1; cases h1
        · simp [Array.getElem?_eq_none h'] at h1
      have h2 := mOp_put hoj (hfree j oj hoj hji hjun hnot) (fun cs b => hsel i oi cs b hi) (fun cs b => hsel j oj cs b hoj) hy h1
      have hfree' : ∀ k ok, ops[k]? = some ok → k ≠ i → (listed.setIfInBounds j true).getD k true = false →
          (∀ e ∈ ok.after, Region.binds md e = true → e.on ≠ i) → oi.apart ops ok = true := fun k ok hk hki hun hno => by
        refine hfree k ok hk hki ?_ hno
        by_cases hjk : j = k
        · subst hjk; exact hjun
        · rw [getD_set_ne true hjk] at hun; exact hun
      refine wpOp_mono (fun a' w' h3 => ih (listed.setIfInBounds j true) a' w' hfree' (ready_mono hr (Ne.symm hji)) h3.1 ?_) h2
      rw [Array.setIfInBounds_comm _ _ hji]
      exact h3.2
def pick (l : List Oper) (o : List Nat) : List Oper := o.map fun i => l.getD i default
def mixA (md : Region.Mode) (ops : Array Oper) : List Nat → Array Bool → Bool
  | [], listed => Region.ready md ops listed == []
  | i :: r, listed => Region.ready md ops listed == [i] && mixA md ops r (listed.setIfInBounds i true)
def mixQ (md : Region.Mode) (ops : Array Oper) (o2 : List Nat) : List Nat → Array Bool → Bool
  | [], listed => mixA md ops o2 listed
  | i :: r, listed => (Region.ready md ops listed).contains i && Region.free md ops listed i && ((ops[i]?).map (fun o => noCall o.op)).getD false && mixQ md ops o2 r (listed.setIfInBounds i true)
def mixB (md : Region.Mode) (ops : Array Oper) (o1 o2 : List Nat) : Bool :=
  Region.noSelect ops && (o1.length + o2.length == ops.size) && mixQ md ops o2 o1 (Array.replicate ops.size false)
theorem wpAnyM_act {Q : Act → World → Prop} : ∀ (o2 : List Nat) (listed : Array Bool) (a : Act) (w : World), mixA md ops o2 listed = true → C w →
    wpAct P ops C Q (pick ops.toList o2) a w → wpAnyM P md ops C Q o2.length listed a w
  | [], listed, a, w, hB, hC, h => ⟨hC, by simpa [mixA] using hB, h⟩
  | i :: r, listed, a, w, hB, hC, h => by
    simp only [mixA, Bool.and_eq_true, beq_iff_eq] at hB
    obtain ⟨hr, hB'⟩ := hB
    have him : i ∈ Region.ready md ops listed := by rw [hr]; simp
    obtain ⟨_, o, ho, _⟩ := mem_ready.1 him
    have hol : ops.toList.getD i default = o := by rw [List.getD_eq_getElem?_getD, Array.getElem?_toList, ho]; rfl
    rw [List.length_cons]
    refine ⟨hC, fun h0 => (by rw [hr] at h0; cases h0), fun j hj => ?_⟩
    obtain rfl : j = i := by rw [hr] at hj; simpa using hj
    simp only [pick, List.map_cons, hol] at h
    have h' : wpList P ops (actQ C (wpAct P ops C Q (pick ops.toList r))) [o] a w := h
    unfold wpList at h'
    unfold wpOp
    simp only [ho]
    split
    · rename_i hw
      rw [if_pos hw] at h'
      rcases h' with h' | ⟨-, h'⟩
      · refine .inl (Oper.wp_mono ?_ (wp_exits (fun _ _ _ h => h) actQ_out h'))
        intro a' w' hh
        obtain ⟨hC', hk⟩ := (hh : actQ C (wpAct P ops C Q (pick ops.toList r)) .normal a' w')
        exact wpAnyM_act r _ a' w' hB' hC' hk
      · exact (actQ_out h').elim
    · rename_i hw
      rw [if_neg hw] at h'
      obtain ⟨hC', hk⟩ := (h' : actQ C (wpAct P ops C Q (pick ops.toList r)) .normal (a.put o.dst undef) w)
      exact wpAnyM_act r _ _ _ hB' hC' hk
theorem yin_of_qOp {o : Oper} {a : Act} {K : Act → Prop} (hn : noCall o.op = true)
    (h : if Region.wanted o (yielded ops a.tmps) then o.quiet P a C K else K (a.put o.dst undef)) : ∃ v, Yin P ops C o v a ∧ K (a.put o.dst v) := by
  by_cases hw : Region.wanted o (yielded ops a.tmps) = true
  · simp only [hw, if_true] at h
    obtain ⟨v, h1, h2⟩ := h
    refine ⟨v, .inl ⟨hw, fun w hC => ?_⟩, h2⟩
    have h3 := h1 w hC
    unfold Oper.quietAt at h3
    generalize hr : (execOp a.eval o).run P w = r at h3
    cases r with
    | halt x w' => simp [Oper.quietUpon] at h3
    | ok n w' =>
      cases n <;> simp only [Oper.quietUpon] at h3
      case value u => obtain ⟨rfl, rfl⟩ := h3; exact .inl rfl
      case skip => obtain ⟨rfl, rfl⟩ := h3; exact .inr ⟨rfl, rfl⟩
      case enter f args =>
        exfalso
        revert hr
        unfold execOp
        cases ho : o.op <;> simp only [ho, noCall] at hn ⊢ <;>
          first
            | (cases hn; done)
            | exact not_enter_v
            | exact not_enter_u
            | skip
        · simp
        · simp
        · rw [Sem.run_bind]; cases (asBool _).run P w <;> simp [Result.andThen]
        · split
          all_goals first | (simp; done) | skip
          all_goals first | (unfold runtimePanic; simp; done) | skip
          split
          all_goals first | (simp; done) | (unfold runtimePanic; simp; done) | skip
          simp only [Sem.run_bind]
          cases (program).run P w with
          | halt => simp [Result.andThen]
          | ok p w1 =>
            simp only [Result.andThen]
            cases (nilAhead _ _ _ _).run P w1 with
            | halt => simp
            | ok q w2 =>
              simp only []
              split <;> simp [unsupported]
        · rename_i c
          unfold resolve
          split at hn
          all_goals first | (cases hn; done) | skip
          all_goals rename_i hcal; simp only [hcal, Sem.run_bind, Sem.run_pure, Result.andThen_ok, invoke, builtin]
          all_goals
            generalize Sem.run P _ w = r
            cases r <;> simp [Result.andThen]
  · simp only [hw] at h
    exact ⟨undef, .inr ⟨by simpa using hw, rfl⟩, h⟩
theorem wpAnyM_quiet {Q : Act → World → Prop} (hs : Region.noSelect ops = true) (o2 : List Nat) {w : World} (hC : C w) : ∀ (o1 : List Nat) (listed : Array Bool) (a : Act), mixQ md ops o2 o1 listed = true →
    wpQuiet P ops C (fun a' => wpAct P ops C Q (pick ops.toList o2) a' w) (pick ops.toList o1) a → wpAnyM P md ops C Q (o1.length + o2.length) listed a w
  | [], listed, a, hB, h => by
    rw [List.length_nil, Nat.zero_add]
    exact wpAnyM_act o2 listed a w (by simpa [mixQ] using hB) hC h
  | i :: r, listed, a, hB, h => by
    simp only [mixQ, Bool.and_eq_true] at hB
    obtain ⟨⟨⟨hr, hf⟩, hn⟩, hB'⟩ := hB
    have him : i ∈ Region.ready md ops listed := by simpa using hr
    obtain ⟨_, o, ho, _⟩ := mem_ready.1 him
    have hol : ops.toList.getD i default = o := by rw [List.getD_eq_getElem?_getD, Array.getElem?_toList, ho]; rfl
    simp only [pick, List.map_cons, hol] at h
    have hn' : noCall o.op = true := by simpa [ho] using hn
    obtain ⟨v, hy, hK⟩ := yin_of_qOp (K := wpQuiet P ops C (fun a' => wpAct P ops C Q (pick ops.toList o2) a' w) (pick ops.toList r)) hn' h
    rw [List.length_cons, Nat.add_right_comm]
    exact wpAnyM_first ho (Region.noSelect_spec hs) _ listed a w (Region.free_spec ho hf) him hy (wpAnyM_quiet hs o2 hC r _ _ hB' hK)
/-- THE REGION: first 'o1' (they look alone), then 'o2' (each the only one that may come up then). -/
theorem wp_region_mix {id : Nat} {Q : Exit → Act → World → Prop} {a : Act} {w : World} {l : List Oper} (C : World → Prop) (o1 o2 : List Nat) (hm : P.follows .mixedOrders = true) (hB : mixB .any l.toArray o1 o2 = true) (hC : C w.drew)
    (h : wpQuiet P l.toArray C (fun a' => wpAct P l.toArray C (fun a'' w'' => C w'' → Q .normal a'' w'') (pick l o2) a' w.drew) (pick l o1) a) : (Code.region id l.toArray true).wp P Q a w := by
  simp only [mixB, Bool.and_eq_true, beq_iff_eq] at hB
  obtain ⟨⟨hs, hlen⟩, hB⟩ := hB
  refine wp_region_any hm ?_
  have h1 := wpAnyM_quiet (Q := fun a'' w'' => C w'' → Q .normal a'' w'') (md := .any) (w := w.drew) hs o2 hC o1 (Array.replicate l.toArray.size false) a hB (by simpa using h)
  rw [hlen] at h1
  exact wpAny_of_M (fun a w hC hq => hq hC) _ _ _ _ h1
/-- A world in which one block may have been written, and more has been laid. -/
noncomputable def chg (w : World) (row : Option Nat) (x : World) : World := @ite _ (w.grownBy x row) (Classical.propDecidable _) x w
theorem b_drew1 {B : Nat} {w v : World} (h : Below B w v) : Below B w v.drew := h.trans ⟨rfl, rfl, rfl, Nat.le_refl _, fun _ _ => rfl⟩
theorem grown_refl (w : World) (row : Option Nat) : w.grownBy w row := ⟨rfl, rfl, rfl, Nat.le_refl _, fun _ _ _ => rfl⟩
theorem grown_trans {w x y : World} {row : Option Nat} (h : w.grownBy x row) (k : x.grownBy y row) : w.grownBy y row :=
  ⟨k.os.trans h.os, k.tape.trans h.tape, k.output.trans h.output, Nat.le_trans h.size k.size, fun i hi hr => (k.block i (Nat.lt_of_lt_of_le hi h.size) hr).trans (h.block i hi hr)⟩
theorem grown_below {w x : World} (h : Below w.heap.size w x) (row : Option Nat) : w.grownBy x row := ⟨h.os, h.tape, h.output, h.size, fun k hk _ => h.block k hk⟩
theorem grown_drew (w : World) (row : Option Nat) : w.grownBy w.drew row := grown_below (below_drewN w 1) row
theorem chg_grown (w x : World) (row : Option Nat) : w.grownBy (chg w row x) row := by
  unfold chg; split
  · assumption
  · exact grown_refl w row
theorem chg_of {w x : World} {row : Option Nat} (h : w.grownBy x row) : chg w row x = x := by unfold chg; rw [if_pos h]
theorem ex_chg {w x : World} {row : Option Nat} (h : w.grownBy x row) : ∃ y, x = chg w row y := ⟨x, (chg_of h).symm⟩
@[go_sem] theorem cell?_chg (w x : World) (row : Option Nat) (b o : Nat) (h : b < w.heap.size) (hr : some b ≠ row) : (chg w row x).cell? ⟨b, o, none⟩ = w.cell? ⟨b, o, none⟩ := World.cell?_of_block ((chg_grown w x row).block b h hr)
@[go_sem] theorem frozen?_chg (w x : World) (row : Option Nat) (b o : Nat) (h : b < w.heap.size) (hr : some b ≠ row) : (chg w row x).frozen? ⟨b, o, none⟩ = w.frozen? ⟨b, o, none⟩ := World.frozen?_of_block ((chg_grown w x row).block b h hr)
/-- .. where one block is written -/
theorem wp_region_row {id : Nat} {Q : Exit → Act → World → Prop} {a : Act} {w : World} {l : List Oper} (row : Option Nat) (o1 o2 : List Nat) (hm : P.follows .mixedOrders = true) (hB : mixB .any l.toArray o1 o2 = true)
    (h : wpQuiet P l.toArray (fun w' => ∃ x, w' = chg w row x) (fun a' => wpAct P l.toArray (fun w' => ∃ x, w' = chg w row x) (fun a'' w'' => (∃ x, w'' = chg w row x) → Q .normal a'' w'') (pick l o2) a' w.drew) (pick l o1) a) : (Code.region id l.toArray true).wp P Q a w :=
  wp_region_mix (C := fun w' => ∃ x, w' = chg w row x) o1 o2 hm hB (ex_chg (grown_drew w row)) h
end
end Go.Cm

/- Slices that a call makes itself: owned, read, written, appended to. Conditions: none. -/
namespace Go.Cm
open Go.RowKit Go.Proofs

/-- A slice of one-cell elements that lies in a block of its own, from block B on, or nil. -/
def Own (w : World) (B : Nat) (E : TypeId) (v : Value) (xs : List Value) : Prop :=
  w.ownsRow B E 1 v xs.length xs ∧ xs.length ≤ 140737488351232
theorem Own.nil (w : World) (B : Nat) (E : TypeId) : Own w B E (.slice none 0 0) [] := ⟨World.ownsRow_nil w B E 1, by simp⟩
theorem Own.sl {w : World} {B : Nat} {E : TypeId} {v : Value} {xs : List Value} (h : Own w B E v xs) : Sl w v xs := by
  obtain ⟨⟨_, h⟩, hl⟩ := h
  rcases h with ⟨rfl, h0⟩ | ⟨g, cap, cur, rfl, hb, hg, hnc, hcm, hcs, htake⟩
  · obtain rfl : xs = [] := List.length_eq_zero_iff.1 h0
    exact Sl.nil w
  · refine ⟨some ⟨g, 0, none⟩, cap, g, 0, rfl, ⟨fun _ => rfl, hnc, hcm, hl, fun _ => (Array.getElem?_eq_some_iff.1 hg).1⟩, fun i hi => ?_⟩
    rw [cell_of_row w g (0 + i) cur E (0, 0) hg, Nat.zero_add]
    have h1 : xs[i]? = cur[i]? := by
      rw [← htake, List.getElem?_take, if_pos (by omega)]; simp
    rw [← h1]
    simp [List.getD, hi]
theorem Own.keep {w w' : World} {B : Nat} {E : TypeId} {v : Value} {xs : List Value} {row : Option Nat} (h : Own w B E v xs) (hg : w.grownBy w' row) (hne : v.ownBlock = none ∨ v.ownBlock ≠ row) : Own w' B E v xs := ⟨h.1.kept hg hne, h.2⟩
theorem Own.up {w w' : World} {B : Nat} {E : TypeId} {v : Value} {xs : List Value} (h : Own w B E v xs) (hb : Below w.heap.size w w') : Own w' B E v xs :=
  h.keep (row := none) ⟨hb.os, hb.tape, hb.output, hb.size, fun k hk _ => hb.block k hk⟩ (by cases v.ownBlock <;> simp)
theorem Own.lt {w : World} {B : Nat} {E : TypeId} {v : Value} {xs : List Value} (h : Own w B E v xs) : ∀ k, v.ownBlock = some k → B ≤ k ∧ k < w.heap.size := h.1.lt
theorem below_grown {B : Nat} {w0 w w' : World} {E : TypeId} {v : Value} {xs : List Value} (h : Below B w0 w) (hB : B ≤ w.heap.size) (ho : Own w B E v xs) (hg : w.grownBy w' v.ownBlock) : Below B w0 w' :=
  h.grown hg hB fun k hk => (ho.lt k hk).1
/-- what an owned slice is when it has elements -/
theorem Own.cases {w : World} {B : Nat} {E : TypeId} {v : Value} {xs : List Value} (h : Own w B E v xs) :
    ∃ oa cap g, v = .slice oa xs.length cap ∧ Hd w oa xs.length cap g 0 ∧ (0 < xs.length → v.ownBlock = some g ∧ B ≤ g) ∧ (∀ i, i < xs.length → w.cell? ⟨g, i, none⟩ = some (xs.getD i undef)) ∧ (∀ i, i < xs.length → w.frozen? ⟨g, i, none⟩ = false) ∧
      ∀ i u, i < xs.length → Own (w.setCell ⟨g, i, none⟩ u) B E v (xs.set i u) ∧ w.grownBy (w.setCell ⟨g, i, none⟩ u) (some g) := by
  obtain ⟨⟨h0, h⟩, hl⟩ := h
  rcases h with ⟨rfl, hx⟩ | ⟨g, cap, cur, rfl, hb, hg, hnc, hcm, hcs, htake⟩
  · obtain rfl : xs = [] := List.length_eq_zero_iff.1 hx
    exact ⟨none, 0, 0, rfl, ⟨fun h => absurd h (Nat.lt_irrefl 0), Nat.le_refl _, by simp [maxLen], by simp, fun h => absurd h (Nat.lt_irrefl 0)⟩, fun h => absurd h (Nat.lt_irrefl 0), fun i hi => absurd hi (Nat.not_lt_zero i), fun i hi => absurd hi (Nat.not_lt_zero i), fun i u hi => absurd hi (Nat.not_lt_zero i)⟩
  · have hown : w.ownsRow B E 1 (.slice (some ⟨g, 0, none⟩) xs.length cap) xs.length xs := ⟨h0, .inr ⟨g, cap, cur, rfl, hb, hg, hnc, hcm, hcs, htake⟩⟩
    refine ⟨some ⟨g, 0, none⟩, cap, g, rfl, ⟨fun _ => rfl, hnc, hcm, hl, fun _ => (Array.getElem?_eq_some_iff.1 hg).1⟩, fun _ => ⟨rfl, hb⟩, fun i hi => ?_, fun i hi => hown.frozenAt i, fun i u hi => ?_⟩
    · rw [hown.cellAt i (by omega)]; simp [List.getD, hi]
    · have := hown.stored i u
      refine ⟨⟨?_, by simpa using hl⟩, this.2⟩
      rw [List.length_set]
      exact this.1
theorem add_off (b off j : Nat) : (⟨b, off, none⟩ : Addr).add j = ⟨b, off + j, none⟩ := by unfold Addr.add; split <;> simp_all
/-- 'append(s, x...)' of one-cell elements: s is owned, x reads as a list. -/
theorem run_app {P : Program} (w : World) (B : Nat) (t ty E : TypeId) (z : Value) (bytes : Nat) (ht : P.underlying t = some (.slice E)) (hinf : (P.info? E).map (fun i => (i.zero, i.size, i.bytes)) = some (some z, 1, bytes)) (hz : z.cells.size = 1) (hby : bytes ≤ 24)
    (v : Value) (xs : List Value) (hown : Own w B E v xs) (xv : Value) (news : List Value) (hx : Sl w xv news) (h1 : ∀ u ∈ news, u.oneCell' = true) (hlen : xs.length + news.length ≤ 4294967296) (hB : B ≤ w.heap.size) :
    ∃ v' w', (Builtin.append_ #[t, t] ty #[v, xv]).run P w = .ok v' w' ∧ Own w' B E v' (xs ++ news) ∧ w.grownBy w' v.ownBlock ∧ (∀ k, v'.ownBlock = some k → v.ownBlock = some k ∨ w.heap.size ≤ k) := by
  obtain ⟨i0, hi, hz0, hz1, hz2⟩ : ∃ i0, P.info? E = some i0 ∧ i0.zero = some z ∧ i0.size = 1 ∧ i0.bytes = bytes := by
    cases hq : P.info? E with
    | none => simp [hq] at hinf
    | some i0 => simp [hq] at hinf; exact ⟨i0, rfl, hinf.1, hinf.2.1, hinf.2.2⟩
  have hl1 : xs.length + news.length ≤ maxLen := by simp only [maxLen]; omega
  have hl2 : (xs.length + news.length) * bytes ≤ 140737488355328 := by
    have := Nat.mul_le_mul hlen hby; omega
  obtain ⟨oa, cx, b, off, rfl, hd, hc⟩ := hx
  have hlen' : xs.length + news.length ≤ 140737488351232 := by omega
  rcases hown with ⟨hrow, hsm⟩
  by_cases hn : news = []
  · subst hn
    refine ⟨v, w, ?_, ⟨by simpa using hrow, by simpa using hsm⟩, ⟨rfl, rfl, rfl, Nat.le_refl _, fun _ _ _ => rfl⟩, fun k hk => .inl hk⟩
    rcases hrow.2 with ⟨rfl, hx0⟩ | ⟨g, cap, cur, rfl, _, _, hnc, _⟩
    · cases oa <;> simp [Builtin.append_, run_underlying ht, sizeOf, typeInfo, hi, Builtin.lenOf, Builtin.firstCells, loadCells, loadCellsFrom]
    · cases oa <;> simp [Builtin.append_, run_underlying ht, sizeOf, typeInfo, hi, Builtin.lenOf, Builtin.firstCells, loadCells, loadCellsFrom, hnc, storeCells]
  · have hpos : 0 < news.length := List.length_pos_iff.2 hn
    obtain rfl := hd.hat hpos
    have hnews : ∀ j u, news[j]? = some u → w.cell? ((⟨b, off, none⟩ : Addr).add j) = some u := fun j u hu => by
      have hj := (List.getElem?_eq_some_iff.1 hu).1
      rw [add_off, hc j hj]; simp [List.getD, hu]
    rcases hrow.2 with ⟨rfl, hx0⟩ | ⟨g, cap, cur, rfl, hbg, hg, hnc, hcm, hcs, htake⟩
    · obtain rfl : xs = [] := List.length_eq_zero_iff.1 hx0
      obtain ⟨v', w', hr, ho, hgr, -⟩ := run_append_own (P := P) w w.heap.size t ty E i0 z 1 bytes ht hi hz0 hz1 hz2 hz (by decide) (.slice none 0 0) 0 [] (World.ownsRow_nil _ _ _ _) ⟨b, off, none⟩ news.length cx news (by simp) hnews h1 (by simpa using hl1) (by simpa using hl2) (Nat.le_refl _)
      have hk := ho.lt
      refine ⟨v', w', hr, ⟨⟨by simp, ?_⟩, by simp only [List.nil_append]; omega⟩, hgr, fun k hk' => .inr (hk k hk').1⟩
      simp only [Nat.zero_add, List.nil_append] at ho
      rcases ho.2 with ⟨h1, h2⟩ | ⟨g, cap, cur, h1, h2, h3⟩
      · exact .inl ⟨h1, by simpa using h2⟩
      · exact .inr ⟨g, cap, cur, h1, by omega, by simpa using h3⟩
    · by_cases hroom : xs.length + news.length ≤ cap
      · obtain ⟨w', hr, ho, hgr⟩ := run_append_fits (P := P) w B t ty E i0 1 ht hi hz1 g xs.length cap xs ⟨hrow.1, .inr ⟨g, cap, cur, rfl, hbg, hg, hnc, hcm, hcs, htake⟩⟩ ⟨b, off, none⟩ news.length cx news (by simp) hnews h1 hroom
        exact ⟨_, w', hr, ⟨by rw [List.length_append]; exact ho, by rw [List.length_append]; exact hlen'⟩, hgr, fun k hk => .inl hk⟩
      · have holds : ∀ j u, xs[j]? = some u → w.cell? ((⟨g, 0, none⟩ : Addr).add j) = some u := World.ownsRow.cells (g := g) hrow rfl
        have hsmall : xs.length + news.length ≤ 9223372036854775807 := by omega
        have hr := run_append_grow (P := P) w t ty E i0 z ht hi hz0 ⟨g, 0, none⟩ xs.length cap xs (by rw [hz1]; exact hrow.1) holds ⟨b, off, none⟩ news.length cx news (by rw [hz1]; simp) hnews (by omega) (by omega) (growslice_fits (by omega) (by rw [hz2]; exact hl2))
        have hge := grownCap_ge w (xs.length + news.length) cap E
        have hcm' : grownCap w (xs.length + news.length) cap E ≤ maxLen := grownCap_le_maxLen w _ cap E hl1
        refine ⟨_, _, hr, ⟨⟨by simp, .inr ⟨w.heap.size, _, _, by rw [List.length_append], hB, heap_alloc_new w.drew _, by rw [List.length_append]; exact hge, hcm', ?_, ?_⟩⟩, by rw [List.length_append]; exact hlen'⟩, ⟨rfl, rfl, rfl, by simp, fun k hk _ => Below.heap_alloc w.drew _ k hk⟩, fun k hk => .inr (by simp [Value.ownBlock] at hk; omega)⟩
        · simp only [Array.size_append, List.size_toArray, size_zeroCells, hz]
          omega
        · simp only [Array.toList_append, List.append_assoc]
          rw [← List.append_assoc, Nat.mul_one]
          exact List.take_left
theorem wpList_app {P : Program} {ops : Array Oper} {rest : List Oper} {o : Oper} {a : Act} {w : World} {Q : Exit → Act → World → Prop} (hgd : o.guard = none) (s x : Operand) (t : TypeId)
    (ho : o.op = .call { callee := .builtin .append, args := #[s, x], argTypes := #[t, t] })
    (B E : TypeId) (z : Value) (bytes : Nat) (ht : P.underlying t = some (.slice E)) (hinf : (P.info? E).map (fun i => (i.zero, i.size, i.bytes)) = some (some z, 1, bytes)) (hz : z.cells.size = 1) (hby : bytes ≤ 24)
    (v : Value) (xs : List Value) (hs : a.eval s = v) (hown : Own w B E v xs) (xv : Value) (news : List Value) (hxe : a.eval x = xv) (hx : Sl w xv news) (h1 : ∀ u ∈ news, u.oneCell' = true) (hlen : xs.length + news.length ≤ 4294967296) (hB : B ≤ w.heap.size)
    (h : ∀ v' w', Own w' B E v' (xs ++ news) → w.grownBy w' v.ownBlock → (∀ k, v'.ownBlock = some k → v.ownBlock = some k ∨ w.heap.size ≤ k) → wpList P ops Q rest (a.put o.dst v') w') : wpList P ops Q (o :: rest) a w := by
  obtain ⟨v', w', hr, h2, h3, h4⟩ := run_app (P := P) w B t o.type E z bytes ht hinf hz hby v xs hown xv news hx h1 hlen hB
  refine wpList_plain hgd fun K hK => ?_
  unfold Oper.wp execOp
  simp only [ho, resolve, invoke, builtin, Sem.run_bind, Sem.run_pure, Result.andThen_ok, List.map_toArray, List.map_cons, List.map_nil, hs, hxe, hr]
  exact hK _ _ (h v' w' h2 h3 h4)
/-- the slice over a block that has just been laid -/
theorem sl_lit (w : World) (c : Array Value) (E : TypeId) (hc : c.size ≤ 4294967296) : Sl (w.alloc (.cells c E)) (.slice (some ⟨w.heap.size, 0, none⟩) c.size c.size) c.toList := by
  refine ⟨some ⟨w.heap.size, 0, none⟩, c.size, w.heap.size, 0, by simp, ⟨fun _ => rfl, by simp, by simp only [maxLen]; omega, by simp; omega, fun _ => by simp⟩, fun i hi => ?_⟩
  have hi' : i < c.size := by simpa using hi
  rw [Nat.zero_add, World.cell?_alloc_new]
  simp [List.getD, hi']
theorem own_lit (w : World) (B : Nat) (c : Array Value) (E : TypeId) (hc : c.size ≤ 4294967296) (hB : B ≤ w.heap.size) : Own (w.alloc (.cells c E)) B E (.slice (some ⟨w.heap.size, 0, none⟩) c.size c.size) c.toList := by
  have h := World.ownsRow_lit (base := B) (e := E) (size := 1) w c c.size hB (by simp only [maxLen]; omega) (by simp)
  exact ⟨by simpa using h, by simp; omega⟩
/-- 'make([]T, n)' -/
theorem run_mk {P : Program} (t E : TypeId) (z : Value) (bytes n : Nat) (ht : P.underlying t = some (.slice E)) (hinf : (P.info? E).map (fun i => (i.zero, i.size, i.bytes)) = some (some z, 1, bytes)) (hz : z.cells = #[z]) (hby : bytes ≤ 24) (hn : n ≤ 4294967296) :
    ∀ W : World, (Instr.makeSlice t (.int .i64 (n : Int)) (.int .i64 (n : Int))).run P W = .ok (.slice (some ⟨W.heap.size, 0, none⟩) n n) (W.alloc (.cells (madeCells #[z] n) E)) := by
  intro W
  obtain ⟨i0, hi, hz0, hz1, hz2⟩ : ∃ i0, P.info? E = some i0 ∧ i0.zero = some z ∧ i0.size = 1 ∧ i0.bytes = bytes := by
    cases hq : P.info? E with
    | none => simp [hq] at hinf
    | some i0 => simp [hq] at hinf; exact ⟨i0, rfl, hinf.1, hinf.2.1, hinf.2.2⟩
  have hb : bytes * n ≤ 24 * 4294967296 := Nat.mul_le_mul hby hn
  have hb' : (i0.bytes : Int) * (n : Int) ≤ 281474976710656 := by
    rw [hz2, ← Int.natCast_mul]; omega
  have hr := run_make (P := P) W t E i0 z ht hi hz0 .i64 .i64 n n (by omega) (Int.le_refl _) hb' (by omega)
  simp only [Int.toNat_natCast, hz1, hz, Nat.mul_one] at hr
  exact hr
theorem own_made (W : World) (B E : TypeId) (z : Value) (n : Nat) (hB : B ≤ W.heap.size) (hn : n ≤ 4294967296) : Own (W.alloc (.cells (madeCells #[z] n) E)) B E (.slice (some ⟨W.heap.size, 0, none⟩) n n) (List.replicate n z) := by
  have h := own_lit W B (madeCells #[z] n) E (by rw [size_madeCells]; simpa using hn) hB
  rw [toList_madeCells_one] at h
  rw [size_madeCells] at h
  simpa using h
section
variable {w : World} {B : Nat} {E : TypeId} {g n cap : Nat} {xs : List Value}
theorem Own.len (h : Own w B E (.slice (some ⟨g, 0, none⟩) n cap) xs) : n = xs.length := by
  rcases h.1.2 with ⟨h1, _⟩ | ⟨g', cap', cur, h1, _⟩
  · cases h1
  · simp at h1; exact h1.2.1
theorem Own.row (h : Own w B E (.slice (some ⟨g, 0, none⟩) n cap) xs) : w.ownsRow B E 1 (.slice (some ⟨g, 0, none⟩) xs.length cap) xs.length xs := by
  have := h.len; subst this; exact h.1
theorem Own.cell (h : Own w B E (.slice (some ⟨g, 0, none⟩) n cap) xs) {i : Nat} (hi : i < xs.length) : w.cell? ⟨g, i, none⟩ = some (xs.getD i undef) := by
  rw [h.row.cellAt i (by omega)]; simp [List.getD, hi]
theorem Own.free (h : Own w B E (.slice (some ⟨g, 0, none⟩) n cap) xs) (i : Nat) : w.frozen? ⟨g, i, none⟩ = false := h.row.frozenAt i
theorem Own.store (h : Own w B E (.slice (some ⟨g, 0, none⟩) n cap) xs) (i : Nat) (u : Value) : Own (w.setCell ⟨g, i, none⟩ u) B E (.slice (some ⟨g, 0, none⟩) n cap) (xs.set i u) ∧ w.grownBy (w.setCell ⟨g, i, none⟩ u) (some g) := by
  have h1 := h.row.stored i u
  have hl := h.len
  subst hl
  exact ⟨⟨by rw [List.length_set]; exact h1.1, by rw [List.length_set]; exact h.2⟩, h1.2⟩
theorem Own.blk (h : Own w B E (.slice (some ⟨g, 0, none⟩) n cap) xs) : B ≤ g ∧ g < w.heap.size := h.lt g rfl
end
theorem Own.mono {w : World} {B B' E : Nat} {v : Value} {xs : List Value} (h : Own w B E v xs) (hB : B' ≤ B) : Own w B' E v xs :=
  ⟨⟨h.1.1, h.1.2.imp id fun ⟨g, cap, cur, h1, h2, h3⟩ => ⟨g, cap, cur, h1, by omega, h3⟩⟩, h.2⟩
theorem Own.upB {w w' : World} {B E n : Nat} {v : Value} {xs : List Value} (h : Own w B E v xs) (hn : w.heap.size ≤ n) (hb : Below n w w') : Own w' B E v xs := h.up (hb.mono hn)
end Go.Cm

/- Bytes as values, and as a text. Conditions: none. (For seats that do not build Look.) -/
namespace Go.Cm
open Go.RowKit Go.Proofs

def bytesV (l : List UInt8) : List Value := l.map fun b => .int .u8 (b.toNat : Int)
theorem bytesV_append (a b : List UInt8) : bytesV (a ++ b) = bytesV a ++ bytesV b := by simp [bytesV]
theorem bytesV_length (a : List UInt8) : (bytesV a).length = a.length := by simp [bytesV]
theorem bytesV_one (l : List UInt8) : ∀ u ∈ bytesV l, u.oneCell' = true := by
  intro u hu; simp only [bytesV, List.mem_map] at hu; obtain ⟨b, -, rfl⟩ := hu; rfl
/-- bytes of one's own, as a text -/
theorem run_bytes_string {P : Program} (w : World) (src dst e : TypeId) (hs : P.underlying src = some (.slice e)) (he : P.underlying e = some (.int .u8)) (hd : P.underlying dst = some .string)
    (v : Value) (l : List UInt8) (h : Sl w v (bytesV l)) : (convert src dst v).run P w = .ok (.string ⟨l.toArray⟩) w := by
  obtain ⟨oa, cap, b, off, rfl, hdr, hc⟩ := h
  rw [bytesV_length] at hdr hc ⊢
  rw [run_convert_bytes_string w src dst e oa l.length cap hs he hd]
  have hfold : ∀ (l : List UInt8) (s : ByteArray), (l.map fun b => (b.toNat : Int)).foldl (fun r n => r.push (UInt8.ofNat n.toNat)) s = ⟨s.data ++ l.toArray⟩ := by
    intro l
    induction l with
    | nil => intro s; simp
    | cons b l ih => intro s; simp only [List.map_cons, List.foldl_cons, ih]; simp [ByteArray.push]
  have hb : bytesV l = (l.map fun b => (b.toNat : Int)).map (Value.int .u8) := by simp [bytesV]
  cases oa with
  | none =>
    have h0 : l.length = 0 := by
      rcases Nat.eq_zero_or_pos l.length with h | h
      · exact h
      · have := hdr.hat h; cases this
    obtain rfl : l = [] := List.length_eq_zero_iff.1 h0
    unfold Conv.bytesToString
    simp
    rfl
  | some ad =>
    have hl : (loadCells ad l.length).run P w = .ok ((l.map fun b => (b.toNat : Int)).map (Value.int .u8)).toArray w := by
      rcases Nat.eq_zero_or_pos l.length with h | h
      · obtain rfl : l = [] := List.length_eq_zero_iff.1 h
        simp [loadCells, loadCellsFrom]
      · have := hdr.hat h
        obtain rfl : ad = ⟨b, off, none⟩ := Option.some.inj this
        rw [← hb]
        have h2 := run_loadCells_list (P := P) w ⟨b, off, none⟩ (bytesV l) (fun j v hv => by
          have hj : j < (bytesV l).length := (List.getElem?_eq_some_iff.1 hv).1
          rw [bytesV_length] at hj
          rw [add_off, hc j hj]; simp [List.getD, hv])
        rwa [bytesV_length] at h2
    rw [run_bytesToString w ad l.length cap _ hl, hfold]
    simp
end Go.Cm

/- What parts and ops stand for, in plain Lean; symbols of lengths and distances; the ops of a text. Conditions: as each says. -/
namespace Go.Cm

/-! symbols of numbers: bases and further bits -/
def spB (each i : Nat) : Nat := i / each - 1
def spBase (base each : Nat) : Nat → Nat
  | 0 => base
  | i + 1 => spBase base each i + 2 ^ spB each i
theorem spBase_step (base each i : Nat) : spBase base each (i + 1) = spBase base each i + 2 ^ spB each i := rfl
theorem spBase_mono (base each : Nat) {i j : Nat} (h : i ≤ j) : spBase base each i ≤ spBase base each j := by
  induction j with
  | zero => obtain rfl : i = 0 := by omega
            exact Nat.le_refl _
  | succ j ih =>
    rcases Nat.lt_or_eq_of_le h with h1 | rfl
    · rw [spBase_step]; exact Nat.le_trans (ih (by omega)) (Nat.le_add_right _ _)
    · exact Nat.le_refl _
/-! what ops and parts stand for -/
structure OpN where
  lit : Nat
  len : Int
  dist : Int
structure PtN where
  kind : Int
  text : ByteArray
  ops : List OpN
  lits : List Int
  dists : List Int
abbrev Byts := List UInt8
def copyN (b : Byts) (d : Nat) : Nat → Byts
  | 0 => b
  | k + 1 => copyN b d k ++ [(copyN b d k).getD ((copyN b d k).length - d) 0]
theorem copyN_len (b : Byts) (d : Nat) : ∀ k, (copyN b d k).length = b.length + k
  | 0 => rfl
  | k + 1 => by rw [copyN, List.length_append, copyN_len b d k, List.length_singleton]; omega
/-! the ops of a text -/
end Go.Cm

/- Slices of slices that a call makes itself. Conditions: none. -/
namespace Go.Cm
open Go.RowKit Go.Proofs

/-- a slice of slices reads as rows -/
def RowsG (w : World) (v : Value) (ll : List (List Value)) : Prop := ∃ vs, Sl w v vs ∧ vs.length = ll.length ∧ ∀ i, i < ll.length → Sl w (vs.getD i undef) (ll.getD i [])
theorem RowsG.up {w w' : World} {v : Value} {ll : List (List Value)} (h : RowsG w v ll) (hb : Below w.heap.size w w') : RowsG w' v ll := by
  obtain ⟨vs, h1, h2, h3⟩ := h
  exact ⟨vs, h1.up hb, h2, fun i hi => (h3 i hi).up hb⟩
theorem RowsG.open {w : World} {v : Value} {ll : List (List Value)} (h : RowsG w v ll) :
    ∃ oa cap b off, v = .slice oa ll.length cap ∧ Hd w oa ll.length cap b off ∧ ∀ i, i < ll.length →
      ∃ oi ci bi fi, w.cell? ⟨b, off + i, none⟩ = some (.slice oi (ll.getD i []).length ci) ∧ Hd w oi (ll.getD i []).length ci bi fi ∧
        (∀ j, j < (ll.getD i []).length → w.cell? ⟨bi, fi + j, none⟩ = some ((ll.getD i []).getD j undef)) ∧ Sl w (.slice oi (ll.getD i []).length ci) (ll.getD i []) := by
  obtain ⟨vs, ⟨oa, cap, b, off, rfl, hd, hc⟩, h2, h3⟩ := h
  rw [h2] at hd hc ⊢
  refine ⟨oa, cap, b, off, rfl, hd, fun i hi => ?_⟩
  have h4 := h3 i hi
  obtain ⟨oi, ci, bi, fi, he, hdi, hci⟩ := h4
  refine ⟨oi, ci, bi, fi, ?_, hdi, hci, ?_⟩
  · rw [hc i hi, he]
  · rw [← he]; exact h3 i hi
theorem getD_map_ints (ll : List (List Int)) (i : Nat) : (ll.map ints).getD i [] = ints (ll.getD i []) := by
  simp only [List.getD_eq_getElem?_getD, List.getElem?_map]
  cases ll[i]? <;> simp [ints]
theorem RowsG.ints {w : World} {v : Value} {ll : List (List Int)} (h : RowsG w v (ll.map ints)) : RowsAt w v ll := by
  obtain ⟨vs, h1, h2, h3⟩ := h
  refine ⟨vs, h1, by simpa using h2, fun i hi => ?_⟩
  have := h3 i (by simpa using hi)
  rwa [getD_map_ints] at this
structure OwnM (w : World) (B E E' : Nat) (v : Value) (vs : List Value) (ll : List (List Value)) : Prop where
  outer : Own w B E v vs
  len : vs.length = ll.length
  rows : ∀ i, i < ll.length → Own w B E' (vs.getD i undef) (ll.getD i [])
  apart : ∀ i j, i < ll.length → j < ll.length → i ≠ j → ∀ k, (vs.getD i undef).ownBlock = some k → (vs.getD j undef).ownBlock ≠ some k
  off : ∀ i, i < ll.length → ∀ k, (vs.getD i undef).ownBlock = some k → v.ownBlock ≠ some k
variable {w w' : World} {B E E' : Nat} {v : Value} {vs : List Value} {ll : List (List Value)}

theorem OwnM.nil (w : World) (B E E' : Nat) : OwnM w B E E' (.slice none 0 0) [] [] := ⟨Own.nil w B E, rfl, fun i hi => absurd hi (Nat.not_lt_zero i), fun i _ hi => absurd hi (Nat.not_lt_zero i), fun i hi => absurd hi (Nat.not_lt_zero i)⟩
theorem ne_of_row {u : Value} {row : Option Nat} (h : ∀ k, u.ownBlock = some k → row ≠ some k) : u.ownBlock = none ∨ u.ownBlock ≠ row := by
  cases hu : u.ownBlock with
  | none => exact .inl rfl
  | some k => exact .inr (fun e => h k hu e.symm)
/-- nothing of it is written -/
theorem OwnM.keep (h : OwnM w B E E' v vs ll) {row : Option Nat} (hg : w.grownBy w' row) (hv : ∀ k, v.ownBlock = some k → row ≠ some k) (hr : ∀ i, i < ll.length → ∀ k, (vs.getD i undef).ownBlock = some k → row ≠ some k) : OwnM w' B E E' v vs ll :=
  ⟨h.outer.keep hg (ne_of_row hv), h.len, fun i hi => (h.rows i hi).keep hg (ne_of_row (hr i hi)), h.apart, h.off⟩
theorem OwnM.up (h : OwnM w B E E' v vs ll) (hb : Below w.heap.size w w') : OwnM w' B E E' v vs ll :=
  h.keep (row := none) (grown_below hb none) (fun _ _ e => by cases e) (fun _ _ _ _ e => by cases e)
/-- a row that lies elsewhere than the matrix and is none of its blocks -/
def OwnM.free (v : Value) (vs : List Value) (row : Option Nat) : Prop := (∀ k, v.ownBlock = some k → row ≠ some k) ∧ ∀ i, i < vs.length → ∀ k, (vs.getD i undef).ownBlock = some k → row ≠ some k
theorem getD_append_left' {α : Type} {l m : List α} {i : Nat} {d : α} (h : i < l.length) : (l ++ m).getD i d = l.getD i d := by simp [List.getD, List.getElem?_append_left h]
theorem getD_append_one {α : Type} {l : List α} {x d : α} : (l ++ [x]).getD l.length d = x := by simp [List.getD]
theorem getD_set_ne' {α : Type} {l : List α} {i j : Nat} {x d : α} (h : i ≠ j) : (l.set i x).getD j d = l.getD j d := by simp [List.getD, h]
theorem getD_set_self' {α : Type} {l : List α} {i : Nat} {x d : α} (h : i < l.length) : (l.set i x).getD i d = x := by simp [List.getD, h]
/-- a row is appended: what append's law leaves -/
theorem OwnM.push (h : OwnM w B E E' v vs ll) {r : Value} {xs : List Value} (hr : Own w B E' r xs) (hf : OwnM.free v vs r.ownBlock) {v' : Value} {w0 : World} (hw0 : w.grownBy w0 none) (ho : Own w' B E v' (vs ++ [r])) (hg : w0.grownBy w' v.ownBlock) (hk : ∀ k, v'.ownBlock = some k → v.ownBlock = some k ∨ w0.heap.size ≤ k) :
    OwnM w' B E E' v' (vs ++ [r]) (ll ++ [xs]) := by
  have hg' : w.grownBy w' v.ownBlock := grown_trans ⟨hw0.os, hw0.tape, hw0.output, hw0.size, fun k hk _ => hw0.block k hk (by simp)⟩ hg
  have hvr : ∀ k, r.ownBlock = some k → v.ownBlock ≠ some k := fun k hk e => hf.1 k e hk
  have hrow : ∀ i, i < ll.length → Own w' B E' (vs.getD i undef) (ll.getD i []) := fun i hi => (h.rows i hi).keep hg' (ne_of_row (h.off i hi))
  have hl := h.len
  have idx : ∀ i, i < (ll ++ [xs]).length → (i < ll.length ∧ (vs ++ [r]).getD i undef = vs.getD i undef ∧ (ll ++ [xs]).getD i [] = ll.getD i []) ∨ (i = ll.length ∧ (vs ++ [r]).getD i undef = r ∧ (ll ++ [xs]).getD i [] = xs) := by
    intro i hi
    rw [List.length_append, List.length_singleton] at hi
    rcases Nat.lt_succ_iff_lt_or_eq.1 hi with h1 | rfl
    · exact .inl ⟨h1, getD_append_left' (by omega), getD_append_left' h1⟩
    · exact .inr ⟨rfl, by rw [← hl]; exact getD_append_one, getD_append_one⟩
  refine ⟨ho, by simp [hl], fun i hi => ?_, fun i j hi hj hne k hik => ?_, fun i hi k hik => ?_⟩
  · rcases idx i hi with ⟨h1, e1, e2⟩ | ⟨h1, e1, e2⟩
    · rw [e1, e2]; exact hrow i h1
    · rw [e1, e2]; exact hr.keep hg' (ne_of_row hvr)
  · rcases idx i hi with ⟨h1, e1, e2⟩ | ⟨h1, e1, e2⟩ <;> rcases idx j hj with ⟨h3, e3, e4⟩ | ⟨h3, e3, e4⟩ <;> rw [e1] at hik <;> rw [e3]
    · exact h.apart i j h1 h3 hne k hik
    · exact hf.2 i (by omega) k hik
    · intro e; exact hf.2 j (by omega) k e hik
    · omega
  · have hsz : w.heap.size ≤ w0.heap.size := hw0.size
    rcases idx i hi with ⟨h1, e1, e2⟩ | ⟨h1, e1, e2⟩ <;> rw [e1] at hik <;> intro e
    · rcases hk k e with h2 | h2
      · exact h.off i h1 k hik h2
      · have := (h.rows i h1).lt k hik; omega
    · rcases hk k e with h2 | h2
      · exact hvr k hik h2
      · have := hr.lt k hik; omega
/-- a row is replaced: the new one lies in the old one's block or in a later one -/
theorem OwnM.setRow {g : Nat} {n cap : Nat} (h : OwnM w B E E' (.slice (some ⟨g, 0, none⟩) n cap) vs ll) {i : Nat} (hi : i < ll.length) {r : Value} {xs : List Value} (hr : Own w' B E' r xs) (hg : w.grownBy w' (vs.getD i undef).ownBlock) (hk : ∀ k, r.ownBlock = some k → (vs.getD i undef).ownBlock = some k ∨ w.heap.size ≤ k) :
    OwnM (w'.setCell ⟨g, i, none⟩ r) B E E' (.slice (some ⟨g, 0, none⟩) n cap) (vs.set i r) (ll.set i xs) ∧ w'.grownBy (w'.setCell ⟨g, i, none⟩ r) (some g) := by
  have ho : Own w' B E (.slice (some ⟨g, 0, none⟩) n cap) vs := h.outer.keep hg (ne_of_row fun k hk e => h.off i hi k e hk)
  obtain ⟨h1, h2⟩ := ho.store i r
  have hgb := h.outer.blk
  have hvi : i < vs.length := by rw [h.len]; exact hi
  have hrg : ∀ k, r.ownBlock = some k → k ≠ g := fun k hk' e => by
    rcases hk k hk' with h3 | h3
    · exact h.off i hi k h3 (by rw [e]; rfl)
    · omega
  refine ⟨⟨h1, by simp [h.len], fun j hj => ?_, fun a b ha hb hne k hak => ?_, fun a ha k hak => ?_⟩, h2⟩
  · rw [List.length_set] at hj
    by_cases hij : i = j
    · subst hij; rw [getD_set_self' hvi, getD_set_self' hi]
      exact hr.keep h2 (ne_of_row fun k hk' e => hrg k hk' (by injection e with e; exact e.symm))
    · rw [getD_set_ne' hij, getD_set_ne' hij]
      exact ((h.rows j hj).keep hg (ne_of_row fun k hk e => h.apart i j hi hj hij k e hk)).keep h2 (ne_of_row fun k hk' e => h.off j hj k hk' (by simpa [Value.ownBlock] using e))
  · rw [List.length_set] at ha hb
    by_cases hia : i = a <;> by_cases hib : i = b
    · omega
    · subst hia
      rw [getD_set_self' hvi] at hak; rw [getD_set_ne' hib]
      rcases hk k hak with h3 | h3
      · exact h.apart i b hi hb hib k h3
      · intro e; have := (h.rows b hb).lt k e; omega
    · subst hib
      rw [getD_set_ne' hia] at hak; rw [getD_set_self' hvi]
      intro e
      rcases hk k e with h3 | h3
      · exact h.apart a i ha hi (fun q => hia q.symm) k hak h3
      · have := (h.rows a ha).lt k hak; omega
    · rw [getD_set_ne' hia] at hak; rw [getD_set_ne' hib]; exact h.apart a b ha hb hne k hak
  · rw [List.length_set] at ha
    by_cases hia : i = a
    · subst hia; rw [getD_set_self' hvi] at hak
      intro e; simp [Value.ownBlock] at e; exact hrg k hak e.symm
    · rw [getD_set_ne' hia] at hak; exact h.off a ha k hak
end Go.Cm
