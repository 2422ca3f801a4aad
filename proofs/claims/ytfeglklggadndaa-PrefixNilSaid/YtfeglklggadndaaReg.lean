/- A region that draws its order: the operations that only look are taken first, then those that must come one behind the other and may change memory. Conditions: none. -/
import Derived.Test.YtfeglklggadndaaMem
namespace Go.Cm
open Go.RowKit

def actQ (C : World → Prop) (K : Act → World → Prop) : Exit → Act → World → Prop
  | .normal, a, w => C w ∧ K a w
  | _, _, _ => False
def noQ : Exit → Act → World → Prop := fun _ _ _ => False

def wpAct (P : Program) (ops : Array Oper) (C : World → Prop) (Q : Act → World → Prop) : List Oper → Act → World → Prop
  | [], a, w => Q a w
  | o :: rest, a, w => wpList P ops (actQ C (wpAct P ops C Q rest)) [o] a w

section
variable {P : Program} {ops : Array Oper} {md : Region.Mode} {C : World → Prop}

def wpAnyM (P : Program) (md : Region.Mode) (ops : Array Oper) (C : World → Prop) (Q : Act → World → Prop) : Nat → Array Bool → Act → World → Prop
  | 0, listed, a, w => C w ∧ Region.ready md ops listed = [] ∧ Q a w
  | fuel + 1, listed, a, w => C w ∧ (Region.ready md ops listed = [] → Q a w) ∧
    ∀ i ∈ Region.ready md ops listed, wpOp P ops noQ i (wpAnyM P md ops C Q fuel (listed.setIfInBounds i true)) a w

theorem wpAnyM_C {Q : Act → World → Prop} {fuel : Nat} {listed : Array Bool} {a : Act} {w : World} (h : wpAnyM P md ops C Q fuel listed a w) : C w := by
  cases fuel with
  | zero => exact h.1
  | succ n => exact h.1

theorem wp_exits {o : Oper} {a : Act} {w : World} {K : Act → World → Prop} {Q1 Q2 : Exit → Act → World → Prop} (h1 : ∀ c a w, ¬ Q1 (.panic c) a w) (h2 : ¬ LetsOut Q1) (h : o.wp P a w K Q1) : o.wp P a w K Q2 := by
  unfold Oper.wp at *
  generalize (execOp a.eval o).run P w = r at *
  cases r with
  | ok n w' =>
    cases n <;> simp only [Oper.upon] at h ⊢ <;>
      first
        | exact h
        | exact Calls.mono h (fun e w'' he => by cases e <;> first | exact he | exact (h1 _ _ _ he).elim | exact (h2 he).elim)
        | exact Rows.mono h (fun _ _ he => he)
  | halt x w' => cases x <;> simp only [Oper.upon] at h ⊢ <;> first | exact h.elim | exact (h1 _ _ _ h).elim

theorem noQ_out : ¬ LetsOut noQ := fun ⟨_, _, h⟩ => h
theorem actQ_out {K : Act → World → Prop} : ¬ LetsOut (actQ C K) := fun ⟨_, _, h⟩ => h

theorem wpAny_of_M {Q : Act → World → Prop} {Q' : Exit → Act → World → Prop} (hQ : ∀ a w, C w → Q a w → Q' .normal a w) : ∀ (fuel : Nat) (listed : Array Bool) (a : Act) (w : World),
    wpAnyM P md ops C Q fuel listed a w → wpAny P md ops Q' fuel listed a w
  | 0, _, _, _, h => ⟨h.2.1, hQ _ _ h.1 h.2.2⟩
  | fuel + 1, listed, a, w, h => ⟨fun h0 => hQ _ _ h.1 (h.2.1 h0), fun i hi => by
      have h1 := wpOp_mono (fun a w => wpAny_of_M (Q' := Q') hQ fuel _ a w) (h.2.2 i hi)
      unfold wpOp at h1 ⊢
      split
      · rename_i ho; simpa [ho] using h1
      · rename_i o ho
        simp only [ho] at h1
        split
        · rename_i hw
          simp only [hw, if_true] at h1
          rcases h1 with h1 | ⟨-, h1⟩
          · exact .inl (wp_exits (fun _ _ _ h => h) noQ_out h1)
          · exact (noQ_out h1).elim
        · rename_i hw; simpa [hw] using h1⟩

/-- an operation that is no call of a Go function -/
def noCall : Op → Bool
  | .call c => (match c.callee with | .builtin .len | .builtin .cap | .builtin .min | .builtin .max => true | _ => false)
  | .go _ | .defer _ | .panic _ | .send .. | .recv .. | .select .. => false
  | _ => true

theorem not_enter_v {s : Sem Value} {w w' : World} {f : FuncId} {args : Array Value} : (s >>= fun x => pure (Next.value x) : Sem Next).run P w ≠ .ok (.enter f args) w' := by
  rw [Sem.run_bind]
  cases s.run P w <;> simp [Result.andThen]
theorem not_enter_u {s : Sem Unit} {w w' : World} {f : FuncId} {args : Array Value} : (s >>= fun _ => pure Next.skip : Sem Next).run P w ≠ .ok (.enter f args) w' := by
  rw [Sem.run_bind]
  cases s.run P w <;> simp [Result.andThen]

/-- in every world of the class this operation gives v and leaves the world -/
def Yin (P : Program) (ops : Array Oper) (C : World → Prop) (o : Oper) (v : Value) (a : Act) : Prop :=
  (Region.wanted o (yielded ops a.tmps) = true ∧ ∀ w, C w → (execOp a.eval o).run P w = .ok (.value v) w ∨ ((execOp a.eval o).run P w = .ok .skip w ∧ v = undef)) ∨
  (Region.wanted o (yielded ops a.tmps) = false ∧ v = undef)

theorem Yin.of_same {o : Oper} {v : Value} {a a' : Act} (hy : Yin P ops C o v a) (he : execOp a'.eval o = execOp a.eval o)
    (hw : Region.wanted o (yielded ops a'.tmps) = Region.wanted o (yielded ops a.tmps)) : Yin P ops C o v a' := by
  unfold Yin at *
  rw [he, hw]
  exact hy
theorem Yin.wpOp {i : Nat} {o : Oper} {v : Value} {a : Act} {w : World} (hC : C w) (hi : ops[i]? = some o) (hy : Yin P ops C o v a)
    {K : Act → World → Prop} (h : K (a.put o.dst v) w) : wpOp P ops noQ i K a w := by
  unfold Go.wpOp
  simp only [hi]
  rcases hy with ⟨hw, hv⟩ | ⟨hw, rfl⟩
  · simp only [hw, if_true, Oper.wp]
    rcases hv w hC with hx | ⟨hx, he⟩
    · rw [hx]; exact .inl h
    · subst he; rw [hx]; exact .inl h
  · simp only [hw, Bool.false_eq_true, if_false]; exact h

theorem mOp_put {j : Nat} {oi oj : Oper} {v : Value} (hj : ops[j]? = some oj) (hap : oi.apart ops oj = true)
    (hsi : ∀ cs b, oi.op ≠ .select cs b) (hsj : ∀ cs b, oj.op ≠ .select cs b) {K : Act → World → Prop} {a : Act} {w : World}
    (hy : Yin P ops C oi v a) (h : wpOp P ops noQ j K (a.put oi.dst v) w) :
    wpOp P ops noQ j (fun a' w' => Yin P ops C oi v a' ∧ K (a'.put oi.dst v) w') a w := by
  obtain ⟨h1, h2, h3⟩ := Oper.apart_spec hap
  have keep : ∀ (a : Act), Yin P ops C oi v a → ∀ u, Yin P ops C oi v (a.put oj.dst u) := fun a hy u =>
    hy.of_same (execOp_put oi hsi a oj.dst u h3) (wanted_put oi a oj.dst u h3)
  have keepD : ∀ d, Yin P ops C oi v { a with defers := d :: a.defers } := fun d => hy.of_same rfl rfl
  unfold wpOp at *
  simp only [hj] at *
  rw [wanted_put oj a oi.dst v h1] at h
  split
  · rename_i hw
    simp only [hw, if_true] at h
    rcases h with h | ⟨_, hlets⟩
    case inr => exact (noQ_out hlets).elim
    refine .inl ?_
    unfold Oper.wp at *
    rw [execOp_put oj hsj a oi.dst v h1] at h
    generalize (execOp a.eval oj).run P w = r at *
    cases r with
    | ok n w' =>
      cases n <;> simp only [Oper.upon] at h ⊢
      case value u => exact ⟨keep a hy u, by rw [← Act.put_comm a v u h2]; exact h⟩
      case skip => exact ⟨keep a hy _, by rw [← Act.put_comm a v undef h2]; exact h⟩
      case defer d =>
        refine ⟨keep _ (keepD d) _, ?_⟩
        rw [← Act.put_comm _ v undef h2, ← Act.put_defers]
        exact h
      case enter f args =>
        refine Calls.mono h fun e w'' he => ?_
        cases e with
        | returned u => exact ⟨keep a hy u, by rw [← Act.put_comm a v u h2]; exact he⟩
        | panicked c => exact (he : False).elim
        | outgrown => exact he
      case row row args => exact Rows.mono h fun u w'' he => ⟨keep a hy u, by rw [← Act.put_comm a v u h2]; exact he⟩
    | halt x w' =>
      cases x <;> simp only [Oper.upon] at h ⊢
      case panic u => exact (h : False).elim
  · rename_i hw
    simp only [hw] at h
    exact ⟨keep a hy _, by rw [← Act.put_comm a v undef h2]; exact h⟩

theorem wpAnyM_first {Q : Act → World → Prop} {i : Nat} {oi : Oper} {v : Value} (hi : ops[i]? = some oi) (hsel : ∀ (j : Nat) (o : Oper) cs b, ops[j]? = some o → o.op ≠ .select cs b) :
    ∀ (fuel : Nat) (listed : Array Bool) (a : Act) (w : World),
      (∀ j oj, ops[j]? = some oj → j ≠ i → listed.getD j true = false → (∀ e ∈ oj.after, Region.binds md e = true → e.on ≠ i) → oi.apart ops oj = true) →
      i ∈ Region.ready md ops listed → Yin P ops C oi v a →
      wpAnyM P md ops C Q fuel (listed.setIfInBounds i true) (a.put oi.dst v) w → wpAnyM P md ops C Q (fuel + 1) listed a w := by
  intro fuel
  induction fuel with
  | zero =>
    intro listed a w _ hr hy H
    refine ⟨H.1, fun h => (by rw [h] at hr; cases hr), fun j hj => ?_⟩
    by_cases hji : j = i
    · subst hji; exact hy.wpOp H.1 hi H
    · have := ready_mono hj hji
      rw [H.2.1] at this
      cases this
  | succ fuel ih =>
    intro listed a w hfree hr hy H
    refine ⟨H.1, fun h => (by rw [h] at hr; cases hr), fun j hj => ?_⟩
    by_cases hji : j = i
    · subst hji; exact hy.wpOp H.1 hi H
    · have h1 := H.2.2 j (ready_mono hj hji)
      obtain ⟨hjun, oj, hoj, hall⟩ := mem_ready.1 hj
      have hnot : ∀ e ∈ oj.after, Region.binds md e = true → e.on ≠ i := fun e he hb heq => by
        have h1 := hall e he hb
        have h0 := (mem_ready.1 hr).1
        rw [heq] at h1
        rcases Nat.lt_or_ge i listed.size with h' | h'
        · simp [h'] at h0 h1; rw [h0] at h1; cases h1
        · simp [Array.getElem?_eq_none h'] at h1
      have h2 := mOp_put hoj (hfree j oj hoj hji hjun hnot) (fun cs b => hsel i oi cs b hi) (fun cs b => hsel j oj cs b hoj) hy h1
      have hfree' : ∀ k ok, ops[k]? = some ok → k ≠ i → (listed.setIfInBounds j true).getD k true = false →
          (∀ e ∈ ok.after, Region.binds md e = true → e.on ≠ i) → oi.apart ops ok = true := fun k ok hk hki hun hno => by
        refine hfree k ok hk hki ?_ hno
        by_cases hjk : j = k
        · subst hjk; exact hjun
        · rw [getD_set_ne true hjk] at hun; exact hun
      refine wpOp_mono (fun a' w' h3 => ih (listed.setIfInBounds j true) a' w' hfree' (ready_mono hr (Ne.symm hji)) h3.1 ?_) h2
      rw [Array.setIfInBounds_comm _ _ hji]
      exact h3.2

def pick (l : List Oper) (o : List Nat) : List Oper := o.map fun i => l.getD i default
def mixA (md : Region.Mode) (ops : Array Oper) : List Nat → Array Bool → Bool
  | [], listed => Region.ready md ops listed == []
  | i :: r, listed => Region.ready md ops listed == [i] && mixA md ops r (listed.setIfInBounds i true)
def mixQ (md : Region.Mode) (ops : Array Oper) (o2 : List Nat) : List Nat → Array Bool → Bool
  | [], listed => mixA md ops o2 listed
  | i :: r, listed => (Region.ready md ops listed).contains i && Region.free md ops listed i && ((ops[i]?).map (fun o => noCall o.op)).getD false && mixQ md ops o2 r (listed.setIfInBounds i true)
def mixB (md : Region.Mode) (ops : Array Oper) (o1 o2 : List Nat) : Bool :=
  Region.noSelect ops && (o1.length + o2.length == ops.size) && mixQ md ops o2 o1 (Array.replicate ops.size false)

theorem wpAnyM_act {Q : Act → World → Prop} : ∀ (o2 : List Nat) (listed : Array Bool) (a : Act) (w : World), mixA md ops o2 listed = true → C w →
    wpAct P ops C Q (pick ops.toList o2) a w → wpAnyM P md ops C Q o2.length listed a w
  | [], listed, a, w, hB, hC, h => ⟨hC, by simpa [mixA] using hB, h⟩
  | i :: r, listed, a, w, hB, hC, h => by
    simp only [mixA, Bool.and_eq_true, beq_iff_eq] at hB
    obtain ⟨hr, hB'⟩ := hB
    have him : i ∈ Region.ready md ops listed := by rw [hr]; simp
    obtain ⟨_, o, ho, _⟩ := mem_ready.1 him
    have hol : ops.toList.getD i default = o := by rw [List.getD_eq_getElem?_getD, Array.getElem?_toList, ho]; rfl
    rw [List.length_cons]
    refine ⟨hC, fun h0 => (by rw [hr] at h0; cases h0), fun j hj => ?_⟩
    obtain rfl : j = i := by rw [hr] at hj; simpa using hj
    simp only [pick, List.map_cons, hol] at h
    have h' : wpList P ops (actQ C (wpAct P ops C Q (pick ops.toList r))) [o] a w := h
    unfold wpList at h'
    unfold wpOp
    simp only [ho]
    split
    · rename_i hw
      rw [if_pos hw] at h'
      rcases h' with h' | ⟨-, h'⟩
      · refine .inl (Oper.wp_mono ?_ (wp_exits (fun _ _ _ h => h) actQ_out h'))
        intro a' w' hh
        obtain ⟨hC', hk⟩ := (hh : actQ C (wpAct P ops C Q (pick ops.toList r)) .normal a' w')
        exact wpAnyM_act r _ a' w' hB' hC' hk
      · exact (actQ_out h').elim
    · rename_i hw
      rw [if_neg hw] at h'
      obtain ⟨hC', hk⟩ := (h' : actQ C (wpAct P ops C Q (pick ops.toList r)) .normal (a.put o.dst undef) w)
      exact wpAnyM_act r _ _ _ hB' hC' hk

theorem yin_of_qOp {o : Oper} {a : Act} {K : Act → Prop} (hn : noCall o.op = true)
    (h : if Region.wanted o (yielded ops a.tmps) then o.quiet P a C K else K (a.put o.dst undef)) : ∃ v, Yin P ops C o v a ∧ K (a.put o.dst v) := by
  by_cases hw : Region.wanted o (yielded ops a.tmps) = true
  · simp only [hw, if_true] at h
    obtain ⟨v, h1, h2⟩ := h
    refine ⟨v, .inl ⟨hw, fun w hC => ?_⟩, h2⟩
    have h3 := h1 w hC
    unfold Oper.quietAt at h3
    generalize hr : (execOp a.eval o).run P w = r at h3
    cases r with
    | halt x w' => simp [Oper.quietUpon] at h3
    | ok n w' =>
      cases n <;> simp only [Oper.quietUpon] at h3
      case value u => obtain ⟨rfl, rfl⟩ := h3; exact .inl rfl
      case skip => obtain ⟨rfl, rfl⟩ := h3; exact .inr ⟨rfl, rfl⟩
      case enter f args =>
        exfalso
        revert hr
        unfold execOp
        cases ho : o.op <;> simp only [ho, noCall] at hn ⊢ <;>
          first
            | (cases hn; done)
            | exact not_enter_v
            | exact not_enter_u
            | skip
        · simp
        · simp
        · rw [Sem.run_bind]; cases (asBool _).run P w <;> simp [Result.andThen]
        · split
          all_goals first | (simp; done) | skip
          all_goals first | (unfold runtimePanic; simp; done) | skip
          split
          all_goals first | (simp; done) | (unfold runtimePanic; simp; done) | skip
          simp only [Sem.run_bind]
          cases (program).run P w with
          | halt => simp [Result.andThen]
          | ok p w1 =>
            simp only [Result.andThen]
            cases (nilAhead _ _ _ _).run P w1 with
            | halt => simp
            | ok q w2 =>
              simp only []
              split <;> simp [unsupported]
        · rename_i c
          unfold resolve
          split at hn
          all_goals first | (cases hn; done) | skip
          all_goals rename_i hcal; simp only [hcal, Sem.run_bind, Sem.run_pure, Result.andThen_ok, invoke, builtin]
          all_goals
            generalize Sem.run P _ w = r
            cases r <;> simp [Result.andThen]
  · simp only [hw] at h
    exact ⟨undef, .inr ⟨by simpa using hw, rfl⟩, h⟩

theorem wpAnyM_quiet {Q : Act → World → Prop} (hs : Region.noSelect ops = true) (o2 : List Nat) {w : World} (hC : C w) : ∀ (o1 : List Nat) (listed : Array Bool) (a : Act), mixQ md ops o2 o1 listed = true →
    wpQuiet P ops C (fun a' => wpAct P ops C Q (pick ops.toList o2) a' w) (pick ops.toList o1) a → wpAnyM P md ops C Q (o1.length + o2.length) listed a w
  | [], listed, a, hB, h => by
    rw [List.length_nil, Nat.zero_add]
    exact wpAnyM_act o2 listed a w (by simpa [mixQ] using hB) hC h
  | i :: r, listed, a, hB, h => by
    simp only [mixQ, Bool.and_eq_true] at hB
    obtain ⟨⟨⟨hr, hf⟩, hn⟩, hB'⟩ := hB
    have him : i ∈ Region.ready md ops listed := by simpa using hr
    obtain ⟨_, o, ho, _⟩ := mem_ready.1 him
    have hol : ops.toList.getD i default = o := by rw [List.getD_eq_getElem?_getD, Array.getElem?_toList, ho]; rfl
    simp only [pick, List.map_cons, hol] at h
    have hn' : noCall o.op = true := by simpa [ho] using hn
    obtain ⟨v, hy, hK⟩ := yin_of_qOp (K := wpQuiet P ops C (fun a' => wpAct P ops C Q (pick ops.toList o2) a' w) (pick ops.toList r)) hn' h
    rw [List.length_cons, Nat.add_right_comm]
    exact wpAnyM_first ho (Region.noSelect_spec hs) _ listed a w (Region.free_spec ho hf) him hy (wpAnyM_quiet hs o2 hC r _ _ hB' hK)

/-- THE REGION: first 'o1' (they look alone), then 'o2' (each the only one that may come up then). -/
theorem wp_region_mix {id : Nat} {Q : Exit → Act → World → Prop} {a : Act} {w : World} {l : List Oper} (C : World → Prop) (o1 o2 : List Nat) (hm : P.follows .mixedOrders = true) (hB : mixB .any l.toArray o1 o2 = true) (hC : C w.drew)
    (h : wpQuiet P l.toArray C (fun a' => wpAct P l.toArray C (fun a'' w'' => C w'' → Q .normal a'' w'') (pick l o2) a' w.drew) (pick l o1) a) : (Code.region id l.toArray true).wp P Q a w := by
  simp only [mixB, Bool.and_eq_true, beq_iff_eq] at hB
  obtain ⟨⟨hs, hlen⟩, hB⟩ := hB
  refine wp_region_any hm ?_
  have h1 := wpAnyM_quiet (Q := fun a'' w'' => C w'' → Q .normal a'' w'') (md := .any) (w := w.drew) hs o2 hC o1 (Array.replicate l.toArray.size false) a hB (by simpa using h)
  rw [hlen] at h1
  exact wpAny_of_M (fun a w hC hq => hq hC) _ _ _ _ h1

/-- .. where memory grows alone -/
theorem wp_region_grow {id : Nat} {Q : Exit → Act → World → Prop} {a : Act} {w : World} {l : List Oper} (o1 o2 : List Nat) (hm : P.follows .mixedOrders = true) (hB : mixB .any l.toArray o1 o2 = true)
    (h : wpQuiet P l.toArray (fun w' => ∃ x, w' = ext w x) (fun a' => wpAct P l.toArray (fun w' => ∃ x, w' = ext w x) (fun a'' w'' => (∃ x, w'' = ext w x) → Q .normal a'' w'') (pick l o2) a' w.drew) (pick l o1) a) : (Code.region id l.toArray true).wp P Q a w :=
  wp_region_mix (C := fun w' => ∃ x, w' = ext w x) o1 o2 hm hB (ex_ext (below_drewN w 1)) h

/-- A world in which one block may have been written, and more has been laid. -/
noncomputable def chg (w : World) (row : Option Nat) (x : World) : World := @ite _ (w.grownBy x row) (Classical.propDecidable _) x w
theorem b_drew1 {B : Nat} {w v : World} (h : Below B w v) : Below B w v.drew := h.trans ⟨rfl, rfl, rfl, Nat.le_refl _, fun _ _ => rfl⟩
theorem grown_refl (w : World) (row : Option Nat) : w.grownBy w row := ⟨rfl, rfl, rfl, Nat.le_refl _, fun _ _ _ => rfl⟩
theorem grown_trans {w x y : World} {row : Option Nat} (h : w.grownBy x row) (k : x.grownBy y row) : w.grownBy y row :=
  ⟨k.os.trans h.os, k.tape.trans h.tape, k.output.trans h.output, Nat.le_trans h.size k.size, fun i hi hr => (k.block i (Nat.lt_of_lt_of_le hi h.size) hr).trans (h.block i hi hr)⟩
theorem grown_below {w x : World} (h : Below w.heap.size w x) (row : Option Nat) : w.grownBy x row := ⟨h.os, h.tape, h.output, h.size, fun k hk _ => h.block k hk⟩
theorem grown_drew (w : World) (row : Option Nat) : w.grownBy w.drew row := grown_below (below_drewN w 1) row
theorem chg_grown (w x : World) (row : Option Nat) : w.grownBy (chg w row x) row := by
  unfold chg; split
  · assumption
  · exact grown_refl w row
theorem chg_of {w x : World} {row : Option Nat} (h : w.grownBy x row) : chg w row x = x := by unfold chg; rw [if_pos h]
theorem ex_chg {w x : World} {row : Option Nat} (h : w.grownBy x row) : ∃ y, x = chg w row y := ⟨x, (chg_of h).symm⟩
@[go_sem] theorem cell?_chg (w x : World) (row : Option Nat) (b o : Nat) (h : b < w.heap.size) (hr : some b ≠ row) : (chg w row x).cell? ⟨b, o, none⟩ = w.cell? ⟨b, o, none⟩ := World.cell?_of_block ((chg_grown w x row).block b h hr)
@[go_sem] theorem frozen?_chg (w x : World) (row : Option Nat) (b o : Nat) (h : b < w.heap.size) (hr : some b ≠ row) : (chg w row x).frozen? ⟨b, o, none⟩ = w.frozen? ⟨b, o, none⟩ := World.frozen?_of_block ((chg_grown w x row).block b h hr)

/-- .. where one block is written -/
theorem wp_region_row {id : Nat} {Q : Exit → Act → World → Prop} {a : Act} {w : World} {l : List Oper} (row : Option Nat) (o1 o2 : List Nat) (hm : P.follows .mixedOrders = true) (hB : mixB .any l.toArray o1 o2 = true)
    (h : wpQuiet P l.toArray (fun w' => ∃ x, w' = chg w row x) (fun a' => wpAct P l.toArray (fun w' => ∃ x, w' = chg w row x) (fun a'' w'' => (∃ x, w'' = chg w row x) → Q .normal a'' w'') (pick l o2) a' w.drew) (pick l o1) a) : (Code.region id l.toArray true).wp P Q a w :=
  wp_region_mix (C := fun w' => ∃ x, w' = chg w row x) o1 o2 hm hB (ex_chg (grown_drew w row)) h
end
end Go.Cm
