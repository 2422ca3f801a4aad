/- A region that draws its order, by a script: looks that are taken first, and branches where several operations may come next. Conditions: none. -/
import Derived.Test.YtfeglklggadndaaRegP
namespace Go.Cm
open Go.RowKit

inductive Scr where
  | done
  | q (i : Nat) (s : Scr)
  | br (i : Nat) (s : Scr) (t : Scr)
  | no
def Scr.heads : Scr → List Nat
  | .br i _ t => i :: t.heads
  | _ => []
def Scr.run (md : Region.Mode) (ops : Array Oper) : Scr → Bool → Nat → Array Bool → Bool
  | .done, top, n, listed => top && n == 0 && Region.ready md ops listed == []
  | .q i s, top, n, listed => top && decide (0 < n) && (Region.ready md ops listed).contains i && Region.free md ops listed i && ((ops[i]?).map (fun o => noCall o.op)).getD false && s.run md ops true (n - 1) (listed.setIfInBounds i true)
  | .br i s t, top, n, listed => (!top || Region.ready md ops listed == i :: t.heads) && decide (0 < n) && ((ops[i]?).isSome) && s.run md ops true (n - 1) (listed.setIfInBounds i true) && t.run md ops false n listed
  | .no, top, _, _ => !top
/-- quiet ones in a row -/
def Scr.qs : List Nat → Scr → Scr
  | [], s => s
  | i :: r, s => .q i (Scr.qs r s)
/-- one after the other -/
def Scr.as : List Nat → Scr → Scr
  | [], s => s
  | i :: r, s => .br i (Scr.as r s) .no

section
variable {P : Program} {ops : Array Oper} {md : Region.Mode} {C : World → Prop}
def wpScr (P : Program) (ops : Array Oper) (C : World → Prop) (Q : Act → World → Prop) : Scr → Act → World → Prop
  | .done, a, w => Q a w
  | .q i s, a, w => wpQuiet P ops C (fun a' => wpScr P ops C Q s a' w) (pick ops.toList [i]) a
  | .br i s t, a, w => wpAct P ops C (wpScr P ops C Q s) (pick ops.toList [i]) a w ∧ wpScr P ops C Q t a w
  | .no, _, _ => True
theorem pick_one {i : Nat} {o : Oper} (ho : ops[i]? = some o) : pick ops.toList [i] = [o] := by
  have hol : ops.toList.getD i default = o := by rw [List.getD_eq_getElem?_getD, Array.getElem?_toList, ho]; rfl
  show [ops.toList.getD i default] = [o]
  rw [hol]
theorem wpOp_of_act {K : Act → World → Prop} {K' : Act → World → Prop} {i : Nat} {o : Oper} {a : Act} {w : World} (ho : ops[i]? = some o) (h : wpAct P ops C K [o] a w) (hk : ∀ a w, C w → K a w → K' a w) : wpOp P ops noQ i K' a w := by
  have h' : wpList P ops (actQ C (wpAct P ops C K [])) [o] a w := h
  unfold wpList at h'
  unfold wpOp
  simp only [ho]
  split
  · rename_i hw
    rw [if_pos hw] at h'
    rcases h' with h' | ⟨-, h'⟩
    · refine .inl (Oper.wp_mono ?_ (wp_exits (fun _ _ _ h => h) actQ_out h'))
      intro a' w' hh
      obtain ⟨hC', hk'⟩ := (hh : actQ C (wpAct P ops C K []) .normal a' w')
      exact hk a' w' hC' hk'
    · exact (actQ_out h').elim
  · rename_i hw
    rw [if_neg hw] at h'
    obtain ⟨hC', hk'⟩ := (h' : actQ C (wpAct P ops C K []) .normal (a.put o.dst undef) w)
    exact hk _ _ hC' hk'
theorem wpAnyM_scr {Q : Act → World → Prop} (hs : Region.noSelect ops = true) : ∀ (s : Scr) (n : Nat) (listed : Array Bool) (a : Act) (w : World), C w → wpScr P ops C Q s a w →
    (s.run md ops true n listed = true → wpAnyM P md ops C Q n listed a w) ∧
    (s.run md ops false n listed = true → ∀ j ∈ s.heads, ∃ m, n = m + 1 ∧ wpOp P ops noQ j (wpAnyM P md ops C Q m (listed.setIfInBounds j true)) a w) := by
  intro s
  induction s with
  | done =>
    intro n listed a w hC h
    refine ⟨fun hB => ?_, fun _ j hj => by cases hj⟩
    simp only [Scr.run, Bool.true_and, Bool.and_eq_true, beq_iff_eq] at hB
    obtain ⟨rfl, hr⟩ := hB
    exact ⟨hC, hr, h⟩
  | no =>
    intro n listed a w hC h
    exact ⟨fun hB => by simp [Scr.run] at hB, fun _ j hj => by cases hj⟩
  | q i s ih =>
    intro n listed a w hC h
    refine ⟨fun hB => ?_, fun _ j hj => by cases hj⟩
    simp only [Scr.run, Bool.true_and, Bool.and_eq_true, decide_eq_true_eq] at hB
    obtain ⟨⟨⟨⟨h0, hr⟩, hf⟩, hn⟩, hB'⟩ := hB
    obtain ⟨m, rfl⟩ : ∃ m, n = m + 1 := ⟨n - 1, by omega⟩
    have him : i ∈ Region.ready md ops listed := by simpa using hr
    obtain ⟨_, o, ho, _⟩ := mem_ready.1 him
    have hn' : noCall o.op = true := by simpa [ho] using hn
    have h' : wpQuiet P ops C (fun a' => wpScr P ops C Q s a' w) [o] a := by
      have := h; unfold wpScr at this; rwa [pick_one ho] at this
    obtain ⟨v, hy, hK⟩ := yin_of_qOp (K := wpQuiet P ops C (fun a' => wpScr P ops C Q s a' w) []) hn' h'
    exact wpAnyM_first ho (Region.noSelect_spec hs) _ listed a w (Region.free_spec ho hf) him hy ((ih m _ _ w hC hK).1 hB')
  | br i s t ihs iht =>
    intro n listed a w hC h
    obtain ⟨h1, h2⟩ := h
    have key : s.run md ops true (n - 1) (listed.setIfInBounds i true) = true → (ops[i]?).isSome = true → 0 < n → t.run md ops false n listed = true → ∀ j ∈ (Scr.br i s t).heads, ∃ m, n = m + 1 ∧ wpOp P ops noQ j (wpAnyM P md ops C Q m (listed.setIfInBounds j true)) a w := by
      intro hB1 hsome h0 hB2 j hj
      obtain ⟨m, rfl⟩ : ∃ m, n = m + 1 := ⟨n - 1, by omega⟩
      rcases List.mem_cons.1 hj with rfl | hj
      · obtain ⟨o, ho⟩ := Option.isSome_iff_exists.1 hsome
        rw [pick_one ho] at h1
        exact ⟨m, rfl, wpOp_of_act ho h1 fun a' w' hC' hk => (ihs m _ a' w' hC' hk).1 hB1⟩
      · exact (iht (m + 1) listed a w hC h2).2 hB2 j hj
    constructor
    · intro hB
      simp only [Scr.run, Bool.not_true, Bool.false_or, Bool.and_eq_true, beq_iff_eq, decide_eq_true_eq] at hB
      obtain ⟨⟨⟨⟨hr, h0⟩, hsome⟩, hB1⟩, hB2⟩ := hB
      obtain ⟨m, rfl⟩ : ∃ m, n = m + 1 := ⟨n - 1, by omega⟩
      refine ⟨hC, fun h0 => (by rw [hr] at h0; cases h0), fun j hj => ?_⟩
      rw [hr] at hj
      obtain ⟨m', hm, hw⟩ := key hB1 hsome h0 hB2 j hj
      obtain rfl : m = m' := by omega
      exact hw
    · intro hB
      simp only [Scr.run, Bool.not_false, Bool.true_or, Bool.true_and, Bool.and_eq_true, decide_eq_true_eq] at hB
      obtain ⟨⟨⟨h0, hsome⟩, hB1⟩, hB2⟩ := hB
      exact key hB1 hsome h0 hB2
def scrB (md : Region.Mode) (ops : Array Oper) (s : Scr) : Bool := Region.noSelect ops && s.run md ops true ops.size (Array.replicate ops.size false)
/-- THE REGION by a script -/
theorem wp_region_scr {id : Nat} {Q : Exit → Act → World → Prop} {a : Act} {w : World} {l : List Oper} (C : World → Prop) (s : Scr) (hm : P.follows .mixedOrders = true) (hB : scrB .any l.toArray s = true) (hC : C w.drew)
    (h : wpScr P l.toArray C (fun a'' w'' => C w'' → Q .normal a'' w'') s a w.drew) : (Code.region id l.toArray true).wp P Q a w := by
  simp only [scrB, Bool.and_eq_true] at hB
  obtain ⟨hs, hB⟩ := hB
  refine wp_region_any hm ?_
  have h1 := (wpAnyM_scr (Q := fun a'' w'' => C w'' → Q .normal a'' w'') (md := .any) hs s l.toArray.size (Array.replicate l.toArray.size false) a w.drew hC h).1 hB
  exact wpAny_of_M (fun a w hC hq => hq hC) _ _ _ _ h1
end
end Go.Cm
