/- A region that draws its order, in phases: operations that only look, then operations that must come one behind the other, and so on. Conditions: none. -/
import Derived.Test.YtfeglklggadndaaReg
namespace Go.Cm
open Go.RowKit

section
variable {P : Program} {ops : Array Oper} {md : Region.Mode} {C : World → Prop}

def runA (md : Region.Mode) (ops : Array Oper) (k : Array Bool → Bool) : List Nat → Array Bool → Bool
  | [], listed => k listed
  | i :: r, listed => Region.ready md ops listed == [i] && runA md ops k r (listed.setIfInBounds i true)
def runQ (md : Region.Mode) (ops : Array Oper) (k : Array Bool → Bool) : List Nat → Array Bool → Bool
  | [], listed => k listed
  | i :: r, listed => (Region.ready md ops listed).contains i && Region.free md ops listed i && ((ops[i]?).map (fun o => noCall o.op)).getD false && runQ md ops k r (listed.setIfInBounds i true)
def runP (md : Region.Mode) (ops : Array Oper) : List (List Nat × List Nat) → Array Bool → Bool
  | [], listed => Region.ready md ops listed == []
  | ph :: r, listed => runQ md ops (runA md ops (runP md ops r) ph.2) ph.1 listed
def phLen : List (List Nat × List Nat) → Nat
  | [] => 0
  | ph :: r => ph.1.length + (ph.2.length + phLen r)
def phaseB (md : Region.Mode) (ops : Array Oper) (l : List (List Nat × List Nat)) : Bool :=
  Region.noSelect ops && (phLen l == ops.size) && runP md ops l (Array.replicate ops.size false)

def wpPhases (P : Program) (ops : Array Oper) (C : World → Prop) (Q : Act → World → Prop) : List (List Nat × List Nat) → Act → World → Prop
  | [], a, w => Q a w
  | ph :: r, a, w => wpQuiet P ops C (fun a' => wpAct P ops C (wpPhases P ops C Q r) (pick ops.toList ph.2) a' w) (pick ops.toList ph.1) a

theorem wpAnyM_runA {Q K : Act → World → Prop} {k : Array Bool → Bool} {n : Nat} (hk : ∀ listed a w, k listed = true → C w → K a w → wpAnyM P md ops C Q n listed a w) :
    ∀ (o2 : List Nat) (listed : Array Bool) (a : Act) (w : World), runA md ops k o2 listed = true → C w →
    wpAct P ops C K (pick ops.toList o2) a w → wpAnyM P md ops C Q (o2.length + n) listed a w
  | [], listed, a, w, hB, hC, h => by rw [List.length_nil, Nat.zero_add]; exact hk listed a w hB hC h
  | i :: r, listed, a, w, hB, hC, h => by
    simp only [runA, Bool.and_eq_true, beq_iff_eq] at hB
    obtain ⟨hr, hB'⟩ := hB
    have him : i ∈ Region.ready md ops listed := by rw [hr]; simp
    obtain ⟨_, o, ho, _⟩ := mem_ready.1 him
    have hol : ops.toList.getD i default = o := by rw [List.getD_eq_getElem?_getD, Array.getElem?_toList, ho]; rfl
    rw [List.length_cons, Nat.add_right_comm]
    refine ⟨hC, fun h0 => (by rw [hr] at h0; cases h0), fun j hj => ?_⟩
    obtain rfl : j = i := by rw [hr] at hj; simpa using hj
    simp only [pick, List.map_cons, hol] at h
    have h' : wpList P ops (actQ C (wpAct P ops C K (pick ops.toList r))) [o] a w := h
    unfold wpList at h'
    unfold wpOp
    simp only [ho]
    split
    · rename_i hw
      rw [if_pos hw] at h'
      rcases h' with h' | ⟨-, h'⟩
      · refine .inl (Oper.wp_mono ?_ (wp_exits (fun _ _ _ h => h) actQ_out h'))
        intro a' w' hh
        obtain ⟨hC', hk'⟩ := (hh : actQ C (wpAct P ops C K (pick ops.toList r)) .normal a' w')
        exact wpAnyM_runA hk r _ a' w' hB' hC' hk'
      · exact (actQ_out h').elim
    · rename_i hw
      rw [if_neg hw] at h'
      obtain ⟨hC', hk'⟩ := (h' : actQ C (wpAct P ops C K (pick ops.toList r)) .normal (a.put o.dst undef) w)
      exact wpAnyM_runA hk r _ _ _ hB' hC' hk'
theorem wpAnyM_runQ {Q : Act → World → Prop} {K : Act → Prop} {k : Array Bool → Bool} {n : Nat} {w : World} (hs : Region.noSelect ops = true) (hk : ∀ listed a, k listed = true → K a → wpAnyM P md ops C Q n listed a w) :
    ∀ (o1 : List Nat) (listed : Array Bool) (a : Act), runQ md ops k o1 listed = true →
    wpQuiet P ops C K (pick ops.toList o1) a → wpAnyM P md ops C Q (o1.length + n) listed a w
  | [], listed, a, hB, h => by rw [List.length_nil, Nat.zero_add]; exact hk listed a hB h
  | i :: r, listed, a, hB, h => by
    simp only [runQ, Bool.and_eq_true] at hB
    obtain ⟨⟨⟨hr, hf⟩, hn⟩, hB'⟩ := hB
    have him : i ∈ Region.ready md ops listed := by simpa using hr
    obtain ⟨_, o, ho, _⟩ := mem_ready.1 him
    have hol : ops.toList.getD i default = o := by rw [List.getD_eq_getElem?_getD, Array.getElem?_toList, ho]; rfl
    simp only [pick, List.map_cons, hol] at h
    have hn' : noCall o.op = true := by simpa [ho] using hn
    obtain ⟨v, hy, hK⟩ := yin_of_qOp (K := wpQuiet P ops C K (pick ops.toList r)) hn' h
    rw [List.length_cons, Nat.add_right_comm]
    exact wpAnyM_first ho (Region.noSelect_spec hs) _ listed a w (Region.free_spec ho hf) him hy (wpAnyM_runQ hs hk r _ _ hB' hK)
theorem wpAnyM_runP {Q : Act → World → Prop} (hs : Region.noSelect ops = true) : ∀ (l : List (List Nat × List Nat)) (listed : Array Bool) (a : Act) (w : World), runP md ops l listed = true → C w →
    wpPhases P ops C Q l a w → wpAnyM P md ops C Q (phLen l) listed a w
  | [], listed, a, w, hB, hC, h => ⟨hC, by simpa [runP] using hB, h⟩
  | ph :: r, listed, a, w, hB, hC, h =>
    wpAnyM_runQ hs (fun listed' a' hB' hK => wpAnyM_runA (K := wpPhases P ops C Q r) (fun l'' a'' w'' hB'' hC'' hK'' => wpAnyM_runP hs r l'' a'' w'' hB'' hC'' hK'') ph.2 listed' a' w hB' hC hK) ph.1 listed a hB h

/-- THE REGION in phases, where memory grows alone -/
theorem wp_region_phases {id : Nat} {Q : Exit → Act → World → Prop} {a : Act} {w : World} {l : List Oper} (C : World → Prop) (ps : List (List Nat × List Nat)) (hm : P.follows .mixedOrders = true) (hB : phaseB .any l.toArray ps = true) (hC : C w.drew)
    (h : wpPhases P l.toArray C (fun a'' w'' => C w'' → Q .normal a'' w'') ps a w.drew) : (Code.region id l.toArray true).wp P Q a w := by
  simp only [phaseB, Bool.and_eq_true, beq_iff_eq] at hB
  obtain ⟨⟨hs, hlen⟩, hB⟩ := hB
  refine wp_region_any hm ?_
  have h1 := wpAnyM_runP (Q := fun a'' w'' => C w'' → Q .normal a'' w'') (md := .any) hs ps (Array.replicate l.toArray.size false) a w.drew hB hC h
  rw [hlen] at h1
  exact wpAny_of_M (fun a w hC hq => hq hC) _ _ _ _ h1
theorem wp_region_phg {id : Nat} {Q : Exit → Act → World → Prop} {a : Act} {w : World} {l : List Oper} (ps : List (List Nat × List Nat)) (hm : P.follows .mixedOrders = true) (hB : phaseB .any l.toArray ps = true)
    (h : wpPhases P l.toArray (fun w' => ∃ x, w' = ext w x) (fun a'' w'' => (∃ x, w'' = ext w x) → Q .normal a'' w'') ps a w.drew) : (Code.region id l.toArray true).wp P Q a w :=
  wp_region_phases (C := fun w' => ∃ x, w' = ext w x) ps hm hB (ex_ext (below_drewN w 1)) h
end
end Go.Cm
