/- Texts of this claim, joined: walks of small functions and plain facts about them. Conditions: as each says. -/
import Derived.Test.YtfnkhcibcffcmaaGA
import Derived.Deep.LoopGhost
/- A region that draws its order and ends in operations that must come last, which may change what the others look at. Conditions: none. -/
namespace Go.Cm
open Go.RowKit

section
variable {P : Program} {ops : Array Oper} {md : Region.Mode} {C : World → Prop} {o3 : List Nat}
def late (o3 : List Nat) (listed : Array Bool) : Bool := o3.any fun t => listed.getD t false
def wpAnyT (P : Program) (md : Region.Mode) (ops : Array Oper) (C : World → Prop) (o3 : List Nat) (Q : Act → World → Prop) : Nat → Array Bool → Act → World → Prop
  | 0, listed, a, w => (late o3 listed = false → C w) ∧ Region.ready md ops listed = [] ∧ Q a w
  | fuel + 1, listed, a, w => (late o3 listed = false → C w) ∧ (Region.ready md ops listed = [] → Q a w) ∧
    ∀ i ∈ Region.ready md ops listed, wpOp P ops noQ i (wpAnyT P md ops C o3 Q fuel (listed.setIfInBounds i true)) a w

theorem wpAny_of_T {Q : Act → World → Prop} {Q' : Exit → Act → World → Prop} (hQ : ∀ a w, Q a w → Q' .normal a w) : ∀ (fuel : Nat) (listed : Array Bool) (a : Act) (w : World),
    wpAnyT P md ops C o3 Q fuel listed a w → wpAny P md ops Q' fuel listed a w
  | 0, _, _, _, h => ⟨h.2.1, hQ _ _ h.2.2⟩
  | fuel + 1, listed, a, w, h => ⟨fun h0 => hQ _ _ (h.2.1 h0), fun i hi => by
      have h1 := wpOp_mono (fun a w => wpAny_of_T (Q' := Q') hQ fuel _ a w) (h.2.2 i hi)
      unfold wpOp at h1 ⊢
      split
      · rename_i ho; simpa [ho] using h1
      · rename_i o ho
        simp only [ho] at h1
        split
        · rename_i hw
          simp only [hw, if_true] at h1
          rcases h1 with h1 | ⟨-, h1⟩
          · exact .inl (wp_exits (fun _ _ _ h => h) noQ_out h1)
          · exact (noQ_out h1).elim
        · rename_i hw; simpa [hw] using h1⟩

/-- what has been done is closed: what it waits for has been done -/
def Closed (md : Region.Mode) (ops : Array Oper) (listed : Array Bool) : Prop := ∀ (j : Nat) (oj : Oper), ops[j]? = some oj → listed.getD j false = true → ∀ e ∈ oj.after, Region.binds md e = true → listed.getD e.on false = true
theorem Closed.set {listed : Array Bool} {j : Nat} (h : Closed md ops listed) (hj : j ∈ Region.ready md ops listed) : Closed md ops (listed.setIfInBounds j true) := by
  obtain ⟨_, oj, hoj, hall⟩ := mem_ready.1 hj
  intro k ok hok hl e he hb
  by_cases hjk : j = k
  · subst hjk
    have : ok = oj := Option.some.inj (hok.symm.trans hoj)
    subst this
    exact getD_set_true (hall e he hb)
  · rw [getD_set_ne false hjk] at hl
    exact getD_set_true (h k ok hok hl e he hb)
def anc (md : Region.Mode) (ops : Array Oper) : Nat → Nat → Nat → Bool
  | 0, _, _ => false
  | f + 1, i, t => match ops[t]? with
    | some o => o.after.any fun e => Region.binds md e && (e.on == i || anc md ops f i e.on)
    | none => false
theorem anc_listed {listed : Array Bool} (hc : Closed md ops listed) {i : Nat} : ∀ (f t : Nat), anc md ops f i t = true → listed.getD t false = true → listed.getD i false = true
  | 0, _, h, _ => by cases h
  | f + 1, t, h, ht => by
    unfold anc at h
    split at h
    · rename_i o ho
      obtain ⟨e, he, hb⟩ := Array.any_eq_true'.1 h
      simp only [Bool.and_eq_true, Bool.or_eq_true, beq_iff_eq] at hb
      have h1 := hc t o ho ht e he hb.1
      rcases hb.2 with h2 | h2
      · rw [← h2]; exact h1
      · exact anc_listed hc f e.on h2 h1
    · cases h
theorem late_set {listed : Array Bool} {i : Nat} (hi : i ∉ o3) : late o3 (listed.setIfInBounds i true) = late o3 listed := by
  unfold late
  induction o3 with
  | nil => rfl
  | cons t o3 ih =>
    simp only [List.mem_cons, not_or] at hi
    simp only [List.any_cons]
    rw [ih hi.2, getD_set_ne false hi.1]
theorem late_false {listed : Array Bool} {i f : Nat} (hc : Closed md ops listed) (ha : ∀ t ∈ o3, anc md ops f i t = true) (hu : listed.getD i false = false) : late o3 listed = false := by
  cases h : late o3 listed with
  | false => rfl
  | true =>
    obtain ⟨t, ht, hl⟩ := List.any_eq_true.1 h
    rw [anc_listed hc f t (ha t ht) hl] at hu
    cases hu
theorem getD_un {listed : Array Bool} {i : Nat} (h : listed.getD i true = false) : i < listed.size ∧ listed.getD i false = false := by
  rcases Nat.lt_or_ge i listed.size with h' | h'
  · exact ⟨h', by simp [h'] at h ⊢; exact h⟩
  · simp [Array.getElem?_eq_none h'] at h

theorem wpAnyT_first {Q : Act → World → Prop} {i f : Nat} {oi : Oper} {v : Value} (hi : ops[i]? = some oi) (hsel : ∀ (j : Nat) (o : Oper) cs b, ops[j]? = some o → o.op ≠ .select cs b) (hi3 : i ∉ o3) (ha : ∀ t ∈ o3, anc md ops f i t = true) :
    ∀ (fuel : Nat) (listed : Array Bool) (a : Act) (w : World), Closed md ops listed →
      (∀ j oj, ops[j]? = some oj → j ≠ i → listed.getD j true = false → (∀ e ∈ oj.after, Region.binds md e = true → e.on ≠ i) → oi.apart ops oj = true) →
      i ∈ Region.ready md ops listed → Yin P ops C oi v a →
      wpAnyT P md ops C o3 Q fuel (listed.setIfInBounds i true) (a.put oi.dst v) w → wpAnyT P md ops C o3 Q (fuel + 1) listed a w := by
  intro fuel
  induction fuel with
  | zero =>
    intro listed a w hcl _ hr hy H
    have hl := late_false hcl ha (getD_un (mem_ready.1 hr).1).2
    have h1 := H.1
    rw [late_set hi3] at h1
    refine ⟨h1, fun h => (by rw [h] at hr; cases hr), fun j hj => ?_⟩
    by_cases hji : j = i
    · subst hji; exact hy.wpOp (h1 hl) hi H
    · have := ready_mono hj hji
      rw [H.2.1] at this
      cases this
  | succ fuel ih =>
    intro listed a w hcl hfree hr hy H
    have hl := late_false hcl ha (getD_un (mem_ready.1 hr).1).2
    have h1 := H.1
    rw [late_set hi3] at h1
    refine ⟨h1, fun h => (by rw [h] at hr; cases hr), fun j hj => ?_⟩
    by_cases hji : j = i
    · subst hji; exact hy.wpOp (h1 hl) hi H
    · have h1 := H.2.2 j (ready_mono hj hji)
      obtain ⟨hjun, oj, hoj, hall⟩ := mem_ready.1 hj
      have hnot : ∀ e ∈ oj.after, Region.binds md e = true → e.on ≠ i := fun e he hb heq => by
        have h1 := hall e he hb
        have h0 := (mem_ready.1 hr).1
        rw [heq] at h1
        rw [(getD_un h0).2] at h1
        cases h1
      have h2 := mOp_put hoj (hfree j oj hoj hji hjun hnot) (fun cs b => hsel i oi cs b hi) (fun cs b => hsel j oj cs b hoj) hy h1
      have hfree' : ∀ k ok, ops[k]? = some ok → k ≠ i → (listed.setIfInBounds j true).getD k true = false →
          (∀ e ∈ ok.after, Region.binds md e = true → e.on ≠ i) → oi.apart ops ok = true := fun k ok hk hki hun hno => by
        refine hfree k ok hk hki ?_ hno
        by_cases hjk : j = k
        · subst hjk; exact hjun
        · rw [getD_set_ne true hjk] at hun; exact hun
      refine wpOp_mono (fun a' w' h3 => ih (listed.setIfInBounds j true) a' w' (hcl.set hj) hfree' (ready_mono hr (Ne.symm hji)) h3.1 ?_) h2
      rw [Array.setIfInBounds_comm _ _ hji]
      exact h3.2

theorem late_true {listed : Array Bool} {i : Nat} (hi : i ∈ o3) (hs : i < listed.size) : late o3 (listed.setIfInBounds i true) = true :=
  List.any_eq_true.2 ⟨i, hi, by simp [hs]⟩
/-- one operation that is the only one that may come up -/
theorem wpAnyT_one {Q K : Act → World → Prop} {C' : World → Prop} {i n : Nat} {listed : Array Bool} {a : Act} {w : World} (hr : Region.ready md ops listed = [i]) (hC : late o3 listed = false → C w)
    (hK : ∀ a' w', C' w' → K a' w' → wpAnyT P md ops C o3 Q n (listed.setIfInBounds i true) a' w') (h : wpList P ops (actQ C' K) [ops.toList.getD i default] a w) : wpAnyT P md ops C o3 Q (n + 1) listed a w := by
  have him : i ∈ Region.ready md ops listed := by rw [hr]; simp
  obtain ⟨_, o, ho, _⟩ := mem_ready.1 him
  have hol : ops.toList.getD i default = o := by rw [List.getD_eq_getElem?_getD, Array.getElem?_toList, ho]; rfl
  refine ⟨hC, fun h0 => (by rw [hr] at h0; cases h0), fun j hj => ?_⟩
  obtain rfl : j = i := by rw [hr] at hj; simpa using hj
  rw [hol] at h
  unfold wpList at h
  unfold wpOp
  simp only [ho]
  split
  · rename_i hw
    rw [if_pos hw] at h
    rcases h with h' | ⟨-, h'⟩
    · refine .inl (Oper.wp_mono ?_ (wp_exits (fun _ _ _ h => h) actQ_out h'))
      intro a' w' hh
      obtain ⟨hC', hk⟩ := (hh : actQ C' K .normal a' w')
      exact hK a' w' hC' hk
    · exact (actQ_out h').elim
  · rename_i hw
    rw [if_neg hw] at h
    obtain ⟨hC', hk⟩ := (h : actQ C' K .normal (a.put o.dst undef) w)
    exact hK _ _ hC' hk
theorem wpAnyT_tail {Q : Act → World → Prop} : ∀ (o : List Nat) (listed : Array Bool) (a : Act) (w : World), (∀ t ∈ o, t ∈ o3) → mixA md ops o listed = true → (late o3 listed = false → C w) →
    wpAct P ops (fun _ => True) Q (pick ops.toList o) a w → wpAnyT P md ops C o3 Q o.length listed a w
  | [], listed, a, w, _, hB, hC, h => ⟨hC, by simpa [mixA] using hB, h⟩
  | i :: r, listed, a, w, ho, hB, hC, h => by
    simp only [mixA, Bool.and_eq_true, beq_iff_eq] at hB
    have him : i ∈ Region.ready md ops listed := by rw [hB.1]; simp
    have hs := (getD_un (mem_ready.1 him).1).1
    refine wpAnyT_one (C' := fun _ => True) hB.1 hC (fun a' w' _ hk => wpAnyT_tail r _ a' w' (fun t ht => ho t (by simp [ht])) hB.2 (fun hl => by rw [late_true (ho i (by simp)) hs] at hl; cases hl) hk) ?_
    simp only [pick, List.map_cons] at h
    exact h
theorem wpAnyT_act {Q : Act → World → Prop} : ∀ (o2 : List Nat) (listed : Array Bool) (a : Act) (w : World), mixA md ops (o2 ++ o3) listed = true → C w →
    wpAct P ops C (wpAct P ops (fun _ => True) Q (pick ops.toList o3)) (pick ops.toList o2) a w → wpAnyT P md ops C o3 Q (o2.length + o3.length) listed a w
  | [], listed, a, w, hB, hC, h => by
    rw [List.length_nil, Nat.zero_add]
    exact wpAnyT_tail o3 listed a w (fun _ h => h) hB (fun _ => hC) h
  | i :: r, listed, a, w, hB, hC, h => by
    simp only [List.cons_append, mixA, Bool.and_eq_true, beq_iff_eq] at hB
    rw [List.length_cons, Nat.add_right_comm]
    refine wpAnyT_one (C' := C) hB.1 (fun _ => hC) (fun a' w' hC' hk => wpAnyT_act r _ a' w' hB.2 hC' hk) ?_
    simp only [pick, List.map_cons] at h
    exact h
def headB (md : Region.Mode) (ops : Array Oper) (o1 o3 : List Nat) : Bool := o1.all fun i => !o3.contains i && o3.all fun t => anc md ops ops.size i t
theorem wpAnyT_quiet {Q : Act → World → Prop} (hs : Region.noSelect ops = true) (o2 : List Nat) {w : World} (hC : C w) : ∀ (o1 : List Nat) (listed : Array Bool) (a : Act), headB md ops o1 o3 = true → Closed md ops listed → mixQ md ops (o2 ++ o3) o1 listed = true →
    wpQuiet P ops C (fun a' => wpAct P ops C (wpAct P ops (fun _ => True) Q (pick ops.toList o3)) (pick ops.toList o2) a' w) (pick ops.toList o1) a → wpAnyT P md ops C o3 Q (o1.length + (o2.length + o3.length)) listed a w
  | [], listed, a, _, _, hB, h => by
    rw [List.length_nil, Nat.zero_add]
    exact wpAnyT_act o2 listed a w (by simpa [mixQ] using hB) hC h
  | i :: r, listed, a, hh, hcl, hB, h => by
    simp only [mixQ, Bool.and_eq_true] at hB
    obtain ⟨⟨⟨hr, hf⟩, hn⟩, hB'⟩ := hB
    simp only [headB, List.all_cons, Bool.and_eq_true] at hh
    have him : i ∈ Region.ready md ops listed := by simpa using hr
    obtain ⟨_, o, ho, _⟩ := mem_ready.1 him
    have hol : ops.toList.getD i default = o := by rw [List.getD_eq_getElem?_getD, Array.getElem?_toList, ho]; rfl
    simp only [pick, List.map_cons, hol] at h
    have hn' : noCall o.op = true := by simpa [ho] using hn
    obtain ⟨v, hy, hK⟩ := yin_of_qOp (K := wpQuiet P ops C (fun a' => wpAct P ops C (wpAct P ops (fun _ => True) Q (pick ops.toList o3)) (pick ops.toList o2) a' w) (pick ops.toList r)) hn' h
    rw [List.length_cons, Nat.add_right_comm]
    exact wpAnyT_first ho (Region.noSelect_spec hs) (by simpa using hh.1.1) (fun t ht => (List.all_eq_true.1 hh.1.2) t ht) _ listed a w hcl (Region.free_spec ho hf) him hy
      (wpAnyT_quiet hs o2 hC r _ _ (by simpa [headB] using hh.2) (hcl.set him) hB' hK)
def tailB (md : Region.Mode) (ops : Array Oper) (o1 o2 o3 : List Nat) : Bool :=
  Region.noSelect ops && (o1.length + (o2.length + o3.length) == ops.size) && headB md ops o1 o3 && mixQ md ops (o2 ++ o3) o1 (Array.replicate ops.size false)

theorem none_listed (m j : Nat) : (Array.replicate m false).getD j false = false := by
  rcases Nat.lt_or_ge j m with h | h <;> simp [h]
/-- THE REGION: first 'o1' (they look alone, and all that comes in 'o3' waits for each of them), then 'o2', then 'o3' (each the only one that may come up then). -/
theorem wp_region_tail {id : Nat} {Q : Exit → Act → World → Prop} {a : Act} {w : World} {l : List Oper} (C : World → Prop) (o1 o2 o3 : List Nat) (hm : P.follows .mixedOrders = true) (hB : tailB .any l.toArray o1 o2 o3 = true) (hC : C w.drew)
    (h : wpQuiet P l.toArray C (fun a' => wpAct P l.toArray C (wpAct P l.toArray (fun _ => True) (fun a'' w'' => Q .normal a'' w'') (pick l o3)) (pick l o2) a' w.drew) (pick l o1) a) : (Code.region id l.toArray true).wp P Q a w := by
  simp only [tailB, Bool.and_eq_true, beq_iff_eq] at hB
  obtain ⟨⟨⟨hs, hlen⟩, hh⟩, hB⟩ := hB
  refine wp_region_any hm ?_
  have h1 := wpAnyT_quiet (Q := fun a'' w'' => Q .normal a'' w'') (md := .any) (w := w.drew) hs o2 hC o1 (Array.replicate l.toArray.size false) a hh (fun j oj _ hl => by rw [none_listed] at hl; cases hl) hB (by simpa using h)
  rw [hlen] at h1
  exact wpAny_of_T (fun a w hq => hq) _ _ _ _ h1
/-- .. where memory grows alone ahead of the tail -/
theorem wp_region_tailg {id : Nat} {Q : Exit → Act → World → Prop} {a : Act} {w : World} {l : List Oper} (o1 o2 o3 : List Nat) (hm : P.follows .mixedOrders = true) (hB : tailB .any l.toArray o1 o2 o3 = true)
    (h : wpQuiet P l.toArray (fun w' => ∃ x, w' = ext w x) (fun a' => wpAct P l.toArray (fun w' => ∃ x, w' = ext w x) (wpAct P l.toArray (fun _ => True) (fun a'' w'' => Q .normal a'' w'') (pick l o3)) (pick l o2) a' w.drew) (pick l o1) a) : (Code.region id l.toArray true).wp P Q a w :=
  wp_region_tail (C := fun w' => ∃ x, w' = ext w x) o1 o2 o3 hm hB (ex_ext (below_drewN w 1)) h
end
end Go.Cm

/- A region that draws its order, in phases: operations that only look, then operations that must come one behind the other, and so on. Conditions: none. -/
namespace Go.Cm
open Go.RowKit

section
variable {P : Program} {ops : Array Oper} {md : Region.Mode} {C : World → Prop}

def runA (md : Region.Mode) (ops : Array Oper) (k : Array Bool → Bool) : List Nat → Array Bool → Bool
  | [], listed => k listed
  | i :: r, listed => Region.ready md ops listed == [i] && runA md ops k r (listed.setIfInBounds i true)
def runQ (md : Region.Mode) (ops : Array Oper) (k : Array Bool → Bool) : List Nat → Array Bool → Bool
  | [], listed => k listed
  | i :: r, listed => (Region.ready md ops listed).contains i && Region.free md ops listed i && ((ops[i]?).map (fun o => noCall o.op)).getD false && runQ md ops k r (listed.setIfInBounds i true)
def runP (md : Region.Mode) (ops : Array Oper) : List (List Nat × List Nat) → Array Bool → Bool
  | [], listed => Region.ready md ops listed == []
  | ph :: r, listed => runQ md ops (runA md ops (runP md ops r) ph.2) ph.1 listed
def phLen : List (List Nat × List Nat) → Nat
  | [] => 0
  | ph :: r => ph.1.length + (ph.2.length + phLen r)
def phaseB (md : Region.Mode) (ops : Array Oper) (l : List (List Nat × List Nat)) : Bool :=
  Region.noSelect ops && (phLen l == ops.size) && runP md ops l (Array.replicate ops.size false)

def wpPhases (P : Program) (ops : Array Oper) (C : World → Prop) (Q : Act → World → Prop) : List (List Nat × List Nat) → Act → World → Prop
  | [], a, w => Q a w
  | ph :: r, a, w => wpQuiet P ops C (fun a' => wpAct P ops C (wpPhases P ops C Q r) (pick ops.toList ph.2) a' w) (pick ops.toList ph.1) a

theorem wpAnyM_runA {Q K : Act → World → Prop} {k : Array Bool → Bool} {n : Nat} (hk : ∀ listed a w, k listed = true → C w → K a w → wpAnyM P md ops C Q n listed a w) :
    ∀ (o2 : List Nat) (listed : Array Bool) (a : Act) (w : World), runA md ops k o2 listed = true → C w →
    wpAct P ops C K (pick ops.toList o2) a w → wpAnyM P md ops C Q (o2.length + n) listed a w
  | [], listed, a, w, hB, hC, h => by rw [List.length_nil, Nat.zero_add]; exact hk listed a w hB hC h
  | i :: r, listed, a, w, hB, hC, h => by
    simp only [runA, Bool.and_eq_true, beq_iff_eq] at hB
    obtain ⟨hr, hB'⟩ := hB
    have him : i ∈ Region.ready md ops listed := by rw [hr]; simp
    obtain ⟨_, o, ho, _⟩ := mem_ready.1 him
    have hol : ops.toList.getD i default = o := by rw [List.getD_eq_getElem?_getD, Array.getElem?_toList, ho]; rfl
    rw [List.length_cons, Nat.add_right_comm]
    refine ⟨hC, fun h0 => (by rw [hr] at h0; cases h0), fun j hj => ?_⟩
    obtain rfl : j = i := by rw [hr] at hj; simpa using hj
    simp only [pick, List.map_cons, hol] at h
    have h' : wpList P ops (actQ C (wpAct P ops C K (pick ops.toList r))) [o] a w := h
    unfold wpList at h'
    unfold wpOp
    simp only [ho]
    split
    · rename_i hw
      rw [if_pos hw] at h'
      rcases h' with h' | ⟨-, h'⟩
      · refine .inl (Oper.wp_mono ?_ (wp_exits (fun _ _ _ h => h) actQ_out h'))
        intro a' w' hh
        obtain ⟨hC', hk'⟩ := (hh : actQ C (wpAct P ops C K (pick ops.toList r)) .normal a' w')
        exact wpAnyM_runA hk r _ a' w' hB' hC' hk'
      · exact (actQ_out h').elim
    · rename_i hw
      rw [if_neg hw] at h'
      obtain ⟨hC', hk'⟩ := (h' : actQ C (wpAct P ops C K (pick ops.toList r)) .normal (a.put o.dst undef) w)
      exact wpAnyM_runA hk r _ _ _ hB' hC' hk'
theorem wpAnyM_runQ {Q : Act → World → Prop} {K : Act → Prop} {k : Array Bool → Bool} {n : Nat} {w : World} (hs : Region.noSelect ops = true) (hk : ∀ listed a, k listed = true → K a → wpAnyM P md ops C Q n listed a w) :
    ∀ (o1 : List Nat) (listed : Array Bool) (a : Act), runQ md ops k o1 listed = true →
    wpQuiet P ops C K (pick ops.toList o1) a → wpAnyM P md ops C Q (o1.length + n) listed a w
  | [], listed, a, hB, h => by rw [List.length_nil, Nat.zero_add]; exact hk listed a hB h
  | i :: r, listed, a, hB, h => by
    simp only [runQ, Bool.and_eq_true] at hB
    obtain ⟨⟨⟨hr, hf⟩, hn⟩, hB'⟩ := hB
    have him : i ∈ Region.ready md ops listed := by simpa using hr
    obtain ⟨_, o, ho, _⟩ := mem_ready.1 him
    have hol : ops.toList.getD i default = o := by rw [List.getD_eq_getElem?_getD, Array.getElem?_toList, ho]; rfl
    simp only [pick, List.map_cons, hol] at h
    have hn' : noCall o.op = true := by simpa [ho] using hn
    obtain ⟨v, hy, hK⟩ := yin_of_qOp (K := wpQuiet P ops C K (pick ops.toList r)) hn' h
    rw [List.length_cons, Nat.add_right_comm]
    exact wpAnyM_first ho (Region.noSelect_spec hs) _ listed a w (Region.free_spec ho hf) him hy (wpAnyM_runQ hs hk r _ _ hB' hK)
theorem wpAnyM_runP {Q : Act → World → Prop} (hs : Region.noSelect ops = true) : ∀ (l : List (List Nat × List Nat)) (listed : Array Bool) (a : Act) (w : World), runP md ops l listed = true → C w →
    wpPhases P ops C Q l a w → wpAnyM P md ops C Q (phLen l) listed a w
  | [], listed, a, w, hB, hC, h => ⟨hC, by simpa [runP] using hB, h⟩
  | ph :: r, listed, a, w, hB, hC, h =>
    wpAnyM_runQ hs (fun listed' a' hB' hK => wpAnyM_runA (K := wpPhases P ops C Q r) (fun l'' a'' w'' hB'' hC'' hK'' => wpAnyM_runP hs r l'' a'' w'' hB'' hC'' hK'') ph.2 listed' a' w hB' hC hK) ph.1 listed a hB h

/-- THE REGION in phases, where memory grows alone -/
theorem wp_region_phases {id : Nat} {Q : Exit → Act → World → Prop} {a : Act} {w : World} {l : List Oper} (C : World → Prop) (ps : List (List Nat × List Nat)) (hm : P.follows .mixedOrders = true) (hB : phaseB .any l.toArray ps = true) (hC : C w.drew)
    (h : wpPhases P l.toArray C (fun a'' w'' => C w'' → Q .normal a'' w'') ps a w.drew) : (Code.region id l.toArray true).wp P Q a w := by
  simp only [phaseB, Bool.and_eq_true, beq_iff_eq] at hB
  obtain ⟨⟨hs, hlen⟩, hB⟩ := hB
  refine wp_region_any hm ?_
  have h1 := wpAnyM_runP (Q := fun a'' w'' => C w'' → Q .normal a'' w'') (md := .any) hs ps (Array.replicate l.toArray.size false) a w.drew hB hC h
  rw [hlen] at h1
  exact wpAny_of_M (fun a w hC hq => hq hC) _ _ _ _ h1
theorem wp_region_phg {id : Nat} {Q : Exit → Act → World → Prop} {a : Act} {w : World} {l : List Oper} (ps : List (List Nat × List Nat)) (hm : P.follows .mixedOrders = true) (hB : phaseB .any l.toArray ps = true)
    (h : wpPhases P l.toArray (fun w' => ∃ x, w' = ext w x) (fun a'' w'' => (∃ x, w'' = ext w x) → Q .normal a'' w'') ps a w.drew) : (Code.region id l.toArray true).wp P Q a w :=
  wp_region_phases (C := fun w' => ∃ x, w' = ext w x) ps hm hB (ex_ext (below_drewN w 1)) h
end
end Go.Cm

/- A region that draws its order, by a script: looks that are taken first, and branches where several operations may come next. Conditions: none. -/
namespace Go.Cm
open Go.RowKit

inductive Scr where
  | done
  | q (i : Nat) (s : Scr)
  | br (i : Nat) (s : Scr) (t : Scr)
  | no
def Scr.heads : Scr → List Nat
  | .br i _ t => i :: t.heads
  | _ => []
def Scr.run (md : Region.Mode) (ops : Array Oper) : Scr → Bool → Nat → Array Bool → Bool
  | .done, top, n, listed => top && n == 0 && Region.ready md ops listed == []
  | .q i s, top, n, listed => top && decide (0 < n) && (Region.ready md ops listed).contains i && Region.free md ops listed i && ((ops[i]?).map (fun o => noCall o.op)).getD false && s.run md ops true (n - 1) (listed.setIfInBounds i true)
  | .br i s t, top, n, listed => (!top || Region.ready md ops listed == i :: t.heads) && decide (0 < n) && ((ops[i]?).isSome) && s.run md ops true (n - 1) (listed.setIfInBounds i true) && t.run md ops false n listed
  | .no, top, _, _ => !top
/-- quiet ones in a row -/
def Scr.qs : List Nat → Scr → Scr
  | [], s => s
  | i :: r, s => .q i (Scr.qs r s)
/-- one after the other -/
def Scr.as : List Nat → Scr → Scr
  | [], s => s
  | i :: r, s => .br i (Scr.as r s) .no

section
variable {P : Program} {ops : Array Oper} {md : Region.Mode} {C : World → Prop}
def wpScr (P : Program) (ops : Array Oper) (C : World → Prop) (Q : Act → World → Prop) : Scr → Act → World → Prop
  | .done, a, w => Q a w
  | .q i s, a, w => wpQuiet P ops C (fun a' => wpScr P ops C Q s a' w) (pick ops.toList [i]) a
  | .br i s t, a, w => wpAct P ops C (wpScr P ops C Q s) (pick ops.toList [i]) a w ∧ wpScr P ops C Q t a w
  | .no, _, _ => True
theorem pick_one {i : Nat} {o : Oper} (ho : ops[i]? = some o) : pick ops.toList [i] = [o] := by
  have hol : ops.toList.getD i default = o := by rw [List.getD_eq_getElem?_getD, Array.getElem?_toList, ho]; rfl
  show [ops.toList.getD i default] = [o]
  rw [hol]
theorem wpOp_of_act {K : Act → World → Prop} {K' : Act → World → Prop} {i : Nat} {o : Oper} {a : Act} {w : World} (ho : ops[i]? = some o) (h : wpAct P ops C K [o] a w) (hk : ∀ a w, C w → K a w → K' a w) : wpOp P ops noQ i K' a w := by
  have h' : wpList P ops (actQ C (wpAct P ops C K [])) [o] a w := h
  unfold wpList at h'
  unfold wpOp
  simp only [ho]
  split
  · rename_i hw
    rw [if_pos hw] at h'
    rcases h' with h' | ⟨-, h'⟩
    · refine .inl (Oper.wp_mono ?_ (wp_exits (fun _ _ _ h => h) actQ_out h'))
      intro a' w' hh
      obtain ⟨hC', hk'⟩ := (hh : actQ C (wpAct P ops C K []) .normal a' w')
      exact hk a' w' hC' hk'
    · exact (actQ_out h').elim
  · rename_i hw
    rw [if_neg hw] at h'
    obtain ⟨hC', hk'⟩ := (h' : actQ C (wpAct P ops C K []) .normal (a.put o.dst undef) w)
    exact hk _ _ hC' hk'
theorem wpAnyM_scr {Q : Act → World → Prop} (hs : Region.noSelect ops = true) : ∀ (s : Scr) (n : Nat) (listed : Array Bool) (a : Act) (w : World), C w → wpScr P ops C Q s a w →
    (s.run md ops true n listed = true → wpAnyM P md ops C Q n listed a w) ∧
    (s.run md ops false n listed = true → ∀ j ∈ s.heads, ∃ m, n = m + 1 ∧ wpOp P ops noQ j (wpAnyM P md ops C Q m (listed.setIfInBounds j true)) a w) := by
  intro s
  induction s with
  | done =>
    intro n listed a w hC h
    refine ⟨fun hB => ?_, fun _ j hj => by cases hj⟩
    simp only [Scr.run, Bool.true_and, Bool.and_eq_true, beq_iff_eq] at hB
    obtain ⟨rfl, hr⟩ := hB
    exact ⟨hC, hr, h⟩
  | no =>
    intro n listed a w hC h
    exact ⟨fun hB => by simp [Scr.run] at hB, fun _ j hj => by cases hj⟩
  | q i s ih =>
    intro n listed a w hC h
    refine ⟨fun hB => ?_, fun _ j hj => by cases hj⟩
    simp only [Scr.run, Bool.true_and, Bool.and_eq_true, decide_eq_true_eq] at hB
    obtain ⟨⟨⟨⟨h0, hr⟩, hf⟩, hn⟩, hB'⟩ := hB
    obtain ⟨m, rfl⟩ : ∃ m, n = m + 1 := ⟨n - 1, by omega⟩
    have him : i ∈ Region.ready md ops listed := by simpa using hr
    obtain ⟨_, o, ho, _⟩ := mem_ready.1 him
    have hn' : noCall o.op = true := by simpa [ho] using hn
    have h' : wpQuiet P ops C (fun a' => wpScr P ops C Q s a' w) [o] a := by
      have := h; unfold wpScr at this; rwa [pick_one ho] at this
    obtain ⟨v, hy, hK⟩ := yin_of_qOp (K := wpQuiet P ops C (fun a' => wpScr P ops C Q s a' w) []) hn' h'
    exact wpAnyM_first ho (Region.noSelect_spec hs) _ listed a w (Region.free_spec ho hf) him hy ((ih m _ _ w hC hK).1 hB')
  | br i s t ihs iht =>
    intro n listed a w hC h
    obtain ⟨h1, h2⟩ := h
    have key : s.run md ops true (n - 1) (listed.setIfInBounds i true) = true → (ops[i]?).isSome = true → 0 < n → t.run md ops false n listed = true → ∀ j ∈ (Scr.br i s t).heads, ∃ m, n = m + 1 ∧ wpOp P ops noQ j (wpAnyM P md ops C Q m (listed.setIfInBounds j true)) a w := by
      intro hB1 hsome h0 hB2 j hj
      obtain ⟨m, rfl⟩ : ∃ m, n = m + 1 := ⟨n - 1, by omega⟩
      rcases List.mem_cons.1 hj with rfl | hj
      · obtain ⟨o, ho⟩ := Option.isSome_iff_exists.1 hsome
        rw [pick_one ho] at h1
        exact ⟨m, rfl, wpOp_of_act ho h1 fun a' w' hC' hk => (ihs m _ a' w' hC' hk).1 hB1⟩
      · exact (iht (m + 1) listed a w hC h2).2 hB2 j hj
    constructor
    · intro hB
      simp only [Scr.run, Bool.not_true, Bool.false_or, Bool.and_eq_true, beq_iff_eq, decide_eq_true_eq] at hB
      obtain ⟨⟨⟨⟨hr, h0⟩, hsome⟩, hB1⟩, hB2⟩ := hB
      obtain ⟨m, rfl⟩ : ∃ m, n = m + 1 := ⟨n - 1, by omega⟩
      refine ⟨hC, fun h0 => (by rw [hr] at h0; cases h0), fun j hj => ?_⟩
      rw [hr] at hj
      obtain ⟨m', hm, hw⟩ := key hB1 hsome h0 hB2 j hj
      obtain rfl : m = m' := by omega
      exact hw
    · intro hB
      simp only [Scr.run, Bool.not_false, Bool.true_or, Bool.true_and, Bool.and_eq_true, decide_eq_true_eq] at hB
      obtain ⟨⟨⟨h0, hsome⟩, hB1⟩, hB2⟩ := hB
      exact key hB1 hsome h0 hB2
def scrB (md : Region.Mode) (ops : Array Oper) (s : Scr) : Bool := Region.noSelect ops && s.run md ops true ops.size (Array.replicate ops.size false)
/-- THE REGION by a script -/
theorem wp_region_scr {id : Nat} {Q : Exit → Act → World → Prop} {a : Act} {w : World} {l : List Oper} (C : World → Prop) (s : Scr) (hm : P.follows .mixedOrders = true) (hB : scrB .any l.toArray s = true) (hC : C w.drew)
    (h : wpScr P l.toArray C (fun a'' w'' => C w'' → Q .normal a'' w'') s a w.drew) : (Code.region id l.toArray true).wp P Q a w := by
  simp only [scrB, Bool.and_eq_true] at hB
  obtain ⟨hs, hB⟩ := hB
  refine wp_region_any hm ?_
  have h1 := (wpAnyM_scr (Q := fun a'' w'' => C w'' → Q .normal a'' w'') (md := .any) hs s l.toArray.size (Array.replicate l.toArray.size false) a w.drew hC h).1 hB
  exact wpAny_of_M (fun a w hC hq => hq hC) _ _ _ _ h1
end
end Go.Cm

/- Nodes in memory; the walks of 'the place behind a tree'. Conditions: none. -/
namespace Go.Cm
open Go.RowKit Go.Proofs

def ndC (x : Nd) : List Value := [.int .i64 x.kd, .int .i64 x.n, .int .u64 x.a, .int .u64 x.b, .int .u64 x.c, .int .u64 x.d, .int .i64 x.lo, .int .i64 x.hi]
def zN : Nd := ⟨0, 0, 0, 0, 0, 0, 0, 0⟩
def NodesAt (w : World) (v : Value) (l : List Nd) : Prop := SlK 8 w v (l.map ndC)
theorem NodesAt.up {w w' : World} {v : Value} {l : List Nd} (h : NodesAt w v l) (hb : Below w.heap.size w w') : NodesAt w' v l := SlK.up h hb
theorem NodesAt.open {w : World} {v : Value} {l : List Nd} (h : NodesAt w v l) :
    ∃ oa cap b off, v = .slice oa l.length cap ∧ Hd w oa l.length cap b off ∧ ∀ i, i < l.length → ∀ c, c < 8 → w.cell? ⟨b, off + i * 8 + c, none⟩ = some ((ndC (l.getD i zN)).getD c undef) := by
  obtain ⟨oa, cap, b, off, rfl, hd, hc⟩ := h
  rw [List.length_map] at hd hc ⊢
  refine ⟨oa, cap, b, off, rfl, hd, fun i hi c hcl => ?_⟩
  rw [hc i hi c hcl]
  simp [List.getD, hi]
theorem index_node {w : World} {oa : Option Addr} {b off len cap : Nat} (h : Hd w oa len cap b off) :
    ∀ (W : World) (kd : IntKind) (i : Int), 0 ≤ i → i < len → (Instr.indexAt 48 (.slice oa len cap) (.int kd i)).run Try.prog W = .ok (.pointer (some ⟨b, off + i.toNat * 8, none⟩)) W :=
  index_anyK (P := Try.prog) 8 48 100 Try.underlying48 (by kernel_rfl) h

theorem endF_drop (L : Nat) (want : Int) (l : List Nd) (k : Nat) (h : k < l.length) :
    endF L want (l.drop k) k = if (l.getD k zN).n < 0 ∨ (L : Int) < (l.getD k zN).n then -1 else if want + ((l.getD k zN).n - 1) = 0 then (k : Int) + 1 else endF L (want + ((l.getD k zN).n - 1)) (l.drop (k + 1)) (k + 1) := by
  rw [List.drop_eq_getElem_cons h]
  simp [endF, List.getD, h]

set_option maxRecDepth 100000 in
theorem endP {w : World} {v : Value} {l : List Nd} (h : NodesAt w v l) (hl : l.length ≤ 400) (i : Nat) :
    Calls Try.prog 67 #[v, .int .i64 i] w fun e w' => e = .returned (.int .i64 (endF l.length 1 (l.drop i) i)) ∧ ∃ x, w' = ext w x := by
  obtain ⟨oa, cap, b, off, rfl, hd, hc⟩ := h.open
  have hix := index_node hd
  have HC : Hid (∀ i, i < l.length → w.cell? ⟨b, off + i * 8 + 1, none⟩ = some (.int .i64 (l.getD i zN).n)) := Lib.hid (fun i hi => hc i hi 1 (by decide))
  have HB := Lib.hid hd.hblk
  have HE := Lib.hid (endF_drop l.length)
  obtain ⟨R, hR⟩ : ∃ R, R = endF l.length 1 (l.drop i) i := ⟨_, rfl⟩
  have HR := Lib.hid hR
  rw [← hR]
  clear h hd hc hR
  go_enter Try.func67, Try.ntmps67
  go_wp2
  go_loop [1, 5] (fun iv wv => ∃ (j : Nat) (wn : Int), iv = .int .i64 j ∧ wv = .int .i64 wn ∧ 1 ≤ wn ∧ (j < l.length → wn ≤ 1 + 400 * j) ∧ R = endF l.length wn (l.drop j) j) (fun iv _ => l.length - (intOf iv).toNat)
  case atStart => exact ⟨i, 1, rfl, rfl, by omega, by omega, HR.out⟩
  case round =>
    obtain ⟨j, wn, rfl, rfl, hw1, hw2, hrr⟩ := hrel
    by_cases hlt : j < l.length
    · have hcell := HC.out j hlt
      have hb := HB.out (by omega)
      have he := HE.out wn l j hlt
      rw [← hrr] at he
      have hw3 := hw2 hlt
      generalize l.getD j zN = x at *
      obtain ⟨xk, n, xa, xb, xc, xd, xl, xh⟩ := x
      simp only at hcell he
      clear hrr hw2
      by_cases h1 : n < 0
      · rw [if_pos (.inl h1)] at he
        have HE2 := Lib.hid he
        clear he
        go_wp2
        go_ret
        exact ⟨by rw [HE2.out]; rfl, refl_ext _⟩
      · by_cases h2 : (l.length : Int) < n
        · rw [if_pos (.inr h2)] at he
          have HE2 := Lib.hid he
          clear he
          go_wp2
          go_ret
          exact ⟨by rw [HE2.out]; rfl, refl_ext _⟩
        · rw [if_neg (by omega)] at he
          have hwr : (wn - 1) + n = wn + (n - 1) := by omega
          by_cases h3 : wn + (n - 1) = 0
          · rw [if_pos h3] at he
            have HE2 := Lib.hid he
            clear he
            go_wp2
            go_ret
            exact ⟨by rw [HE2.out]; rfl, refl_ext _⟩
          · rw [if_neg h3] at he
            have HE2 := Lib.hid he
            clear he
            go_wp2
            go_round
            case rel =>
              refine ⟨j + 1, wn + (n - 1), by go_num, by go_num, by omega, fun h => by omega, HE2.out⟩
            case measure => simp [intOf]; omega
    · have hdr : l.drop j = [] := List.drop_eq_nil_of_le (by omega)
      rw [hdr] at hrr
      simp only [endF] at hrr
      have HE2 := Lib.hid hrr
      clear hrr
      go_wp2
      go_ret
      exact ⟨by rw [HE2.out]; rfl, refl_ext _⟩

set_option maxRecDepth 100000 in
theorem endR {w : World} {v : Value} {l : List Nd} (h : NodesAt w v l) (hl : l.length ≤ 400) (i : Nat) :
    Calls Try.prog 48 #[v, .int .i64 i] w fun e w' => e = .returned (.int .i64 (endF l.length 1 (l.drop i) i)) ∧ ∃ x, w' = ext w x := by
  obtain ⟨oa, cap, b, off, rfl, hd, hc⟩ := h.open
  have hix := index_node hd
  have HC : Hid (∀ i, i < l.length → w.cell? ⟨b, off + i * 8 + 1, none⟩ = some (.int .i64 (l.getD i zN).n)) := Lib.hid (fun i hi => hc i hi 1 (by decide))
  have HB := Lib.hid hd.hblk
  have HE := Lib.hid (endF_drop l.length)
  obtain ⟨R, hR⟩ : ∃ R, R = endF l.length 1 (l.drop i) i := ⟨_, rfl⟩
  have HR := Lib.hid hR
  rw [← hR]
  clear h hd hc hR
  go_enter Try.func48, Try.ntmps48
  go_wp2
  go_loop [5, 6] (fun wv iv => ∃ (j : Nat) (wn : Int), iv = .int .i64 j ∧ wv = .int .i64 wn ∧ 1 ≤ wn ∧ (j < l.length → wn ≤ 1 + 400 * j) ∧ R = endF l.length wn (l.drop j) j) (fun _ iv => l.length - (intOf iv).toNat)
  case atStart => exact ⟨i, 1, rfl, rfl, by omega, by omega, HR.out⟩
  case round =>
    obtain ⟨j, wn, rfl, rfl, hw1, hw2, hrr⟩ := hrel
    by_cases hlt : j < l.length
    · have hcell := HC.out j hlt
      have hb := HB.out (by omega)
      have he := HE.out wn l j hlt
      rw [← hrr] at he
      have hw3 := hw2 hlt
      generalize l.getD j zN = x at *
      obtain ⟨xk, n, xa, xb, xc, xd, xl, xh⟩ := x
      simp only at hcell he
      clear hrr hw2
      by_cases h1 : n < 0
      · rw [if_pos (.inl h1)] at he
        have HE2 := Lib.hid he
        clear he
        go_wp2
        go_ret
        exact ⟨by rw [HE2.out]; rfl, refl_ext _⟩
      · by_cases h2 : (l.length : Int) < n
        · rw [if_pos (.inr h2)] at he
          have HE2 := Lib.hid he
          clear he
          go_wp2
          go_ret
          exact ⟨by rw [HE2.out]; rfl, refl_ext _⟩
        · rw [if_neg (by omega)] at he
          have hwr : (wn - 1) + n = wn + (n - 1) := by omega
          by_cases h3 : wn + (n - 1) = 0
          · rw [if_pos h3] at he
            have HE2 := Lib.hid he
            clear he
            go_wp2
            go_ret
            exact ⟨by rw [HE2.out]; rfl, refl_ext _⟩
          · rw [if_neg h3] at he
            have HE2 := Lib.hid he
            clear he
            go_wp2
            go_round
            case rel =>
              refine ⟨j + 1, wn + (n - 1), by go_num, by go_num, by omega, fun h => by omega, HE2.out⟩
            case measure => simp [intOf]; omega
    · have hdr : l.drop j = [] := List.drop_eq_nil_of_le (by omega)
      rw [hdr] at hrr
      simp only [endF] at hrr
      have HE2 := Lib.hid hrr
      clear hrr
      go_wp2
      go_ret
      exact ⟨by rw [HE2.out]; rfl, refl_ext _⟩

end Go.Cm

/- The walks of what a node must have, and of what is wrong of a tree. Conditions: none. -/
namespace Go.Cm
open Go.RowKit Go.Proofs

/-- '==' on arrays of ints of one kind -/
theorem run_equalIn_kind {P : Program} (w : World) (κ : IntKind) (T E n : Nat) (hT : P.underlying T = some (.array n E)) (hE : P.underlying E = some (.int κ)) (hs : (P.info? E).map (·.size) = some 1)
    (xs ys : Array Value) (l m : List Int) (hl : l.length = n) (hm : m.length = n) (hx : ∀ i, i < n → xs[i]? = some (.int κ (l.getD i 0))) (hy : ∀ i, i < n → ys[i]? = some (.int κ (m.getD i 0))) (d : Nat) :
    (Op.equalIn (d + 2) T (.agg xs) (.agg ys)).run P w = .ok (decide (l = m)) w := by
  have hsz : ∀ W, (sizeOf E).run P W = .ok 1 W := fun W => by
    cases hq : P.info? E with
    | none => simp [hq] at hs
    | some inf => have : inf.size = 1 := by simpa [hq] using hs
                  simp [sizeOf, typeInfo, hq, this]
  have hag : ∀ W, (isAgg E).run P W = .ok false W := fun W => by unfold isAgg; rw [Sem.run_bind, run_underlying hE]; rfl
  have hpart : ∀ (zs : Array Value) (q : List Int) (i : Nat) (W : World), zs[i]? = some (.int κ (q.getD i 0)) → (part E zs (i * 1)).run P W = .ok (.int κ (q.getD i 0)) W := fun zs q i W h => by
    unfold part; rw [Sem.run_bind, hag]; simp only [Result.andThen, Nat.mul_one, h]; rfl
  have hel : ∀ (x y : Int) (W : World), (Op.equalIn (d + 1) E (.int κ x) (.int κ y)).run P W = .ok (x == y) W := fun x y W => by
    rw [Op.equalIn, Sem.run_bind, run_underlying hE]; simp [Result.andThen]
  rw [Op.equalIn, Sem.run_bind, run_underlying hT]
  simp only [Result.andThen_ok, Sem.run_bind, hsz]
  have key : ∀ (k s : Nat), s + k = n → l.take s = m.take s → ∀ W, (forIn (List.range' s k) ((none, ()) : Option Bool × Unit) fun i r => do
      let __do_lift ← part E xs (i * 1)
      let __do_lift_1 ← part E ys (i * 1)
      let __do_lift ← Op.equalIn (d + 1) E __do_lift __do_lift_1
      if (!__do_lift) = true then pure (ForInStep.done (some false, ())) else pure (ForInStep.yield (none, ())) : Sem (Option Bool × Unit)).run P W = .ok (if l = m then (none, ()) else (some false, ())) W := by
    intro k
    induction k with
    | zero =>
      intro s hs' ht W
      have : l = m := by rwa [List.take_of_length_le (by omega), List.take_of_length_le (by omega)] at ht
      simp [this]
    | succ k ih =>
      intro s hs' ht W
      simp only [List.range'_succ, List.forIn_cons, Sem.run_bind, hpart xs l s W (hx s (by omega)), Result.andThen_ok, hpart ys m s W (hy s (by omega)), hel]
      by_cases he : l.getD s 0 = m.getD s 0
      · have h2 : l.take (s + 1) = m.take (s + 1) := by
          have he' : l[s]'(by omega) = m[s]'(by omega) := by simpa [List.getD, show s < l.length by omega, show s < m.length by omega] using he
          rw [List.take_succ_eq_append_getElem (by omega), List.take_succ_eq_append_getElem (by omega), ht, he']
        have h3 := ih (s + 1) (by omega) h2 W
        simp only [he, beq_self_eq_true, Bool.not_true, Bool.false_eq_true, if_false]
        exact h3
      · have hne : l ≠ m := fun h => he (by rw [h])
        have hb : (l.getD s 0 == m.getD s 0) = false := by simpa using he
        simp only [hb, Bool.not_false, if_true, Sem.run_pure, Result.andThen_ok, hne, if_false]
  have h0 := key n 0 (by omega) (by simp) w
  rw [Std.Legacy.Range.forIn_eq_forIn_range']
  simp only [Std.Legacy.Range.size, Nat.sub_zero, Nat.add_sub_cancel, Nat.div_one]
  rw [h0]
  by_cases he : l = m <;> simp [he]

def setA (a b c d : Int) : Array Value := #[.int .u64 a, .int .u64 b, .int .u64 c, .int .u64 d]
def ndA (x : Nd) : Array Value := #[.int .i64 x.kd, .int .i64 x.n, .int .u64 x.a, .int .u64 x.b, .int .u64 x.c, .int .u64 x.d, .int .i64 x.lo, .int .i64 x.hi]
theorem setA_at (a b c d : Int) : ∀ i, i < 4 → (setA a b c d)[i]? = some (.int .u64 ([a, b, c, d].getD i 0)) := by
  intro i hi
  rcases (show i = 0 ∨ i = 1 ∨ i = 2 ∨ i = 3 by omega) with rfl | rfl | rfl | rfl <;> rfl
theorem run_equal_set (W : World) (q : Nat) (a b c d a' b' c' d' : Int) : (Op.equalIn (q + 2) 55 (.agg (setA a b c d)) (.agg (setA a' b' c' d'))).run Try.prog W = .ok (decide ([a, b, c, d] = [a', b', c', d'])) W :=
  run_equalIn_kind W .u64 55 53 4 Try.underlying55 Try.underlying53 (by kernel_rfl) _ _ [a, b, c, d] [a', b', c', d'] rfl rfl (setA_at a b c d) (setA_at a' b' c' d') q
theorem run_eq_set (W : World) (a b c d a' b' c' d' : Int) : (binOp .eql 55 (.agg (setA a b c d)) (.agg (setA a' b' c' d'))).run Try.prog W = .ok (.bool (decide ([a, b, c, d] = [a', b', c', d']))) W := by
  rw [run_eql_struct, run_equal_set W 9998]; rfl
theorem run_ne_set (W : World) (a b c d a' b' c' d' : Int) : (binOp .neq 55 (.agg (setA a b c d)) (.agg (setA a' b' c' d'))).run Try.prog W = .ok (.bool (!decide ([a, b, c, d] = [a', b', c', d']))) W := by
  rw [run_neq_struct, run_equal_set W 9998]; rfl
theorem part_set (W : World) (x : Nd) : (part 55 (ndA x) 2).run Try.prog W = .ok (.agg (setA x.a x.b x.c x.d)) W := by
  unfold part
  have h1 : (isAgg 55).run Try.prog W = .ok true W := by unfold isAgg; rw [Sem.run_bind, run_underlying Try.underlying55]; rfl
  rw [Sem.run_bind, h1]
  simp only [Result.andThen_ok, if_true, Sem.run_bind, size_run (P := Try.prog) (E := 55) (k := 4) (by kernel_rfl)]
  rfl
theorem part_int (W : World) (A : Array Value) (o : Nat) (v : Int) (h : A[o]? = some (.int .i64 v)) : (part 3 A o).run Try.prog W = .ok (.int .i64 v) W := by
  unfold part
  have h1 : (isAgg 3).run Try.prog W = .ok false W := by unfold isAgg; rw [Sem.run_bind, run_underlying Try.underlying3]; rfl
  rw [Sem.run_bind, h1]
  simp only [Result.andThen_ok, h]; rfl
def sameN (x y : Nd) : Prop := x.kd = y.kd ∧ x.n = y.n ∧ [x.a, x.b, x.c, x.d] = [y.a, y.b, y.c, y.d] ∧ x.lo = y.lo ∧ x.hi = y.hi
instance (x y : Nd) : Decidable (sameN x y) := by unfold sameN; infer_instance
theorem run_equal_node (W : World) (x y : Nd) : (Op.equalIn 10000 100 (.agg (ndA x)) (.agg (ndA y))).run Try.prog W = .ok (decide (sameN x y)) W := by
  have hu : Try.prog.underlying 100 = some (.struct (Try.prog.fieldsOf 100)) := by simp only [Program.fieldsOf, Try.underlying100]
  rw [run_equalIn_struct W 9999 100 _ _ hu (by kernel_rfl)]
  simp only [Program.fieldsOf, Try.underlying100]
  have p0 := fun (W : World) (z : Nd) => part_int W (ndA z) 0 z.kd rfl
  have p1 := fun (W : World) (z : Nd) => part_int W (ndA z) 1 z.n rfl
  have p6 := fun (W : World) (z : Nd) => part_int W (ndA z) 6 z.lo rfl
  have p7 := fun (W : World) (z : Nd) => part_int W (ndA z) 7 z.hi rfl
  have ei : ∀ (a b : Int) (W : World), (Op.equalIn 9999 3 (.int .i64 a) (.int .i64 b)).run Try.prog W = .ok (a == b) W := fun a b W => run_equalIn_int W 9998 3 .i64 .i64 a b Try.underlying3
  have es : ∀ (W : World), (Op.equalIn 9999 55 (.agg (setA x.a x.b x.c x.d)) (.agg (setA y.a y.b y.c y.d))).run Try.prog W = .ok (decide ([x.a, x.b, x.c, x.d] = [y.a, y.b, y.c, y.d])) W := fun W => run_equal_set W 9997 _ _ _ _ _ _ _ _
  simp only [Op.eqFields, ne_eq, String.reduceEq, not_false_eq_true, if_true, Sem.run_bind, Sem.run_ite, Sem.run_pure, p0, p1, p6, p7, part_set, Result.andThen_ok, ei, es]
  have hd : decide (sameN x y) = (x.kd == y.kd && (x.n == y.n && (decide ([x.a, x.b, x.c, x.d] = [y.a, y.b, y.c, y.d]) && (x.lo == y.lo && x.hi == y.hi)))) := by
    rw [Bool.eq_iff_iff, decide_eq_true_iff]
    unfold sameN
    simp only [Bool.and_eq_true, beq_iff_eq, decide_eq_true_iff]
  rw [hd]
  generalize (x.kd == y.kd) = b1
  generalize (x.n == y.n) = b2
  generalize (x.lo == y.lo) = b4
  generalize (x.hi == y.hi) = b5
  generalize decide ([x.a, x.b, x.c, x.d] = [y.a, y.b, y.c, y.d]) = b3
  cases b1 <;> cases b2 <;> cases b3 <;> cases b4 <;> cases b5 <;> rfl
theorem run_eq_node (W : World) (x y : Nd) : (binOp .eql 100 (.agg (ndA x)) (.agg (ndA y))).run Try.prog W = .ok (.bool (decide (sameN x y))) W := by
  rw [run_eql_struct, run_equal_node]; rfl

theorem countsP {w : World} (lo hi : Int) : Calls Try.prog 79 #[.int .i64 lo, .int .i64 hi] w fun e w' => e = .returned (.bool (decide (0 ≤ lo ∧ lo ≤ 30 ∧ (hi = -1 ∨ (lo ≤ hi ∧ hi ≤ 30))))) ∧ ∃ x, w' = ext w x := by
  obtain ⟨r, hr⟩ : ∃ r, r = decide (0 ≤ lo ∧ lo ≤ 30 ∧ (hi = -1 ∨ (lo ≤ hi ∧ hi ≤ 30))) := ⟨_, rfl⟩
  have HR := Lib.hid hr
  rw [← hr]
  clear hr
  go_enter Try.func79, Try.ntmps79
  go_wp2
  all_goals (go_ret; refine ⟨congrArg (fun b => Ending.returned (Value.bool b)) ?_, refl_ext _⟩; rw [HR.out, Bool.eq_iff_iff]; simp; omega)

/- '==' and '!=' as the walks meet them -/
theorem cmp_ne (W : World) (a b c d a' b' c' d' : Int) : (binOp .neq 55 (.agg #[.int .u64 a, .int .u64 b, .int .u64 c, .int .u64 d]) (.agg #[.int .u64 a', .int .u64 b', .int .u64 c', .int .u64 d'])).run Try.prog W = .ok (.bool (!decide (a = a' ∧ b = b' ∧ c = c' ∧ d = d'))) W := by
  have h := run_ne_set W a b c d a' b' c' d'
  simp only [setA, List.cons.injEq, and_true] at h
  exact h
theorem cmp_eq (W : World) (a b c d a' b' c' d' : Int) : (binOp .eql 55 (.agg #[.int .u64 a, .int .u64 b, .int .u64 c, .int .u64 d]) (.agg #[.int .u64 a', .int .u64 b', .int .u64 c', .int .u64 d'])).run Try.prog W = .ok (.bool (decide (a = a' ∧ b = b' ∧ c = c' ∧ d = d'))) W := by
  have h := run_eq_set W a b c d a' b' c' d'
  simp only [setA, List.cons.injEq, and_true] at h
  exact h
theorem cmp_node (W : World) (k n a b c d lo hi k' n' a' b' c' d' lo' hi' : Int) : (binOp .eql 100 (.agg #[.int .i64 k, .int .i64 n, .int .u64 a, .int .u64 b, .int .u64 c, .int .u64 d, .int .i64 lo, .int .i64 hi]) (.agg #[.int .i64 k', .int .i64 n', .int .u64 a', .int .u64 b', .int .u64 c', .int .u64 d', .int .i64 lo', .int .i64 hi'])).run Try.prog W =
    .ok (.bool (decide (k = k' ∧ n = n' ∧ (a = a' ∧ b = b' ∧ c = c' ∧ d = d') ∧ lo = lo' ∧ hi = hi'))) W := by
  have h := run_eq_node W ⟨k, n, a, b, c, d, lo, hi⟩ ⟨k', n', a', b', c', d', lo', hi'⟩
  simp only [ndA, sameN, List.cons.injEq, and_true] at h
  exact h
theorem eqGuard_set (W : World) (o : BinOp) (x y : Operand) (X Y : Array Value) : (eqGuard o 55 x y (.agg X) (.agg Y)).run Try.prog W = .ok () W := run_eqGuard_agg W o 55 x y X Y (by kernel_rfl)
theorem eqGuard_node (W : World) (o : BinOp) (x y : Operand) (X Y : Array Value) : (eqGuard o 100 x y (.agg X) (.agg Y)).run Try.prog W = .ok () W := run_eqGuard_agg W o 100 x y X Y (by kernel_rfl)

set_option maxRecDepth 100000 in
set_option maxHeartbeats 4000000 in
theorem fitsP {w : World} (x : Nd) : Calls Try.prog 68 #[.agg (ndA x)] w fun e w' => e = .returned (.bool (decide (okN x))) ∧ ∃ x, w' = ext w x := by
  have HCN := Lib.hid (fun w => countsP (w := w) x.lo x.hi)
  obtain ⟨r, hr⟩ : ∃ r, r = decide (okN x) := ⟨_, rfl⟩
  have HR := Lib.hid hr
  rw [← hr]
  have c1 := cmp_ne
  have c2 := cmp_eq
  have c3 := cmp_node
  have g1 := eqGuard_set
  have g2 := eqGuard_node
  clear hr
  obtain ⟨k, n, a, b, c, d, lo, hi⟩ := x
  unfold ndA
  simp only at HCN
  go_enter Try.func68, Try.ntmps68
  by_cases h1 : k = 1
  · go_wp2
    all_goals (go_ret; refine ⟨congrArg (fun b => Ending.returned (Value.bool b)) ?_, ex_ext ?_⟩)
    all_goals first
      | (rw [HR.out, Bool.eq_iff_iff]; unfold okN noSet bare; simp; omega)
      | (repeat' first | exact Below.refl _ _ | refine Below.setCell ?_ ?_ _ | refine Below.alloc ?_ ?_ _ | (simp; done) | (simp; omega))
  · skip
    by_cases h2 : k = 2
    · go_wp2
      all_goals (go_ret; refine ⟨congrArg (fun b => Ending.returned (Value.bool b)) ?_, ex_ext ?_⟩)
      all_goals first
        | (rw [HR.out, Bool.eq_iff_iff]; unfold okN noSet bare; simp; omega)
        | (repeat' first | exact Below.refl _ _ | refine Below.setCell ?_ ?_ _ | refine Below.alloc ?_ ?_ _ | (simp; done) | (simp; omega))
    · skip
      by_cases h3 : k = 3
      · go_wp2
        all_goals (go_ret; refine ⟨congrArg (fun b => Ending.returned (Value.bool b)) ?_, ex_ext ?_⟩)
        all_goals first
          | (rw [HR.out, Bool.eq_iff_iff]; unfold okN noSet bare; simp; omega)
          | (repeat' first | exact Below.refl _ _ | refine Below.setCell ?_ ?_ _ | refine Below.alloc ?_ ?_ _ | (simp; done) | (simp; omega))
      · skip
        by_cases h4 : k = 4
        · go_wp2
          all_goals (go_ret; refine ⟨congrArg (fun b => Ending.returned (Value.bool b)) ?_, ex_ext ?_⟩)
          all_goals first
            | (rw [HR.out, Bool.eq_iff_iff]; unfold okN noSet bare; simp; omega)
            | (repeat' first | exact Below.refl _ _ | refine Below.setCell ?_ ?_ _ | refine Below.alloc ?_ ?_ _ | (simp; done) | (simp; omega))
        · skip
          by_cases h5 : k = 5
          · go_wp2
            all_goals (go_ret; refine ⟨congrArg (fun b => Ending.returned (Value.bool b)) ?_, ex_ext ?_⟩)
            all_goals first
              | (rw [HR.out, Bool.eq_iff_iff]; unfold okN noSet bare; simp; omega)
              | (repeat' first | exact Below.refl _ _ | refine Below.setCell ?_ ?_ _ | refine Below.alloc ?_ ?_ _ | (simp; done) | (simp; omega))
          · skip
            by_cases h6 : k = 6
            · go_wp2
              all_goals (go_ret; refine ⟨congrArg (fun b => Ending.returned (Value.bool b)) ?_, ex_ext ?_⟩)
              all_goals first
                | (rw [HR.out, Bool.eq_iff_iff]; unfold okN noSet bare; simp; omega)
                | (repeat' first | exact Below.refl _ _ | refine Below.setCell ?_ ?_ _ | refine Below.alloc ?_ ?_ _ | (simp; done) | (simp; omega))
            · skip
              by_cases h7 : k = 7
              · go_wp2
                all_goals (go_ret; refine ⟨congrArg (fun b => Ending.returned (Value.bool b)) ?_, ex_ext ?_⟩)
                all_goals first
                  | (rw [HR.out, Bool.eq_iff_iff]; unfold okN noSet bare; simp; omega)
                  | (repeat' first | exact Below.refl _ _ | refine Below.setCell ?_ ?_ _ | refine Below.alloc ?_ ?_ _ | (simp; done) | (simp; omega))
              · skip
                by_cases h8 : k = 8
                · go_wp2_with (with_reducible go_at_call 79; refine (HCN.out _).mono ?_; rintro en w' ⟨rfl, x5, rfl⟩)
                  all_goals (go_ret; refine ⟨congrArg (fun b => Ending.returned (Value.bool b)) ?_, ex_ext ?_⟩)
                  all_goals first
                    | (rw [HR.out, Bool.eq_iff_iff]; unfold okN noSet bare; simp; omega)
                    | (repeat' first | exact Below.refl _ _ | refine Below.setCell ?_ ?_ _ | refine Below.alloc ?_ ?_ _ | refine b_ext' ?_ _ | (simp; done) | (simp; omega))
                · skip
                  go_wp2
                  all_goals (go_ret; refine ⟨congrArg (fun b => Ending.returned (Value.bool b)) ?_, ex_ext ?_⟩)
                  all_goals first
                    | (rw [HR.out, Bool.eq_iff_iff]; unfold okN noSet bare; simp; omega)
                    | (repeat' first | exact Below.refl _ _ | refine Below.setCell ?_ ?_ _ | refine Below.alloc ?_ ?_ _ | (simp; done) | (simp; omega))
end Go.Cm

/- The walk of the document's 'what a node must have'. Conditions: none. -/
namespace Go.Cm
open Go.RowKit Go.Proofs

set_option maxRecDepth 100000 in
set_option maxHeartbeats 4000000 in
theorem rightR {w : World} (x : Nd) : Calls Try.prog 49 #[.agg (ndA x)] w fun e w' => e = .returned (.bool (decide (okN x))) ∧ ∃ x, w' = ext w x := by
  obtain ⟨r, hr⟩ : ∃ r, r = decide (okN x) := ⟨_, rfl⟩
  have HR := Lib.hid hr
  rw [← hr]
  have c1 := cmp_ne
  have c2 := cmp_eq
  have c3 := cmp_node
  have g1 := eqGuard_set
  have g2 := eqGuard_node
  clear hr
  obtain ⟨k, n, a, b, c, d, lo, hi⟩ := x
  unfold ndA
  go_enter Try.func49, Try.ntmps49
  by_cases h1 : k = 1
  · go_wp2
    all_goals (go_ret; refine ⟨congrArg (fun b => Ending.returned (Value.bool b)) ?_, ex_ext ?_⟩)
    all_goals first
      | (rw [HR.out, Bool.eq_iff_iff]; unfold okN noSet bare; simp; omega)
      | (repeat' first | exact Below.refl _ _ | refine Below.setCell ?_ ?_ _ | refine Below.alloc ?_ ?_ _ | (simp; done) | (simp; omega))
  · skip
    by_cases h2 : k = 2
    · go_wp2
      all_goals (go_ret; refine ⟨congrArg (fun b => Ending.returned (Value.bool b)) ?_, ex_ext ?_⟩)
      all_goals first
        | (rw [HR.out, Bool.eq_iff_iff]; unfold okN noSet bare; simp; omega)
        | (repeat' first | exact Below.refl _ _ | refine Below.setCell ?_ ?_ _ | refine Below.alloc ?_ ?_ _ | (simp; done) | (simp; omega))
    · skip
      by_cases h3 : k = 3
      · go_wp2
        all_goals (go_ret; refine ⟨congrArg (fun b => Ending.returned (Value.bool b)) ?_, ex_ext ?_⟩)
        all_goals first
          | (rw [HR.out, Bool.eq_iff_iff]; unfold okN noSet bare; simp; omega)
          | (repeat' first | exact Below.refl _ _ | refine Below.setCell ?_ ?_ _ | refine Below.alloc ?_ ?_ _ | (simp; done) | (simp; omega))
      · skip
        by_cases h4 : k = 4
        · go_wp2
          all_goals (go_ret; refine ⟨congrArg (fun b => Ending.returned (Value.bool b)) ?_, ex_ext ?_⟩)
          all_goals first
            | (rw [HR.out, Bool.eq_iff_iff]; unfold okN noSet bare; simp; omega)
            | (repeat' first | exact Below.refl _ _ | refine Below.setCell ?_ ?_ _ | refine Below.alloc ?_ ?_ _ | (simp; done) | (simp; omega))
        · skip
          by_cases h5 : k = 5
          · go_wp2
            all_goals (go_ret; refine ⟨congrArg (fun b => Ending.returned (Value.bool b)) ?_, ex_ext ?_⟩)
            all_goals first
              | (rw [HR.out, Bool.eq_iff_iff]; unfold okN noSet bare; simp; omega)
              | (repeat' first | exact Below.refl _ _ | refine Below.setCell ?_ ?_ _ | refine Below.alloc ?_ ?_ _ | (simp; done) | (simp; omega))
          · skip
            by_cases h6 : k = 6
            · go_wp2
              all_goals (go_ret; refine ⟨congrArg (fun b => Ending.returned (Value.bool b)) ?_, ex_ext ?_⟩)
              all_goals first
                | (rw [HR.out, Bool.eq_iff_iff]; unfold okN noSet bare; simp; omega)
                | (repeat' first | exact Below.refl _ _ | refine Below.setCell ?_ ?_ _ | refine Below.alloc ?_ ?_ _ | (simp; done) | (simp; omega))
            · skip
              by_cases h7 : k = 7
              · go_wp2
                all_goals (go_ret; refine ⟨congrArg (fun b => Ending.returned (Value.bool b)) ?_, ex_ext ?_⟩)
                all_goals first
                  | (rw [HR.out, Bool.eq_iff_iff]; unfold okN noSet bare; simp; omega)
                  | (repeat' first | exact Below.refl _ _ | refine Below.setCell ?_ ?_ _ | refine Below.alloc ?_ ?_ _ | (simp; done) | (simp; omega))
              · skip
                by_cases h8 : k = 8
                · go_wp2
                  all_goals (go_ret; refine ⟨congrArg (fun b => Ending.returned (Value.bool b)) ?_, ex_ext ?_⟩)
                  all_goals first
                    | (rw [HR.out, Bool.eq_iff_iff]; unfold okN noSet bare; simp; omega)
                    | (repeat' first | exact Below.refl _ _ | refine Below.setCell ?_ ?_ _ | refine Below.alloc ?_ ?_ _ | refine b_ext' ?_ _ | (simp; done) | (simp; omega))
                · skip
                  go_wp2
                  all_goals (go_ret; refine ⟨congrArg (fun b => Ending.returned (Value.bool b)) ?_, ex_ext ?_⟩)
                  all_goals first
                    | (rw [HR.out, Bool.eq_iff_iff]; unfold okN noSet bare; simp; omega)
                    | (repeat' first | exact Below.refl _ _ | refine Below.setCell ?_ ?_ _ | refine Below.alloc ?_ ?_ _ | (simp; done) | (simp; omega))
end Go.Cm

/- The walks of 'what is wrong of a tree', the program's and the document's. Conditions: none. -/
namespace Go.Cm
open Go.RowKit Go.Proofs

def codeChk (l : List Nd) : Int := if Chk l then 0 else 4
theorem ndC_get (x : Nd) (c : Nat) : (ndC x).getD c undef = (ndA x).getD c undef := by unfold ndC ndA; simp [List.getD, Array.getD_eq_getD_getElem?]
theorem nd_at (l : List Nd) (q : Nat) (h : q < l.length) : l.getD q zN = l[q] := by simp [List.getD, h]
set_option maxRecDepth 100000 in
theorem checkP {w : World} {v : Value} {l : List Nd} (h : NodesAt w v l) :
    Calls Try.prog 51 #[v] w fun e w' => e = .returned (.int .i64 (codeChk l)) ∧ ∃ x, w' = ext w x := by
  have HEND := Lib.hid (fun hl => endP h hl 0)
  obtain ⟨oa, cap, b, off, rfl, hd, hc⟩ := h.open
  have hix := index_node hd
  have HC : Hid (∀ i, i < l.length → ∀ c, c < 8 → w.cell? ⟨b, off + i * 8 + c, none⟩ = some ((ndA (l.getD i zN)).getD c undef)) := Lib.hid (fun i hi c h8 => by rw [hc i hi c h8, ndC_get])
  have HB := Lib.hid hd.hblk
  have hm := hd.len
  obtain ⟨R, hR⟩ : ∃ R, R = codeChk l := ⟨_, rfl⟩
  have HR := Lib.hid hR
  have HF : Hid (∀ w k n a b c d lo hi, Calls Try.prog 68 #[.agg #[.int .i64 k, .int .i64 n, .int .u64 a, .int .u64 b, .int .u64 c, .int .u64 d, .int .i64 lo, .int .i64 hi]] w fun e w' => e = .returned (.bool (decide (okN ⟨k, n, a, b, c, d, lo, hi⟩))) ∧ ∃ x, w' = ext w x) := Lib.hid (fun w k n a b c d lo hi => fitsP ⟨k, n, a, b, c, d, lo, hi⟩)
  have H4 : Hid (¬ Chk l → R = 4) := Lib.hid (fun h => by rw [hR]; unfold codeChk; rw [if_neg h])
  have H0 : Hid (Chk l → R = 0) := Lib.hid (fun h => by rw [hR]; unfold codeChk; rw [if_pos h])
  have HCH : Hid (Chk l ↔ (l.length ≤ 400 ∧ l.length ≠ 0 ∧ endF l.length 1 l 0 = l.length ∧ ∀ x ∈ l, okN x)) := Lib.hid (by unfold Chk; exact Iff.rfl)
  rw [← hR]
  clear h hd hc hR
  go_enter Try.func51, Try.ntmps51
  by_cases h0 : l.length = 0
  · have HV := Lib.hid (H4.out (fun h => (HCH.out.1 h).2.1 h0))
    go_wp2
    go_ret
    exact ⟨by rw [HV.out]; rfl, refl_ext _⟩
  · by_cases h1 : 400 < l.length
    · have HV := Lib.hid (H4.out (fun h => by have := (HCH.out.1 h).1; omega))
      go_wp2
      go_ret
      exact ⟨by rw [HV.out]; rfl, refl_ext _⟩
    · have hb0 : ((l.length : Int) == 0) = false := by simpa using h0
      have hb1 : decide ((400 : Int) < l.length) = false := by simp; omega
      have HE := Lib.hid (HEND.out (by omega))
      obtain ⟨z, hz⟩ : ∃ z, z = endF l.length 1 (l.drop 0) 0 := ⟨_, rfl⟩
      rw [← hz] at HE
      rw [List.drop_zero] at hz
      rw [show ((0 : Nat) : Int) = 0 from rfl] at HE
      by_cases h2 : z = l.length
      · have HZ := Lib.hid (hz.symm.trans h2)
        clear hz
        subst h2
        go_wp2_with (with_reducible go_at_call 67; refine (HE.out).mono ?_; rintro en w' ⟨rfl, x1, rfl⟩)
        go_loopg [22] (l.length) (fun gk iv wr => ∃ j : Nat, iv = .int .i64 j ∧ j ≤ l.length ∧ (∀ q, q < j → okN (l.getD q zN)) ∧ (∃ x, wr = ext w x) ∧ gk = l.length - j)
        case atStart => exact ⟨0, rfl, Nat.zero_le _, fun q hq => absurd hq (Nat.not_lt_zero q), ⟨x1, rfl⟩, rfl⟩
        case round =>
          obtain ⟨j, rfl, hj, hall, ⟨xr, rfl⟩, rfl⟩ := hrel
          have HA := Lib.hid hall
          clear hall
          by_cases hlt : j < l.length
          · have hcell := HC.out j hlt
            have HBJ := Lib.hid (HB.out (by omega))
            obtain ⟨y, hy⟩ : ∃ y, y = l.getD j zN := ⟨_, rfl⟩
            rw [← hy] at hcell
            have HY := Lib.hid hy
            clear hy
            obtain ⟨k, n, a, b', c, d, lo, hi⟩ := y
            have HCE : Hid (∀ c', c' < 8 → (ext w xr).cell? ⟨b, off + j * 8 + c', none⟩ = some ((#[.int .i64 k, .int .i64 n, .int .u64 a, .int .u64 b', .int .u64 c, .int .u64 d, .int .i64 lo, .int .i64 hi] : Array Value).getD c' undef)) := Lib.hid (fun c' h => by rw [cell?_ext _ _ _ _ HBJ.out]; exact hcell c' h)
            clear hcell
            have HF1 := Lib.hid (fun w => HF.out w k n a b' c d lo hi)
            by_cases hok : okN ⟨k, n, a, b', c, d, lo, hi⟩
            · have hdo : decide (okN ⟨k, n, a, b', c, d, lo, hi⟩) = true := by simpa using hok
              have HOK := Lib.hid hok
              clear hok
              rw [hdo] at HF1
              go_wp2_with (first | (refine wpList_load_cells rfl 100 _ rfl b (off + j * 8) 8 rfl _ _ HCE.out rfl Try.underlying100 rfl (by kernel_rfl) ?_) | ((with_reducible go_at_call 68); refine (HF1.out _).mono ?_; rintro en w' ⟨rfl, x2, rfl⟩))
              go_roundg (l.length - (j + 1))
              case measure => omega
              case rel =>
                refine ⟨j + 1, by go_num, by omega, fun q hq => ?_, ex_ext (b_ext' (Below.alloc (ext_below w xr) (size_ext w xr) _) x2), rfl⟩
                by_cases hqj : q = j
                · rw [hqj, ← HY.out]; exact HOK.out
                · exact HA.out q (by omega)
            · have hdo : decide (okN ⟨k, n, a, b', c, d, lo, hi⟩) = false := by simpa using hok
              have HV := Lib.hid (H4.out (fun h => hok (by rw [HY.out]; exact (HCH.out.1 h).2.2.2 _ (by rw [nd_at l j hlt]; exact List.getElem_mem hlt))))
              clear hok
              rw [hdo] at HF1
              go_wp2_with (first | (refine wpList_load_cells rfl 100 _ rfl b (off + j * 8) 8 rfl _ _ HCE.out rfl Try.underlying100 rfl (by kernel_rfl) ?_) | ((with_reducible go_at_call 68); refine (HF1.out _).mono ?_; rintro en w' ⟨rfl, x2, rfl⟩))
              go_ret
              exact ⟨by rw [HV.out]; rfl, ex_ext (b_ext' (Below.alloc (ext_below w xr) (size_ext w xr) _) x2)⟩
          · have HV := Lib.hid (H0.out (HCH.out.2 ⟨by omega, h0, HZ.out, fun y hy => by
              obtain ⟨q, hq, rfl⟩ := List.getElem_of_mem hy
              have := HA.out q (by omega)
              rwa [nd_at l q hq] at this⟩))
            go_wp2
            go_ret
            exact ⟨by rw [HV.out]; rfl, xr, rfl⟩
      · have HV := Lib.hid (H4.out (fun h => h2 (hz.trans (HCH.out.1 h).2.2.1)))
        clear hz
        go_wp2_with (with_reducible go_at_call 67; refine (HE.out).mono ?_; rintro en w' ⟨rfl, x1, rfl⟩)
        go_ret
        exact ⟨by rw [HV.out]; rfl, x1, rfl⟩
set_option maxRecDepth 100000 in
theorem checkR {w : World} {v : Value} {l : List Nd} (h : NodesAt w v l) :
    Calls Try.prog 32 #[v] w fun e w' => e = .returned (.int .i64 (codeChk l)) ∧ ∃ x, w' = ext w x := by
  have HEND := Lib.hid (fun hl => endR h hl 0)
  obtain ⟨oa, cap, b, off, rfl, hd, hc⟩ := h.open
  have hix := index_node hd
  have HC : Hid (∀ i, i < l.length → ∀ c, c < 8 → w.cell? ⟨b, off + i * 8 + c, none⟩ = some ((ndA (l.getD i zN)).getD c undef)) := Lib.hid (fun i hi c h8 => by rw [hc i hi c h8, ndC_get])
  have HB := Lib.hid hd.hblk
  have hm := hd.len
  obtain ⟨R, hR⟩ : ∃ R, R = codeChk l := ⟨_, rfl⟩
  have HR := Lib.hid hR
  have HF : Hid (∀ w k n a b c d lo hi, Calls Try.prog 49 #[.agg #[.int .i64 k, .int .i64 n, .int .u64 a, .int .u64 b, .int .u64 c, .int .u64 d, .int .i64 lo, .int .i64 hi]] w fun e w' => e = .returned (.bool (decide (okN ⟨k, n, a, b, c, d, lo, hi⟩))) ∧ ∃ x, w' = ext w x) := Lib.hid (fun w k n a b c d lo hi => rightR ⟨k, n, a, b, c, d, lo, hi⟩)
  have H4 : Hid (¬ Chk l → R = 4) := Lib.hid (fun h => by rw [hR]; unfold codeChk; rw [if_neg h])
  have H0 : Hid (Chk l → R = 0) := Lib.hid (fun h => by rw [hR]; unfold codeChk; rw [if_pos h])
  have HCH : Hid (Chk l ↔ (l.length ≤ 400 ∧ l.length ≠ 0 ∧ endF l.length 1 l 0 = l.length ∧ ∀ x ∈ l, okN x)) := Lib.hid (by unfold Chk; exact Iff.rfl)
  rw [← hR]
  clear h hd hc hR
  go_enter Try.func32, Try.ntmps32
  by_cases h1 : 400 < l.length
  · have HV := Lib.hid (H4.out (fun h => by have := (HCH.out.1 h).1; omega))
    go_wp2
    go_ret
    exact ⟨by rw [HV.out]; rfl, refl_ext _⟩
  · have hb1 : decide ((400 : Int) < l.length) = false := by simp; omega
    have HE := Lib.hid (HEND.out (by omega))
    obtain ⟨z, hz⟩ : ∃ z, z = endF l.length 1 (l.drop 0) 0 := ⟨_, rfl⟩
    rw [← hz] at HE
    rw [List.drop_zero] at hz
    rw [show ((0 : Nat) : Int) = 0 from rfl] at HE
    by_cases h2 : z = l.length
    · have HZ := Lib.hid (hz.symm.trans h2)
      have h0 : l.length ≠ 0 := by
        intro h
        have hl0 : l = [] := List.length_eq_zero_iff.1 h
        rw [hl0] at hz h2
        rw [hz] at h2
        simp [endF] at h2
      have hb0 : ((l.length : Int) == 0) = false := by simpa using h0
      clear hz
      subst h2
      go_wp2_with (with_reducible go_at_call 48; refine (HE.out).mono ?_; rintro en w' ⟨rfl, x1, rfl⟩)
      go_loopg [3] (l.length) (fun gk iv wr => ∃ j : Nat, iv = .int .i64 j ∧ j ≤ l.length ∧ (∀ q, q < j → okN (l.getD q zN)) ∧ (∃ x, wr = ext w x) ∧ gk = l.length - j)
      case atStart => exact ⟨0, rfl, Nat.zero_le _, fun q hq => absurd hq (Nat.not_lt_zero q), ⟨x1, rfl⟩, rfl⟩
      case round =>
        obtain ⟨j, rfl, hj, hall, ⟨xr, rfl⟩, rfl⟩ := hrel
        have HA := Lib.hid hall
        clear hall
        by_cases hlt : j < l.length
        · have hcell := HC.out j hlt
          have HBJ := Lib.hid (HB.out (by omega))
          obtain ⟨y, hy⟩ : ∃ y, y = l.getD j zN := ⟨_, rfl⟩
          rw [← hy] at hcell
          have HY := Lib.hid hy
          clear hy
          obtain ⟨k, n, a, b', c, d, lo, hi⟩ := y
          have HCE : Hid (∀ c', c' < 8 → (ext w xr).cell? ⟨b, off + j * 8 + c', none⟩ = some ((#[.int .i64 k, .int .i64 n, .int .u64 a, .int .u64 b', .int .u64 c, .int .u64 d, .int .i64 lo, .int .i64 hi] : Array Value).getD c' undef)) := Lib.hid (fun c' h => by rw [cell?_ext _ _ _ _ HBJ.out]; exact hcell c' h)
          clear hcell
          have HF1 := Lib.hid (fun w => HF.out w k n a b' c d lo hi)
          by_cases hok : okN ⟨k, n, a, b', c, d, lo, hi⟩
          · have hdo : decide (okN ⟨k, n, a, b', c, d, lo, hi⟩) = true := by simpa using hok
            have HOK := Lib.hid hok
            clear hok
            rw [hdo] at HF1
            go_wp2_with (first | (refine wpList_load_cells rfl 100 _ rfl b (off + j * 8) 8 rfl _ _ HCE.out rfl Try.underlying100 rfl (by kernel_rfl) ?_) | ((with_reducible go_at_call 49); refine (HF1.out _).mono ?_; rintro en w' ⟨rfl, x2, rfl⟩))
            go_roundg (l.length - (j + 1))
            case measure => omega
            case rel =>
              refine ⟨j + 1, by go_num, by omega, fun q hq => ?_, ex_ext (b_ext' (ext_below w xr) x2), rfl⟩
              by_cases hqj : q = j
              · rw [hqj, ← HY.out]; exact HOK.out
              · exact HA.out q (by omega)
          · have hdo : decide (okN ⟨k, n, a, b', c, d, lo, hi⟩) = false := by simpa using hok
            have HV := Lib.hid (H4.out (fun h => hok (by rw [HY.out]; exact (HCH.out.1 h).2.2.2 _ (by rw [nd_at l j hlt]; exact List.getElem_mem hlt))))
            clear hok
            rw [hdo] at HF1
            go_wp2_with (first | (refine wpList_load_cells rfl 100 _ rfl b (off + j * 8) 8 rfl _ _ HCE.out rfl Try.underlying100 rfl (by kernel_rfl) ?_) | ((with_reducible go_at_call 49); refine (HF1.out _).mono ?_; rintro en w' ⟨rfl, x2, rfl⟩))
            go_ret
            exact ⟨by rw [HV.out]; rfl, ex_ext (b_ext' (ext_below w xr) x2)⟩
        · have HV := Lib.hid (H0.out (HCH.out.2 ⟨by omega, h0, HZ.out, fun y hy => by
            obtain ⟨q, hq, rfl⟩ := List.getElem_of_mem hy
            have := HA.out q (by omega)
            rwa [nd_at l q hq] at this⟩))
          go_wp2
          go_ret
          exact ⟨by rw [HV.out]; rfl, xr, rfl⟩
    · have HV := Lib.hid (H4.out (fun h => h2 (hz.trans (HCH.out.1 h).2.2.1)))
      clear hz
      go_wp2_with (with_reducible go_at_call 48; refine (HE.out).mono ?_; rintro en w' ⟨rfl, x1, rfl⟩)
      go_ret
      exact ⟨by rw [HV.out]; rfl, x1, rfl⟩
end Go.Cm
