/- A region that draws its order and ends in operations that must come last, which may change what the others look at. Conditions: none. -/
import Derived.Test.YtfeglklggadndaaReg
namespace Go.Cm
open Go.RowKit

section
variable {P : Program} {ops : Array Oper} {md : Region.Mode} {C : World → Prop} {o3 : List Nat}
def late (o3 : List Nat) (listed : Array Bool) : Bool := o3.any fun t => listed.getD t false
def wpAnyT (P : Program) (md : Region.Mode) (ops : Array Oper) (C : World → Prop) (o3 : List Nat) (Q : Act → World → Prop) : Nat → Array Bool → Act → World → Prop
  | 0, listed, a, w => (late o3 listed = false → C w) ∧ Region.ready md ops listed = [] ∧ Q a w
  | fuel + 1, listed, a, w => (late o3 listed = false → C w) ∧ (Region.ready md ops listed = [] → Q a w) ∧
    ∀ i ∈ Region.ready md ops listed, wpOp P ops noQ i (wpAnyT P md ops C o3 Q fuel (listed.setIfInBounds i true)) a w

theorem wpAny_of_T {Q : Act → World → Prop} {Q' : Exit → Act → World → Prop} (hQ : ∀ a w, Q a w → Q' .normal a w) : ∀ (fuel : Nat) (listed : Array Bool) (a : Act) (w : World),
    wpAnyT P md ops C o3 Q fuel listed a w → wpAny P md ops Q' fuel listed a w
  | 0, _, _, _, h => ⟨h.2.1, hQ _ _ h.2.2⟩
  | fuel + 1, listed, a, w, h => ⟨fun h0 => hQ _ _ (h.2.1 h0), fun i hi => by
      have h1 := wpOp_mono (fun a w => wpAny_of_T (Q' := Q') hQ fuel _ a w) (h.2.2 i hi)
      unfold wpOp at h1 ⊢
      split
      · rename_i ho; simpa [ho] using h1
      · rename_i o ho
        simp only [ho] at h1
        split
        · rename_i hw
          simp only [hw, if_true] at h1
          rcases h1 with h1 | ⟨-, h1⟩
          · exact .inl (wp_exits (fun _ _ _ h => h) noQ_out h1)
          · exact (noQ_out h1).elim
        · rename_i hw; simpa [hw] using h1⟩

/-- what has been done is closed: what it waits for has been done -/
def Closed (md : Region.Mode) (ops : Array Oper) (listed : Array Bool) : Prop := ∀ (j : Nat) (oj : Oper), ops[j]? = some oj → listed.getD j false = true → ∀ e ∈ oj.after, Region.binds md e = true → listed.getD e.on false = true
theorem Closed.set {listed : Array Bool} {j : Nat} (h : Closed md ops listed) (hj : j ∈ Region.ready md ops listed) : Closed md ops (listed.setIfInBounds j true) := by
  obtain ⟨_, oj, hoj, hall⟩ := mem_ready.1 hj
  intro k ok hok hl e he hb
  by_cases hjk : j = k
  · subst hjk
    have : ok = oj := Option.some.inj (hok.symm.trans hoj)
    subst this
    exact getD_set_true (hall e he hb)
  · rw [getD_set_ne false hjk] at hl
    exact getD_set_true (h k ok hok hl e he hb)
def anc (md : Region.Mode) (ops : Array Oper) : Nat → Nat → Nat → Bool
  | 0, _, _ => false
  | f + 1, i, t => match ops[t]? with
    | some o => o.after.any fun e => Region.binds md e && (e.on == i || anc md ops f i e.on)
    | none => false
theorem anc_listed {listed : Array Bool} (hc : Closed md ops listed) {i : Nat} : ∀ (f t : Nat), anc md ops f i t = true → listed.getD t false = true → listed.getD i false = true
  | 0, _, h, _ => by cases h
  | f + 1, t, h, ht => by
    unfold anc at h
    split at h
    · rename_i o ho
      obtain ⟨e, he, hb⟩ := Array.any_eq_true'.1 h
      simp only [Bool.and_eq_true, Bool.or_eq_true, beq_iff_eq] at hb
      have h1 := hc t o ho ht e he hb.1
      rcases hb.2 with h2 | h2
      · rw [← h2]; exact h1
      · exact anc_listed hc f e.on h2 h1
    · cases h
theorem late_set {listed : Array Bool} {i : Nat} (hi : i ∉ o3) : late o3 (listed.setIfInBounds i true) = late o3 listed := by
  unfold late
  induction o3 with
  | nil => rfl
  | cons t o3 ih =>
    simp only [List.mem_cons, not_or] at hi
    simp only [List.any_cons]
    rw [ih hi.2, getD_set_ne false hi.1]
theorem late_false {listed : Array Bool} {i f : Nat} (hc : Closed md ops listed) (ha : ∀ t ∈ o3, anc md ops f i t = true) (hu : listed.getD i false = false) : late o3 listed = false := by
  cases h : late o3 listed with
  | false => rfl
  | true =>
    obtain ⟨t, ht, hl⟩ := List.any_eq_true.1 h
    rw [anc_listed hc f t (ha t ht) hl] at hu
    cases hu
theorem getD_un {listed : Array Bool} {i : Nat} (h : listed.getD i true = false) : i < listed.size ∧ listed.getD i false = false := by
  rcases Nat.lt_or_ge i listed.size with h' | h'
  · exact ⟨h', by simp [h'] at h ⊢; exact h⟩
  · simp [Array.getElem?_eq_none h'] at h

theorem wpAnyT_first {Q : Act → World → Prop} {i f : Nat} {oi : Oper} {v : Value} (hi : ops[i]? = some oi) (hsel : ∀ (j : Nat) (o : Oper) cs b, ops[j]? = some o → o.op ≠ .select cs b) (hi3 : i ∉ o3) (ha : ∀ t ∈ o3, anc md ops f i t = true) :
    ∀ (fuel : Nat) (listed : Array Bool) (a : Act) (w : World), Closed md ops listed →
      (∀ j oj, ops[j]? = some oj → j ≠ i → listed.getD j true = false → (∀ e ∈ oj.after, Region.binds md e = true → e.on ≠ i) → oi.apart ops oj = true) →
      i ∈ Region.ready md ops listed → Yin P ops C oi v a →
      wpAnyT P md ops C o3 Q fuel (listed.setIfInBounds i true) (a.put oi.dst v) w → wpAnyT P md ops C o3 Q (fuel + 1) listed a w := by
  intro fuel
  induction fuel with
  | zero =>
    intro listed a w hcl _ hr hy H
    have hl := late_false hcl ha (getD_un (mem_ready.1 hr).1).2
    have h1 := H.1
    rw [late_set hi3] at h1
    refine ⟨h1, fun h => (by rw [h] at hr; cases hr), fun j hj => ?_⟩
    by_cases hji : j = i
    · subst hji; exact hy.wpOp (h1 hl) hi H
    · have := ready_mono hj hji
      rw [H.2.1] at this
      cases this
  | succ fuel ih =>
    intro listed a w hcl hfree hr hy H
    have hl := late_false hcl ha (getD_un (mem_ready.1 hr).1).2
    have h1 := H.1
    rw [late_set hi3] at h1
    refine ⟨h1, fun h => (by rw [h] at hr; cases hr), fun j hj => ?_⟩
    by_cases hji : j = i
    · subst hji; exact hy.wpOp (h1 hl) hi H
    · have h1 := H.2.2 j (ready_mono hj hji)
      obtain ⟨hjun, oj, hoj, hall⟩ := mem_ready.1 hj
      have hnot : ∀ e ∈ oj.after, Region.binds md e = true → e.on ≠ i := fun e he hb heq => by
        have h1 := hall e he hb
        have h0 := (mem_ready.1 hr).1
        rw [heq] at h1
        rw [(getD_un h0).2] at h1
        cases h1
      have h2 := mOp_put hoj (hfree j oj hoj hji hjun hnot) (fun cs b => hsel i oi cs b hi) (fun cs b => hsel j oj cs b hoj) hy h1
      have hfree' : ∀ k ok, ops[k]? = some ok → k ≠ i → (listed.setIfInBounds j true).getD k true = false →
          (∀ e ∈ ok.after, Region.binds md e = true → e.on ≠ i) → oi.apart ops ok = true := fun k ok hk hki hun hno => by
        refine hfree k ok hk hki ?_ hno
        by_cases hjk : j = k
        · subst hjk; exact hjun
        · rw [getD_set_ne true hjk] at hun; exact hun
      refine wpOp_mono (fun a' w' h3 => ih (listed.setIfInBounds j true) a' w' (hcl.set hj) hfree' (ready_mono hr (Ne.symm hji)) h3.1 ?_) h2
      rw [Array.setIfInBounds_comm _ _ hji]
      exact h3.2

theorem late_true {listed : Array Bool} {i : Nat} (hi : i ∈ o3) (hs : i < listed.size) : late o3 (listed.setIfInBounds i true) = true :=
  List.any_eq_true.2 ⟨i, hi, by simp [hs]⟩
/-- one operation that is the only one that may come up -/
theorem wpAnyT_one {Q K : Act → World → Prop} {C' : World → Prop} {i n : Nat} {listed : Array Bool} {a : Act} {w : World} (hr : Region.ready md ops listed = [i]) (hC : late o3 listed = false → C w)
    (hK : ∀ a' w', C' w' → K a' w' → wpAnyT P md ops C o3 Q n (listed.setIfInBounds i true) a' w') (h : wpList P ops (actQ C' K) [ops.toList.getD i default] a w) : wpAnyT P md ops C o3 Q (n + 1) listed a w := by
  have him : i ∈ Region.ready md ops listed := by rw [hr]; simp
  obtain ⟨_, o, ho, _⟩ := mem_ready.1 him
  have hol : ops.toList.getD i default = o := by rw [List.getD_eq_getElem?_getD, Array.getElem?_toList, ho]; rfl
  refine ⟨hC, fun h0 => (by rw [hr] at h0; cases h0), fun j hj => ?_⟩
  obtain rfl : j = i := by rw [hr] at hj; simpa using hj
  rw [hol] at h
  unfold wpList at h
  unfold wpOp
  simp only [ho]
  split
  · rename_i hw
    rw [if_pos hw] at h
    rcases h with h' | ⟨-, h'⟩
    · refine .inl (Oper.wp_mono ?_ (wp_exits (fun _ _ _ h => h) actQ_out h'))
      intro a' w' hh
      obtain ⟨hC', hk⟩ := (hh : actQ C' K .normal a' w')
      exact hK a' w' hC' hk
    · exact (actQ_out h').elim
  · rename_i hw
    rw [if_neg hw] at h
    obtain ⟨hC', hk⟩ := (h : actQ C' K .normal (a.put o.dst undef) w)
    exact hK _ _ hC' hk
theorem wpAnyT_tail {Q : Act → World → Prop} : ∀ (o : List Nat) (listed : Array Bool) (a : Act) (w : World), (∀ t ∈ o, t ∈ o3) → mixA md ops o listed = true → (late o3 listed = false → C w) →
    wpAct P ops (fun _ => True) Q (pick ops.toList o) a w → wpAnyT P md ops C o3 Q o.length listed a w
  | [], listed, a, w, _, hB, hC, h => ⟨hC, by simpa [mixA] using hB, h⟩
  | i :: r, listed, a, w, ho, hB, hC, h => by
    simp only [mixA, Bool.and_eq_true, beq_iff_eq] at hB
    have him : i ∈ Region.ready md ops listed := by rw [hB.1]; simp
    have hs := (getD_un (mem_ready.1 him).1).1
    refine wpAnyT_one (C' := fun _ => True) hB.1 hC (fun a' w' _ hk => wpAnyT_tail r _ a' w' (fun t ht => ho t (by simp [ht])) hB.2 (fun hl => by rw [late_true (ho i (by simp)) hs] at hl; cases hl) hk) ?_
    simp only [pick, List.map_cons] at h
    exact h
theorem wpAnyT_act {Q : Act → World → Prop} : ∀ (o2 : List Nat) (listed : Array Bool) (a : Act) (w : World), mixA md ops (o2 ++ o3) listed = true → C w →
    wpAct P ops C (wpAct P ops (fun _ => True) Q (pick ops.toList o3)) (pick ops.toList o2) a w → wpAnyT P md ops C o3 Q (o2.length + o3.length) listed a w
  | [], listed, a, w, hB, hC, h => by
    rw [List.length_nil, Nat.zero_add]
    exact wpAnyT_tail o3 listed a w (fun _ h => h) hB (fun _ => hC) h
  | i :: r, listed, a, w, hB, hC, h => by
    simp only [List.cons_append, mixA, Bool.and_eq_true, beq_iff_eq] at hB
    rw [List.length_cons, Nat.add_right_comm]
    refine wpAnyT_one (C' := C) hB.1 (fun _ => hC) (fun a' w' hC' hk => wpAnyT_act r _ a' w' hB.2 hC' hk) ?_
    simp only [pick, List.map_cons] at h
    exact h
def headB (md : Region.Mode) (ops : Array Oper) (o1 o3 : List Nat) : Bool := o1.all fun i => !o3.contains i && o3.all fun t => anc md ops ops.size i t
theorem wpAnyT_quiet {Q : Act → World → Prop} (hs : Region.noSelect ops = true) (o2 : List Nat) {w : World} (hC : C w) : ∀ (o1 : List Nat) (listed : Array Bool) (a : Act), headB md ops o1 o3 = true → Closed md ops listed → mixQ md ops (o2 ++ o3) o1 listed = true →
    wpQuiet P ops C (fun a' => wpAct P ops C (wpAct P ops (fun _ => True) Q (pick ops.toList o3)) (pick ops.toList o2) a' w) (pick ops.toList o1) a → wpAnyT P md ops C o3 Q (o1.length + (o2.length + o3.length)) listed a w
  | [], listed, a, _, _, hB, h => by
    rw [List.length_nil, Nat.zero_add]
    exact wpAnyT_act o2 listed a w (by simpa [mixQ] using hB) hC h
  | i :: r, listed, a, hh, hcl, hB, h => by
    simp only [mixQ, Bool.and_eq_true] at hB
    obtain ⟨⟨⟨hr, hf⟩, hn⟩, hB'⟩ := hB
    simp only [headB, List.all_cons, Bool.and_eq_true] at hh
    have him : i ∈ Region.ready md ops listed := by simpa using hr
    obtain ⟨_, o, ho, _⟩ := mem_ready.1 him
    have hol : ops.toList.getD i default = o := by rw [List.getD_eq_getElem?_getD, Array.getElem?_toList, ho]; rfl
    simp only [pick, List.map_cons, hol] at h
    have hn' : noCall o.op = true := by simpa [ho] using hn
    obtain ⟨v, hy, hK⟩ := yin_of_qOp (K := wpQuiet P ops C (fun a' => wpAct P ops C (wpAct P ops (fun _ => True) Q (pick ops.toList o3)) (pick ops.toList o2) a' w) (pick ops.toList r)) hn' h
    rw [List.length_cons, Nat.add_right_comm]
    exact wpAnyT_first ho (Region.noSelect_spec hs) (by simpa using hh.1.1) (fun t ht => (List.all_eq_true.1 hh.1.2) t ht) _ listed a w hcl (Region.free_spec ho hf) him hy
      (wpAnyT_quiet hs o2 hC r _ _ (by simpa [headB] using hh.2) (hcl.set him) hB' hK)
def tailB (md : Region.Mode) (ops : Array Oper) (o1 o2 o3 : List Nat) : Bool :=
  Region.noSelect ops && (o1.length + (o2.length + o3.length) == ops.size) && headB md ops o1 o3 && mixQ md ops (o2 ++ o3) o1 (Array.replicate ops.size false)

theorem none_listed (m j : Nat) : (Array.replicate m false).getD j false = false := by
  rcases Nat.lt_or_ge j m with h | h <;> simp [h]
/-- THE REGION: first 'o1' (they look alone, and all that comes in 'o3' waits for each of them), then 'o2', then 'o3' (each the only one that may come up then). -/
theorem wp_region_tail {id : Nat} {Q : Exit → Act → World → Prop} {a : Act} {w : World} {l : List Oper} (C : World → Prop) (o1 o2 o3 : List Nat) (hm : P.follows .mixedOrders = true) (hB : tailB .any l.toArray o1 o2 o3 = true) (hC : C w.drew)
    (h : wpQuiet P l.toArray C (fun a' => wpAct P l.toArray C (wpAct P l.toArray (fun _ => True) (fun a'' w'' => Q .normal a'' w'') (pick l o3)) (pick l o2) a' w.drew) (pick l o1) a) : (Code.region id l.toArray true).wp P Q a w := by
  simp only [tailB, Bool.and_eq_true, beq_iff_eq] at hB
  obtain ⟨⟨⟨hs, hlen⟩, hh⟩, hB⟩ := hB
  refine wp_region_any hm ?_
  have h1 := wpAnyT_quiet (Q := fun a'' w'' => Q .normal a'' w'') (md := .any) (w := w.drew) hs o2 hC o1 (Array.replicate l.toArray.size false) a hh (fun j oj _ hl => by rw [none_listed] at hl; cases hl) hB (by simpa using h)
  rw [hlen] at h1
  exact wpAny_of_T (fun a w hq => hq) _ _ _ _ h1
/-- .. where memory grows alone ahead of the tail -/
theorem wp_region_tailg {id : Nat} {Q : Exit → Act → World → Prop} {a : Act} {w : World} {l : List Oper} (o1 o2 o3 : List Nat) (hm : P.follows .mixedOrders = true) (hB : tailB .any l.toArray o1 o2 o3 = true)
    (h : wpQuiet P l.toArray (fun w' => ∃ x, w' = ext w x) (fun a' => wpAct P l.toArray (fun w' => ∃ x, w' = ext w x) (wpAct P l.toArray (fun _ => True) (fun a'' w'' => Q .normal a'' w'') (pick l o3)) (pick l o2) a' w.drew) (pick l o1) a) : (Code.region id l.toArray true).wp P Q a w :=
  wp_region_tail (C := fun w' => ∃ x, w' = ext w x) o1 o2 o3 hm hB (ex_ext (below_drewN w 1)) h
end
end Go.Cm
