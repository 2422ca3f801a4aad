/- What a state looks like, and the parts that come of it, in plain Lean. Conditions: none. -/
import Derived.Test.YtjeclleophlliaaMiniE
import Derived.Test.YtjeclleophlliaaNumb
namespace Go.Cm

def byteOf (n : Int) : UInt8 := UInt8.ofNat (n % 256).toNat
def enc2 (n : Int) : List UInt8 := [byteOf n, byteOf (n / 256)]
/-- what a state looks like -/
def lookS (d : Dfa) (part : List Int) (state : Nat) : List UInt8 :=
  enc2 (part.getD state 0) ++ (d.next.getD state []).flatMap fun to => enc2 (part.getD to.toNat 0)


def dec2 (l : List UInt8) : Int := (l.getD 0 0).toNat + 256 * (l.getD 1 0).toNat
theorem byteOf_toNat (n : Int) : ((byteOf n).toNat : Int) = n % 256 := by
  have h2 : (n % 256).toNat < 256 := by omega
  simp [byteOf]
  omega
theorem dec2_enc2 (n : Int) (h0 : 0 ≤ n) (h1 : n < 65536) (r : List UInt8) : dec2 (enc2 n ++ r) = n := by
  simp only [dec2, enc2, List.cons_append, List.nil_append, List.getD_cons_zero, List.getD_cons_succ]
  have a := byteOf_toNat n
  have b := byteOf_toNat (n / 256)
  rw [a, b]; omega
theorem enc2_inj {a b : Int} (ha : 0 ≤ a ∧ a < 65536) (hb : 0 ≤ b ∧ b < 65536) (h : enc2 a = enc2 b) : a = b := by
  have h1 := dec2_enc2 a ha.1 ha.2 []
  have h2 := dec2_enc2 b hb.1 hb.2 []
  rw [h] at h1
  omega
theorem enc2_cat_inj {a b : Int} {r s : List UInt8} (ha : 0 ≤ a ∧ a < 65536) (hb : 0 ≤ b ∧ b < 65536) (h : enc2 a ++ r = enc2 b ++ s) : a = b ∧ r = s := by
  have h1 : enc2 a = enc2 b ∧ r = s := List.append_inj h (by simp [enc2])
  exact ⟨enc2_inj ha hb h1.1, h1.2⟩
theorem flat_inj {l m : List Nat} {f : Nat → Int} (hl : l.length = m.length) (hf : ∀ x, (x ∈ l ∨ x ∈ m) → 0 ≤ f x ∧ f x < 65536) (h : l.flatMap (fun x => enc2 (f x)) = m.flatMap (fun x => enc2 (f x))) : l.map f = m.map f := by
  induction l generalizing m with
  | nil => cases m with
    | nil => rfl
    | cons b m => simp at hl
  | cons a l ih =>
    cases m with
    | nil => simp at hl
    | cons b m =>
      simp only [List.flatMap_cons] at h
      obtain ⟨h1, h2⟩ := enc2_cat_inj (hf a (by simp)) (hf b (by simp)) h
      simp only [List.map_cons, h1, ih (by simpa using hl) (fun x hx => hf x (by simp only [List.mem_cons]; rcases hx with hx | hx <;> simp [hx])) h2]

/-- the parts so far: alike states are in one part, and a part has one rule -/
structure PInv (d : Dfa) (part : List Int) : Prop where
  len : part.length = d.next.length
  range : ∀ i, i < d.next.length → 0 ≤ part.getD i 0 ∧ part.getD i 0 < 65536
  alike : ∀ i j, i < d.next.length → j < d.next.length → Eqv d i j → part.getD i 0 = part.getD j 0
  rule : ∀ i j, i < d.next.length → j < d.next.length → part.getD i 0 = part.getD j 0 → ruleN d i = ruleN d j
def sigs (d : Dfa) (part : List Int) : List (List UInt8) := (List.range d.next.length).map (lookS d part)
def nextPart (d : Dfa) (part : List Int) : List Int := (sigs d part).map fun s => (idx (uniq (sigs d part)) s : Nat)

theorem lookS_rowN (d : Dfa) (part : List Int) (i : Nat) : lookS d part i = enc2 (part.getD i 0) ++ (rowN d i).flatMap fun to => enc2 (part.getD to 0) := by
  simp [lookS, rowN, List.flatMap_map]
theorem rowN_mem {d : Dfa} (hv : Valid d) {i : Nat} (hi : i < d.next.length) {x : Nat} (hx : x ∈ rowN d i) : x < d.next.length := by
  obtain ⟨_, _, _, k, hk, hr⟩ := hv
  obtain ⟨-, -, -, hj⟩ := hr i hi
  simp only [rowN, List.mem_map] at hx
  obtain ⟨y, hy, rfl⟩ := hx
  obtain ⟨j, hjl, rfl⟩ := List.mem_iff_getElem.1 hy
  have := hj j hjl
  rw [List.getD_eq_getElem?_getD (l := d.next.getD i []), List.getElem?_eq_getElem hjl, Option.getD_some] at this
  omega
theorem rowN_len {d : Dfa} (hv : Valid d) {i : Nat} (hi : i < d.next.length) : (rowN d i).length = kN d := by
  rw [← row_len hv hi]; simp [rowN]
/-- states that look alike have one part and lead to one part -/
theorem look_inj {d : Dfa} (hv : Valid d) {part : List Int} (h : PInv d part) {i j : Nat} (hi : i < d.next.length) (hj : j < d.next.length) (he : lookS d part i = lookS d part j) :
    part.getD i 0 = part.getD j 0 ∧ ∀ c, c < kN d → part.getD (stepN d i c) 0 = part.getD (stepN d j c) 0 := by
  rw [lookS_rowN, lookS_rowN] at he
  obtain ⟨h1, h2⟩ := enc2_cat_inj (h.range i hi) (h.range j hj) he
  refine ⟨h1, fun c hc => ?_⟩
  have h3 := flat_inj (f := fun x => part.getD x 0) (by rw [rowN_len hv hi, rowN_len hv hj]) (fun x hx => h.range x (hx.elim (rowN_mem hv hi) (rowN_mem hv hj))) h2
  have h4 := congrArg (fun l => l.getD c 0) h3
  have hci : c < (rowN d i).length := by rw [rowN_len hv hi]; exact hc
  have hcj : c < (rowN d j).length := by rw [rowN_len hv hj]; exact hc
  simp only [List.getD_eq_getElem?_getD, List.getElem?_map, List.getElem?_eq_getElem hci, List.getElem?_eq_getElem hcj, Option.map_some, Option.getD_some] at h4
  simp only [stepN, List.getD_eq_getElem?_getD, List.getElem?_eq_getElem hci, List.getElem?_eq_getElem hcj, Option.getD_some]
  exact h4
theorem look_eq {d : Dfa} (hv : Valid d) {part : List Int} {i j : Nat} (hi : i < d.next.length) (hj : j < d.next.length) (h1 : part.getD i 0 = part.getD j 0) (h2 : ∀ c, c < kN d → part.getD (stepN d i c) 0 = part.getD (stepN d j c) 0) : lookS d part i = lookS d part j := by
  rw [lookS_rowN, lookS_rowN, h1]
  congr 1
  have h3 : (rowN d i).map (fun x => part.getD x 0) = (rowN d j).map (fun x => part.getD x 0) := by
    apply List.ext_getElem
    · simp [rowN_len hv hi, rowN_len hv hj]
    · intro c hc1 hc2
      have hci : c < (rowN d i).length := by simpa using hc1
      have hcj : c < (rowN d j).length := by simpa using hc2
      have := h2 c (by rw [← rowN_len hv hi]; exact hci)
      simp only [stepN] at this
      rw [List.getD_eq_getElem?_getD (l := rowN d i), List.getD_eq_getElem?_getD (l := rowN d j), List.getElem?_eq_getElem hci, List.getElem?_eq_getElem hcj, Option.getD_some, Option.getD_some] at this
      simpa using this
  have h4 : ∀ l : List Nat, l.flatMap (fun to => enc2 (part.getD to 0)) = (l.map (fun x => part.getD x 0)).flatMap enc2 := fun l => by simp [List.flatMap_map]
  rw [h4, h4, h3]

theorem sigs_len (d : Dfa) (part : List Int) : (sigs d part).length = d.next.length := by simp [sigs]
theorem sigs_getElem (d : Dfa) (part : List Int) {i : Nat} (hi : i < d.next.length) : (sigs d part)[i]? = some (lookS d part i) := by simp [sigs, hi]
theorem mem_sigs (d : Dfa) (part : List Int) {i : Nat} (hi : i < d.next.length) : lookS d part i ∈ sigs d part := List.mem_of_getElem? (sigs_getElem d part hi)
theorem nextPart_getD (d : Dfa) (part : List Int) {i : Nat} (hi : i < d.next.length) : (nextPart d part).getD i 0 = (idx (uniq (sigs d part)) (lookS d part i) : Nat) := by
  simp [nextPart, List.getD_eq_getElem?_getD, List.getElem?_map, sigs_getElem d part hi]
theorem nextPart_eq {d : Dfa} {part : List Int} {i j : Nat} (hi : i < d.next.length) (hj : j < d.next.length) : (nextPart d part).getD i 0 = (nextPart d part).getD j 0 ↔ lookS d part i = lookS d part j := by
  rw [nextPart_getD d part hi, nextPart_getD d part hj]
  constructor
  · intro h
    exact idxOf_inj ((mem_uniq _ _).2 (mem_sigs d part hi)) ((mem_uniq _ _).2 (mem_sigs d part hj)) (by omega)
  · intro h; rw [h]
theorem PInv.next {d : Dfa} (hv : Valid d) {part : List Int} (h : PInv d part) : PInv d (nextPart d part) := by
  refine ⟨by simp [nextPart, sigs_len], fun i hi => ?_, fun i j hi hj he => ?_, fun i j hi hj he => ?_⟩
  · rw [nextPart_getD d part hi]
    have h1 := idxOf_lt ((mem_uniq _ _).2 (mem_sigs d part hi))
    have h2 := uniq_len (sigs d part)
    rw [sigs_len] at h2
    have := hv.2.1
    omega
  · rw [nextPart_eq hi hj]
    exact look_eq hv hi hj (h.alike i j hi hj he) fun c hc => h.alike _ _ (step_lt hv hi hc) (step_lt hv hj hc) (he.step hc)
  · rw [nextPart_eq hi hj] at he
    exact h.rule i j hi hj (look_inj hv h hi hj he).1
theorem PInv.start {d : Dfa} (hv : Valid d) (part : List Int) (hl : part.length = d.next.length) (hp : ∀ i, i < d.next.length → part.getD i 0 = ruleN d i + 1) : PInv d part := by
  obtain ⟨_, _, _, k, hk, hr⟩ := hv
  refine ⟨hl, fun i hi => ?_, fun i j hi hj he => ?_, fun i j hi hj he => ?_⟩
  · obtain ⟨h1, h2, -⟩ := hr i hi
    rw [hp i hi]; unfold ruleN; omega
  · rw [hp i hi, hp j hj, he.rules]
  · rw [hp i hi, hp j hj] at he; omega
theorem uniq_map_inj {α β : Type} [DecidableEq α] [DecidableEq β] (l : List α) (f : α → β) (h : ∀ x ∈ l, ∀ y ∈ l, f x = f y → x = y) : uniq (l.map f) = (uniq l).map f := by
  have : ∀ (l ks : List α), (∀ x, (x ∈ ks ∨ x ∈ l) → ∀ y, (y ∈ ks ∨ y ∈ l) → f x = f y → x = y) → (l.map f).foldl addNew (ks.map f) = (l.foldl addNew ks).map f := by
    intro l
    induction l with
    | nil => intro ks _; rfl
    | cons a l ih =>
      intro ks h
      simp only [List.map_cons, List.foldl_cons]
      have e : addNew (ks.map f) (f a) = (addNew ks a).map f := by
        unfold addNew
        by_cases ha : a ∈ ks
        · rw [if_pos ha, if_pos (List.mem_map.2 ⟨a, ha, rfl⟩)]
        · rw [if_neg ha, if_neg]
          · simp
          · intro hm
            obtain ⟨b, hb, he⟩ := List.mem_map.1 hm
            have := h b (.inl hb) a (.inr (by simp)) he
            exact ha (this ▸ hb)
      rw [e]
      refine ih _ (fun x hx y hy => h x ?_ y ?_)
      · rcases hx with hx | hx
        · rcases addNew_mem.1 hx with h1 | rfl
          · exact .inl h1
          · exact .inr (by simp)
        · exact .inr (by simp [hx])
      · rcases hy with hx | hx
        · rcases addNew_mem.1 hx with h1 | rfl
          · exact .inl h1
          · exact .inr (by simp)
        · exact .inr (by simp [hx])
  exact this l [] (fun x hx y hy => h x (hx.resolve_left (by simp)) y (hy.resolve_left (by simp)))
theorem map_range_getD (l : List Int) (n : Nat) (h : l.length = n) : (List.range n).map (fun i => l.getD i 0) = l := by
  apply List.ext_getElem
  · simp [h]
  · intro i h1 h2; simp [h2]
theorem sigs_dec {d : Dfa} {part : List Int} (h : PInv d part) : (sigs d part).map dec2 = part := by
  rw [sigs, List.map_map]
  rw [← map_range_getD part d.next.length h.len]
  apply List.map_congr_left
  intro i hi
  have hi' : i < d.next.length := by simpa using hi
  rw [map_range_getD part d.next.length h.len]
  show dec2 (lookS d part i) = _
  rw [lookS_rowN, dec2_enc2 _ (h.range i hi').1 (h.range i hi').2]
/-- when the parts become no more, states are in one part just if they are alike -/
theorem PInv.done {d : Dfa} (hv : Valid d) {part : List Int} (h : PInv d part) (hc : (uniq (sigs d part)).length = (uniq part).length) {i j : Nat} (hi : i < d.next.length) (hj : j < d.next.length) : lookS d part i = lookS d part j ↔ Eqv d i j := by
  constructor
  · intro he
    refine Eqv.of_bisim hv (fun a b => a < d.next.length ∧ b < d.next.length ∧ part.getD a 0 = part.getD b 0) (fun a b ha hb hab => ⟨h.rule a b ha hb hab.2.2, fun c hcc => ⟨step_lt hv ha hcc, step_lt hv hb hcc, ?_⟩⟩) hi hj ⟨hi, hj, (look_inj hv h hi hj he).1⟩
    have h1 := same_of_count (sigs d part) dec2 (by rw [sigs_dec h]; exact hc) _ (mem_sigs d part ha) _ (mem_sigs d part hb) (by
      rw [lookS_rowN, lookS_rowN, dec2_enc2 _ (h.range a ha).1 (h.range a ha).2, dec2_enc2 _ (h.range b hb).1 (h.range b hb).2]; exact hab.2.2)
    exact (look_inj hv h ha hb h1).2 c hcc
  · intro he
    exact look_eq hv hi hj (h.alike i j hi hj he) fun c hc => h.alike _ _ (step_lt hv hi hc) (step_lt hv hj hc) (he.step hc)
theorem uniq_nextPart {d : Dfa} (part : List Int) : (uniq (nextPart d part)).length = (uniq (sigs d part)).length := by
  unfold nextPart
  rw [uniq_map_inj]
  · simp
  · intro x hx y hy he
    exact idxOf_inj ((mem_uniq _ _).2 hx) ((mem_uniq _ _).2 hy) (by omega)
theorem uniq_part_le {d : Dfa} {part : List Int} (h : PInv d part) : (uniq part).length ≤ (uniq (sigs d part)).length := by
  have := uniq_map_le (sigs d part) dec2
  rwa [sigs_dec h] at this

/-- each state's part is its first fellow's place among the first ones -/
def PartOk (d : Dfa) (part : List Int) : Prop := part.length = d.next.length ∧ ∀ i, i < d.next.length → ∃ f, f ∈ firsts d (i + 1) ∧ Eqv d i f ∧ part.getD i 0 = (idx (firsts d (i + 1)) f : Nat)
theorem mem_firsts {d : Dfa} {k f : Nat} : f ∈ firsts d k ↔ f < k ∧ ∀ j, j < f → ¬ Eqv d f j := by
  unfold firsts; simp
theorem first_of (d : Dfa) : ∀ i, ∃ f, f ∈ firsts d (i + 1) ∧ Eqv d i f := by
  intro i
  induction i using Nat.strongRecOn with
  | _ i ih =>
    by_cases h : ∀ j, j < i → ¬ Eqv d i j
    · exact ⟨i, mem_firsts.2 ⟨by omega, h⟩, Eqv.refl d i⟩
    · have : ∃ j, j < i ∧ Eqv d i j := Classical.byContradiction fun hc => h fun j hj he => hc ⟨j, hj, he⟩
      obtain ⟨j, hj, he⟩ := this
      obtain ⟨f, hf, hef⟩ := ih j hj
      have h2 := mem_firsts.1 hf
      exact ⟨f, mem_firsts.2 ⟨by omega, h2.2⟩, he.trans hef⟩
theorem first_unique {d : Dfa} {a b k l : Nat} (ha : a ∈ firsts d k) (hb : b ∈ firsts d l) (h : Eqv d a b) : a = b := by
  have h1 := (mem_firsts.1 ha).2
  have h2 := (mem_firsts.1 hb).2
  rcases Nat.lt_trichotomy a b with h3 | h3 | h3
  · exact absurd h.symm (h2 a h3)
  · exact h3
  · exact absurd h (h1 b h3)
theorem uniq_firsts {d : Dfa} {part : List Int} (h : ∀ i j, i < d.next.length → j < d.next.length → (lookS d part i = lookS d part j ↔ Eqv d i j)) : ∀ k, k ≤ d.next.length → uniq ((List.range k).map (lookS d part)) = (firsts d k).map (lookS d part) := by
  intro k
  induction k with
  | zero => intro _; simp [uniq, firsts]
  | succ k ih =>
    intro hk
    rw [List.range_succ, List.map_append, List.map_cons, List.map_nil, uniq_snoc, ih (by omega)]
    by_cases hf : ∀ j, j < k → ¬ Eqv d k j
    · rw [firsts_succ_yes hf, List.map_append]
      unfold addNew
      rw [if_neg]
      · rfl
      · intro hm
        obtain ⟨f, hff, he⟩ := List.mem_map.1 hm
        have h1 := mem_firsts.1 hff
        exact hf f h1.1 ((h f k (by omega) (by omega)).1 he).symm
    · rw [firsts_succ_no hf]
      unfold addNew
      rw [if_pos]
      have : ∃ j, j < k ∧ Eqv d k j := Classical.byContradiction fun hc => hf fun j hj he => hc ⟨j, hj, he⟩
      obtain ⟨j, hj, he⟩ := this
      obtain ⟨f, hff, hef⟩ := first_of d j
      have h1 := mem_firsts.1 hff
      exact List.mem_map.2 ⟨f, mem_firsts.2 ⟨by omega, h1.2⟩, (h f k (by omega) (by omega)).2 ((he.trans hef).symm)⟩
theorem firsts_take (d : Dfa) (k m : Nat) : ∃ l, firsts d (k + m) = firsts d k ++ l := by
  induction m with
  | zero => exact ⟨[], by simp⟩
  | succ m ih =>
    obtain ⟨l, hl⟩ := ih
    by_cases hf : ∀ j, j < k + m → ¬ Eqv d (k + m) j
    · exact ⟨l ++ [k + m], by rw [← Nat.add_assoc, firsts_succ_yes hf, hl, List.append_assoc]⟩
    · exact ⟨l, by rw [← Nat.add_assoc, firsts_succ_no hf, hl]⟩
theorem idxOf_map_inj {α β : Type} [DecidableEq α] [DecidableEq β] (l : List α) (f : α → β) (x : α) (h : ∀ y ∈ l, f y = f x → y = x) : idx (l.map f) (f x) = idx l x := by
  unfold idx
  induction l with
  | nil => simp
  | cons a l ih =>
    simp only [List.map_cons, List.idxOf_cons]
    by_cases ha : a = x
    · subst ha; simp
    · have : f a ≠ f x := fun e => ha (h a (by simp) e)
      have h1 : (f a == f x) = false := by simpa using this
      have h2 : (a == x) = false := by simpa using ha
      rw [h1, h2, ih (fun y hy => h y (by simp [hy]))]
theorem PInv.ok {d : Dfa} (hv : Valid d) {part : List Int} (h : PInv d part) (hc : (uniq (sigs d part)).length = (uniq part).length) : PartOk d (nextPart d part) := by
  have he := fun i j hi hj => h.done hv hc (i := i) (j := j) hi hj
  refine ⟨by simp [nextPart, sigs_len], fun i hi => ?_⟩
  obtain ⟨f, hf, hef⟩ := first_of d i
  refine ⟨f, hf, hef, ?_⟩
  have hfl := mem_firsts.1 hf
  rw [nextPart_getD d part hi]
  have hu := uniq_firsts he d.next.length (Nat.le_refl _)
  rw [sigs, hu, (he i f hi (by omega)).2 hef]
  rw [idxOf_map_inj]
  · obtain ⟨l, hl⟩ := firsts_take d (i + 1) (d.next.length - (i + 1))
    rw [show i + 1 + (d.next.length - (i + 1)) = d.next.length by omega] at hl
    rw [hl, idxOf_append_left hf]
  · intro y hy hyf
    have hyl := mem_firsts.1 hy
    exact first_unique hy hf ((he y f hyl.1 (by omega)).1 hyf)
end Go.Cm
