/- Texts of this claim, joined: walks of small functions and plain facts about them. Conditions: as each says. -/
import Derived.Test.YtfnkhcibcffcmaaGH
/- Paths of an automaton with choices, and how they grow when a part is laid, in plain Lean. Conditions: none. -/
namespace Go.Cm

def hasN (x : Ed) (c : Nat) : Bool := (if c < 64 then x.a else if c < 128 then x.b else if c < 192 then x.c else x.d) / 2 ^ (c % 64) % 2 == 1
abbrev Row (e : List (List Ed)) (a : Nat) : List Ed := e.getD a []
/-- the paths from state s on -/
inductive Path (e : List (List Ed)) (s : Nat) : List Nat → Nat → Prop
  | nil : Path e s [] s
  | free {w : List Nat} {a b : Nat} {x : Ed} : Path e s w a → x ∈ Row e a → x.free = true → x.to = b → Path e s w b
  | byte {w : List Nat} {a b c : Nat} {x : Ed} : Path e s w a → x ∈ Row e a → x.free = false → hasN x c = true → x.to = b → Path e s (w ++ [c]) b
theorem Path.trans {e : List (List Ed)} {s a b : Nat} {w v : List Nat} (h : Path e s w a) (k : Path e a v b) : Path e s (w ++ v) b := by
  induction k with
  | nil => simpa using h
  | free _ h1 h2 h3 ih => exact .free ih h1 h2 h3
  | byte _ h1 h2 h3 h4 ih => rw [← List.append_assoc]; exact .byte ih h1 h2 h3 h4
theorem Path.one {e : List (List Ed)} {s b : Nat} {x : Ed} (h : x ∈ Row e s) (hf : x.free = true) (ht : x.to = b) : Path e s [] b := .free .nil h hf ht
/-- what stays inside -/
theorem Path.sub {e e' : List (List Ed)} {D : Nat → Prop} (h1 : ∀ a x, D a → x ∈ Row e a → ∃ b : Nat, x.to = b ∧ D b) (h2 : ∀ a x, D a → x ∈ Row e a → x ∈ Row e' a) {s a : Nat} {w : List Nat} (hs : D s) (h : Path e s w a) : D a ∧ Path e' s w a := by
  induction h with
  | nil => exact ⟨hs, .nil⟩
  | free _ k1 k2 k3 ih =>
    obtain ⟨b, hb, hd⟩ := h1 _ _ ih.1 k1
    obtain rfl := Int.ofNat.inj (hb.symm.trans k3)
    exact ⟨hd, .free ih.2 (h2 _ _ ih.1 k1) k2 k3⟩
  | byte _ k1 k2 k3 k4 ih =>
    obtain ⟨b, hb, hd⟩ := h1 _ _ ih.1 k1
    obtain rfl := Int.ofNat.inj (hb.symm.trans k4)
    exact ⟨hd, .byte ih.2 (h2 _ _ ih.1 k1) k2 k3 k4⟩

/-- languages -/
abbrev Lng := List Nat → Prop
def eps : Lng := fun w => w = []
def cat (A B : Lng) : Lng := fun w => ∃ u v, w = u ++ v ∧ A u ∧ B v
def powL (A : Lng) : Nat → Lng
  | 0 => eps
  | k + 1 => cat (powL A k) A
def plus (A : Lng) : Lng := fun w => ∃ k, powL A (k + 1) w
theorem cat_assoc (A B C : Lng) (w : List Nat) : cat (cat A B) C w ↔ cat A (cat B C) w := by
  constructor
  · rintro ⟨u, v, rfl, ⟨a, b, rfl, ha, hb⟩, hv⟩
    exact ⟨a, b ++ v, by simp, ha, b, v, rfl, hb, hv⟩
  · rintro ⟨u, v, rfl, ha, b, c, rfl, hb, hc⟩
    exact ⟨u ++ b, c, by simp, ⟨u, b, rfl, ha, hb⟩, hc⟩
theorem cat_eps (A : Lng) (w : List Nat) : cat A eps w ↔ A w := by
  constructor
  · rintro ⟨u, v, rfl, ha, rfl⟩; simpa using ha
  · intro h; exact ⟨w, [], by simp, h, rfl⟩
theorem eps_cat (A : Lng) (w : List Nat) : cat eps A w ↔ A w := by
  constructor
  · rintro ⟨u, v, rfl, rfl, hv⟩; simpa using hv
  · intro h; exact ⟨[], w, by simp, rfl, h⟩
theorem cat_congr {A B C D : Lng} (h1 : ∀ w, A w ↔ B w) (h2 : ∀ w, C w ↔ D w) (w : List Nat) : cat A C w ↔ cat B D w := by
  constructor
  · rintro ⟨u, v, e, a, b⟩; exact ⟨u, v, e, (h1 _).1 a, (h2 _).1 b⟩
  · rintro ⟨u, v, e, a, b⟩; exact ⟨u, v, e, (h1 _).2 a, (h2 _).2 b⟩
theorem plus_one {A : Lng} {w : List Nat} (h : A w) : plus A w := ⟨0, [], w, by simp, rfl, h⟩
theorem plus_snoc {A : Lng} {w v : List Nat} (h : plus A w) (hv : A v) : plus A (w ++ v) := by
  obtain ⟨k, hk⟩ := h
  exact ⟨k + 1, w, v, rfl, hk, hv⟩
/-- how a part is gone through: once, or, if again, any number of times from one on -/
def many (c2 : Bool) (L : Lng) : Lng := fun w => if c2 then plus L w else L w
/-- the words ahead of a round -/
def ahead (c2 : Bool) (L : Lng) : Lng := fun w => w = [] ∨ (c2 = true ∧ plus L w)
theorem ahead_many {c2 : Bool} {L : Lng} {w v : List Nat} (h : ahead c2 L w) (hv : L v) : many c2 L (w ++ v) := by
  unfold many
  rcases h with rfl | ⟨rfl, h⟩
  · cases c2
    · simpa using hv
    · simpa using plus_one hv
  · simpa using plus_snoc h hv
theorem many_ahead {c2 : Bool} {L : Lng} {w : List Nat} (h : many c2 L w) (hc : c2 = true) : ahead c2 L w := by
  subst hc; exact .inr ⟨rfl, by simpa [many] using h⟩

/-- e' is e with a part q (in eq) behind state at_: the part's last state leads to z if c1, to its first if c2 -/
structure Ext (D B : Nat → Prop) (e eq e' : List (List Ed)) (qf ql at_ z : Nat) (c1 c2 : Bool) : Prop where
  din : ∀ a x, D a → x ∈ Row e a → ∃ b : Nat, x.to = b ∧ D b
  bin : ∀ a x, B a → x ∈ Row eq a → ∃ b : Nat, x.to = b ∧ B b
  apart : ∀ a, D a → ¬ B a
  hat : D at_
  hf : B qf
  hl : B ql
  hz : c1 = true → D z ∧ Row e z = [] ∧ z ≠ at_
  dro : ∀ a x, D a → (x ∈ Row e' a ↔ x ∈ Row e a ∨ (a = at_ ∧ x = frEd qf))
  bro : ∀ a x, B a → (x ∈ Row e' a ↔ x ∈ Row eq a ∨ (a = ql ∧ ((c1 = true ∧ x = frEd z) ∨ (c2 = true ∧ x = frEd qf))))

section
variable {D B : Nat → Prop} {e eq e' : List (List Ed)} {qf ql at_ z : Nat} {c1 c2 : Bool} {L : Lng}
/-- the words that lead to a state of the part -/
def inB (e eq : List (List Ed)) (s at_ qf : Nat) (c2 : Bool) (L : Lng) (a : Nat) : Lng := cat (fun u => Path e s u at_) (cat (ahead c2 L) (fun v => Path eq qf v a))
theorem Ext.sound (h : Ext D B e eq e' qf ql at_ z c1 c2) (hL : ∀ w, Path eq qf w ql ↔ L w) {s : Nat} (hs : D s) {w : List Nat} {a : Nat} (hp : Path e' s w a) :
    (D a ∧ (Path e s w a ∨ (a = z ∧ c1 = true ∧ cat (fun u => Path e s u at_) (many c2 L) w))) ∨ (B a ∧ inB e eq s at_ qf c2 L a w) := by
  induction hp with
  | nil => exact .inl ⟨hs, .inl .nil⟩
  | free h0 k1 k2 k3 ih =>
    rename_i w a b x
    rcases ih with ⟨hd, ih⟩ | ⟨hb, ih⟩
    · rcases (h.dro a x hd).1 k1 with k | ⟨rfl, rfl⟩
      · obtain ⟨b', hb', hd'⟩ := h.din a x hd k
        obtain rfl : b' = b := Int.ofNat.inj (hb'.symm.trans k3)
        rcases ih with ih | ⟨rfl, hc, -⟩
        · exact .inl ⟨hd', .inl (.free ih k k2 k3)⟩
        · have := (h.hz hc).2.1; unfold Row at this k; rw [this] at k; cases k
      · obtain rfl : qf = b := Int.ofNat.inj k3
        rcases ih with ih | ⟨rfl, hc, -⟩
        · exact .inr ⟨h.hf, w, [], by simp, ih, [], [], rfl, .inl rfl, .nil⟩
        · exact absurd rfl (h.hz hc).2.2
    · rcases (h.bro a x hb).1 k1 with k | ⟨rfl, ⟨hc, rfl⟩ | ⟨hc, rfl⟩⟩
      · obtain ⟨b', hb', hd'⟩ := h.bin a x hb k
        obtain rfl : b' = b := Int.ofNat.inj (hb'.symm.trans k3)
        obtain ⟨u, v, rfl, hu, p, q, rfl, hp, hq⟩ := ih
        exact .inr ⟨hd', u, p ++ q, by simp, hu, p, q, rfl, hp, .free hq k k2 k3⟩
      · obtain rfl : z = b := Int.ofNat.inj k3
        obtain ⟨u, v, rfl, hu, p, q, rfl, hp, hq⟩ := ih
        exact .inl ⟨(h.hz hc).1, .inr ⟨rfl, hc, u, p ++ q, rfl, hu, ahead_many hp ((hL q).1 hq)⟩⟩
      · obtain rfl : qf = b := Int.ofNat.inj k3
        obtain ⟨u, v, rfl, hu, p, q, rfl, hp, hq⟩ := ih
        exact .inr ⟨h.hf, u, p ++ q, rfl, hu, p ++ q, [], by simp, many_ahead (ahead_many hp ((hL q).1 hq)) hc, .nil⟩
  | byte h0 k1 k2 k3 k4 ih =>
    rename_i w a b c x
    rcases ih with ⟨hd, ih⟩ | ⟨hb, ih⟩
    · rcases (h.dro a x hd).1 k1 with k | ⟨rfl, rfl⟩
      · obtain ⟨b', hb', hd'⟩ := h.din a x hd k
        obtain rfl : b' = b := Int.ofNat.inj (hb'.symm.trans k4)
        rcases ih with ih | ⟨rfl, hc, -⟩
        · exact .inl ⟨hd', .inl (.byte ih k k2 k3 k4)⟩
        · have := (h.hz hc).2.1; unfold Row at this k; rw [this] at k; cases k
      · cases k2
    · rcases (h.bro a x hb).1 k1 with k | ⟨rfl, ⟨hc, rfl⟩ | ⟨hc, rfl⟩⟩
      · obtain ⟨b', hb', hd'⟩ := h.bin a x hb k
        obtain rfl : b' = b := Int.ofNat.inj (hb'.symm.trans k4)
        obtain ⟨u, v, rfl, hu, p, q, rfl, hp, hq⟩ := ih
        exact .inr ⟨hd', u, p ++ (q ++ [c]), by simp, hu, p, q ++ [c], rfl, hp, .byte hq k k2 k3 k4⟩
      · cases k2
      · cases k2
theorem Ext.upD (h : Ext D B e eq e' qf ql at_ z c1 c2) {s : Nat} (hs : D s) {w : List Nat} {a : Nat} (hp : Path e s w a) : D a ∧ Path e' s w a :=
  hp.sub h.din (fun a x hd hx => (h.dro a x hd).2 (.inl hx)) hs
theorem Ext.upB (h : Ext D B e eq e' qf ql at_ z c1 c2) {w : List Nat} {a : Nat} (hp : Path eq qf w a) : B a ∧ Path e' qf w a :=
  hp.sub h.bin (fun a x hd hx => (h.bro a x hd).2 (.inl hx)) h.hf
theorem Ext.loops (h : Ext D B e eq e' qf ql at_ z c1 c2) (hL : ∀ w, Path eq qf w ql ↔ L w) (hc : c2 = true) : ∀ (k : Nat) (w : List Nat), powL L (k + 1) w → Path e' qf w ql
  | 0, w, hw => by
    obtain ⟨u, v, rfl, rfl, hv⟩ := hw
    simpa using (h.upB ((hL v).2 hv)).2
  | k + 1, w, ⟨u, v, hw, hu, hv⟩ => by
    subst hw
    have h1 := Ext.loops h hL hc k u hu
    have h2 : Path e' qf u qf := .free h1 ((h.bro ql (frEd qf) h.hl).2 (.inr ⟨rfl, .inr ⟨hc, rfl⟩⟩)) rfl rfl
    exact h2.trans (h.upB ((hL v).2 hv)).2
theorem Ext.many (h : Ext D B e eq e' qf ql at_ z c1 c2) (hL : ∀ w, Path eq qf w ql ↔ L w) {w : List Nat} (hw : many c2 L w) : Path e' qf w ql := by
  unfold Cm.many at hw
  by_cases hc : c2 = true
  · subst hc
    obtain ⟨k, hk⟩ : plus L w := by simpa using hw
    exact h.loops hL rfl k w hk
  · have hc : c2 = false := by simpa using hc
    subst hc
    exact (h.upB ((hL w).2 (by simpa using hw))).2
theorem Ext.enter (h : Ext D B e eq e' qf ql at_ z c1 c2) (hL : ∀ w, Path eq qf w ql ↔ L w) {s : Nat} (hs : D s) {w : List Nat} (hw : cat (fun u => Path e s u at_) (Cm.many c2 L) w) : Path e' s w ql := by
  obtain ⟨u, v, rfl, hu, hv⟩ := hw
  have h1 := (h.upD hs hu).2
  have h2 : Path e' s u qf := .free h1 ((h.dro at_ (frEd qf) h.hat).2 (.inr ⟨rfl, rfl⟩)) rfl rfl
  exact h2.trans (h.many hL hv)
/-- the old states, but for z, are reached by the same words -/
theorem Ext.old (h : Ext D B e eq e' qf ql at_ z c1 c2) (hL : ∀ w, Path eq qf w ql ↔ L w) {s : Nat} (hs : D s) {w : List Nat} {a : Nat} (ha : D a) (hz : a = z → c1 = false) : Path e' s w a ↔ Path e s w a := by
  refine ⟨fun hp => ?_, fun hp => (h.upD hs hp).2⟩
  rcases h.sound hL hs hp with ⟨-, h1 | ⟨h1, h2, -⟩⟩ | ⟨h1, -⟩
  · exact h1
  · rw [hz h1] at h2; cases h2
  · exact absurd h1 (h.apart a ha)
theorem Ext.toZ (h : Ext D B e eq e' qf ql at_ z c1 c2) (hL : ∀ w, Path eq qf w ql ↔ L w) {s : Nat} (hs : D s) {w : List Nat} (hz : D z) : Path e' s w z ↔ Path e s w z ∨ (c1 = true ∧ cat (fun u => Path e s u at_) (Cm.many c2 L) w) := by
  constructor
  · intro hp
    rcases h.sound hL hs hp with ⟨-, h1 | ⟨-, h2, h3⟩⟩ | ⟨h1, -⟩
    · exact .inl h1
    · exact .inr ⟨h2, h3⟩
    · exact absurd h1 (h.apart z hz)
  · rintro (hp | ⟨hc, hw⟩)
    · exact (h.upD hs hp).2
    · exact .free (h.enter hL hs hw) ((h.bro ql (frEd z) h.hl).2 (.inr ⟨rfl, .inl ⟨hc, rfl⟩⟩)) rfl rfl
theorem Ext.toL (h : Ext D B e eq e' qf ql at_ z c1 c2) (hL : ∀ w, Path eq qf w ql ↔ L w) {s : Nat} (hs : D s) {w : List Nat} : Path e' s w ql ↔ cat (fun u => Path e s u at_) (Cm.many c2 L) w := by
  constructor
  · intro hp
    rcases h.sound hL hs hp with ⟨h1, -⟩ | ⟨-, h1⟩
    · exact absurd h.hl (h.apart ql h1)
    · obtain ⟨u, v, rfl, hu, p, q, rfl, hp, hq⟩ := h1
      exact ⟨u, p ++ q, rfl, hu, ahead_many hp ((hL q).1 hq)⟩
  · exact h.enter hL hs
/-- the whole is closed -/
theorem Ext.closed (h : Ext D B e eq e' qf ql at_ z c1 c2) : ∀ a x, (D a ∨ B a) → x ∈ Row e' a → ∃ b : Nat, x.to = b ∧ (D b ∨ B b) := by
  intro a x hab hx
  rcases hab with hd | hb
  · rcases (h.dro a x hd).1 hx with k | ⟨rfl, rfl⟩
    · obtain ⟨b, h1, h2⟩ := h.din a x hd k; exact ⟨b, h1, .inl h2⟩
    · exact ⟨qf, rfl, .inr h.hf⟩
  · rcases (h.bro a x hb).1 hx with k | ⟨rfl, ⟨hc, rfl⟩ | ⟨hc, rfl⟩⟩
    · obtain ⟨b, h1, h2⟩ := h.bin a x hb k; exact ⟨b, h1, .inr h2⟩
    · exact ⟨z, rfl, .inl (h.hz hc).1⟩
    · exact ⟨qf, rfl, .inr h.hf⟩
end
end Go.Cm

/- What the automaton of a tree reads is what the tree matches, in plain Lean. Conditions: none. -/
namespace Go.Cm

def botL : Lng := fun _ => False
def catTo (Ls : List Lng) : Nat → Lng
  | 0 => eps
  | i + 1 => cat (catTo Ls i) (Ls.getD i botL)
def altTo (Ls : List Lng) (i : Nat) : Lng := fun w => ∃ j, j < i ∧ Ls.getD j botL w
def repL (lo hi : Int) (L : Lng) : Lng := fun w => ∃ k : Nat, lo ≤ k ∧ (hi < 0 ∨ (k : Int) ≤ hi) ∧ powL L k w
def setL1 (x : Nd) : Lng := fun w => ∃ c, w = [c] ∧ hasN (setEd x 0) c = true
/-- what a node matches, by what its kids match -/
def langN (x : Nd) (Ls : List Lng) : Lng :=
  if x.kd = 1 then setL1 x else if x.kd = 2 then eps else if x.kd = 8 then repL x.lo x.hi (Ls.getD 0 botL)
  else if x.kd = 5 then repL 0 (-1) (Ls.getD 0 botL) else if x.kd = 6 then repL 1 (-1) (Ls.getD 0 botL) else if x.kd = 7 then repL 0 1 (Ls.getD 0 botL)
  else if x.kd = 3 then catTo Ls Ls.length else altTo Ls Ls.length
def langs : Fo → List Lng
  | .nil => []
  | .cons x k r => langN x (langs k) :: langs r
theorem langs_len : ∀ f, (langs f).length = cnt f
  | .nil => rfl
  | .cons x k r => by simp [langs, cnt, langs_len r]

/- rows of the states -/
theorem row_newS (s : St) (a : Nat) : Row (newS s).e a = Row s.e a := by
  unfold Row newS
  simp only [List.getD_eq_getElem?_getD, List.getElem?_append]
  split
  · rfl
  · rw [List.getElem?_eq_none (l := s.e) (by omega)]
    rcases Nat.eq_or_lt_of_le (show s.e.length ≤ a by omega) with h | h
    · subst h; simp
    · rw [List.getElem?_eq_none (by simp; omega)]
theorem row_two (s : St) (a : Nat) : Row (two s).e a = Row s.e a := by unfold two; rw [row_newS, row_newS]
theorem row_free (s : St) (i to_ a : Nat) : Row (freeS i to_ s).e a = if a = i ∧ i < s.e.length then Row s.e a ++ [frEd to_] else Row s.e a := by
  unfold Row freeS addEd
  simp only [List.getD_eq_getElem?_getD, List.getElem?_set]
  by_cases h : i = a
  · subst h
    by_cases hl : i < s.e.length
    · simp [hl]
    · simp [hl]
  · rw [if_neg h, if_neg (fun hh => h hh.1.symm)]
theorem mem_free {s : St} {i to_ a : Nat} (hi : i < s.e.length) (x : Ed) : x ∈ Row (freeS i to_ s).e a ↔ x ∈ Row s.e a ∨ (a = i ∧ x = frEd to_) := by
  rw [row_free]
  by_cases h : a = i
  · subst h; rw [if_pos ⟨rfl, hi⟩]; simp
  · rw [if_neg (fun hh => h hh.1)]; simp [h]
theorem mem_iff {b : Bool} {s : St} {i to_ a : Nat} (hi : i < s.e.length) (x : Ed) : x ∈ Row (iff b (freeS i to_) s).e a ↔ x ∈ Row s.e a ∨ (b = true ∧ a = i ∧ x = frEd to_) := by
  cases b
  · simp [iff]
  · simpa [iff] using mem_free hi x
theorem row_none {e : List (List Ed)} {a : Nat} (h : e.length ≤ a) : Row e a = [] := by
  unfold Row; simp [List.getD, List.getElem?_eq_none h]
theorem eq_nil_of {r : List Ed} (h : ∀ x, x ∉ r) : r = [] := List.eq_nil_iff_forall_not_mem.2 h

/-- what holds of each edge that is laid -/
def WQ (z : Int) : Prop := 0 ≤ z ∧ z < 18446744073709551616
def EdQ (x : Ed) : Prop := (x.free = true → x.a = 0 ∧ x.b = 0 ∧ x.c = 0 ∧ x.d = 0) ∧ (WQ x.a ∧ WQ x.b ∧ WQ x.c ∧ WQ x.d)
def NdQ (x : Nd) : Prop := WQ x.a ∧ WQ x.b ∧ WQ x.c ∧ WQ x.d
theorem wq_zero : WQ 0 := ⟨Int.le_refl _, by decide⟩
theorem edq_free (to_ : Int) : EdQ (frEd to_) := ⟨fun _ => ⟨rfl, rfl, rfl, rfl⟩, wq_zero, wq_zero, wq_zero, wq_zero⟩
/-- a piece that is laid behind s -/
structure PieceL (s : St) (y : Pc × St) (L : Lng) : Prop where
  grow : s.e.length ≤ y.2.e.length
  old : ∀ a, a < s.e.length → Row y.2.e a = Row s.e a
  hf : s.e.length ≤ y.1.f ∧ y.1.f < y.2.e.length
  hl : s.e.length ≤ y.1.l ∧ y.1.l < y.2.e.length
  nol : Row y.2.e y.1.l = []
  inn : ∀ a x, s.e.length ≤ a → x ∈ Row y.2.e a → ∃ b : Nat, x.to = b ∧ s.e.length ≤ b ∧ b < y.2.e.length
  edq : ∀ a x, s.e.length ≤ a → x ∈ Row y.2.e a → EdQ x
  lang : ∀ w, Path y.2.e y.1.f w y.1.l ↔ L w
  rul : y.2.r = s.r ++ List.replicate (y.2.e.length - s.e.length) (-1)
/-- a row of pieces -/
structure LayL (s : St) (y : List Pc × St) (Ls : List Lng) (bd : Nat → Nat) : Prop where
  len : y.1.length = Ls.length
  b0 : bd 0 = s.e.length
  bc : bd Ls.length = y.2.e.length
  mono : ∀ i, i < Ls.length → bd i ≤ bd (i + 1)
  old : ∀ a, a < s.e.length → Row y.2.e a = Row s.e a
  hf : ∀ i, i < Ls.length → bd i ≤ (y.1.getD i zP).f ∧ (y.1.getD i zP).f < bd (i + 1)
  hl : ∀ i, i < Ls.length → bd i ≤ (y.1.getD i zP).l ∧ (y.1.getD i zP).l < bd (i + 1)
  nol : ∀ i, i < Ls.length → Row y.2.e (y.1.getD i zP).l = []
  inn : ∀ i, i < Ls.length → ∀ a x, bd i ≤ a → a < bd (i + 1) → x ∈ Row y.2.e a → ∃ b : Nat, x.to = b ∧ bd i ≤ b ∧ b < bd (i + 1)
  edq : ∀ a x, s.e.length ≤ a → x ∈ Row y.2.e a → EdQ x
  lang : ∀ i, i < Ls.length → ∀ w, Path y.2.e (y.1.getD i zP).f w (y.1.getD i zP).l ↔ Ls.getD i botL w
  rul : y.2.r = s.r ++ List.replicate (y.2.e.length - s.e.length) (-1)
theorem LayL.mono' {s : St} {y : List Pc × St} {Ls : List Lng} {bd : Nat → Nat} (h : LayL s y Ls bd) : ∀ i j, i ≤ j → j ≤ Ls.length → bd i ≤ bd j := by
  intro i j hij hj
  induction j with
  | zero => obtain rfl : i = 0 := by omega
            exact Nat.le_refl _
  | succ j ih =>
    rcases Nat.eq_or_lt_of_le hij with rfl | h1
    · exact Nat.le_refl _
    · exact Nat.le_trans (ih (by omega) (by omega)) (h.mono j (by omega))
/-- a path in a closed part does not feel the rest -/
theorem path_same {e e' : List (List Ed)} {D : Nat → Prop} (h1 : ∀ a x, D a → x ∈ Row e a → ∃ b : Nat, x.to = b ∧ D b) (h2 : ∀ a, D a → Row e' a = Row e a) {s a : Nat} (hs : D s) (w : List Nat) : Path e s w a ↔ Path e' s w a :=
  ⟨fun h => (h.sub h1 (fun a x hd hx => by rw [h2 a hd]; exact hx) hs).2, fun h => (h.sub (D := D) (e' := e) (fun a x hd hx => h1 a x hd (by rw [← h2 a hd]; exact hx)) (fun a x hd hx => by rw [← h2 a hd]; exact hx) hs).2⟩
theorem lay_nil (s : St) : LayL s ([], s) [] (fun _ => s.e.length) :=
  ⟨rfl, rfl, rfl, fun i hi => absurd hi (Nat.not_lt_zero i), fun _ _ => rfl, fun i hi => absurd hi (Nat.not_lt_zero i), fun i hi => absurd hi (Nat.not_lt_zero i), fun i hi => absurd hi (Nat.not_lt_zero i), fun i hi => absurd hi (Nat.not_lt_zero i), fun a x h1 (h2 : x ∈ Row s.e a) => (by rw [row_none h1] at h2; cases h2), fun i hi => absurd hi (Nat.not_lt_zero i), by simp⟩
theorem lay_cons {s : St} {y : Pc × St} {z : List Pc × St} {L : Lng} {Ls : List Lng} {bd : Nat → Nat} (h : PieceL s y L) (k : LayL y.2 z Ls bd) : ∃ bd', LayL s (y.1 :: z.1, z.2) (L :: Ls) bd' := by
  refine ⟨fun i => match i with | 0 => s.e.length | i + 1 => bd i, ?_⟩
  have hg := h.grow
  have hb : y.2.e.length ≤ z.2.e.length := by rw [← k.b0, ← k.bc]; exact k.mono' 0 _ (Nat.zero_le _) (Nat.le_refl _)
  have hrow : ∀ a, s.e.length ≤ a → a < y.2.e.length → Row z.2.e a = Row y.2.e a := fun a _ h2 => k.old a h2
  have hnone : ∀ a x, y.2.e.length ≤ a → x ∈ Row y.2.e a → False := fun a x h1 h2 => by rw [row_none h1] at h2; cases h2
  refine ⟨by simp [k.len], rfl, k.bc, ?_, ?_, ?_, ?_, ?_, ?_, ?_, ?_, ?_⟩
  · intro i hi
    cases i with
    | zero => show s.e.length ≤ bd 0; rw [k.b0]; exact hg
    | succ i => exact k.mono i (by simpa using hi)
  · intro a ha
    show Row z.2.e a = _
    rw [k.old a (by omega), h.old a ha]
  · intro i hi
    cases i with
    | zero => show s.e.length ≤ y.1.f ∧ y.1.f < bd 0; rw [k.b0]; exact h.hf
    | succ i => exact k.hf i (by simpa using hi)
  · intro i hi
    cases i with
    | zero => show s.e.length ≤ y.1.l ∧ y.1.l < bd 0; rw [k.b0]; exact h.hl
    | succ i => exact k.hl i (by simpa using hi)
  · intro i hi
    cases i with
    | zero => show Row z.2.e y.1.l = []; rw [hrow _ h.hl.1 h.hl.2]; exact h.nol
    | succ i => exact k.nol i (by simpa using hi)
  · intro i hi a x h1 h2 hx
    cases i with
    | zero =>
      change s.e.length ≤ a at h1
      change a < bd 0 at h2
      rw [k.b0] at h2
      change x ∈ Row z.2.e a at hx
      rw [hrow a h1 h2] at hx
      show ∃ b : Nat, x.to = b ∧ s.e.length ≤ b ∧ b < bd 0
      rw [k.b0]
      exact h.inn a x h1 hx
    | succ i => exact k.inn i (by simpa using hi) a x h1 h2 hx
  · intro a x h1 hx
    change x ∈ Row z.2.e a at hx
    by_cases h2 : a < y.2.e.length
    · rw [hrow a h1 h2] at hx; exact h.edq a x h1 hx
    · exact k.edq a x (by omega) hx
  · intro i hi w
    cases i with
    | zero =>
      show Path z.2.e y.1.f w y.1.l ↔ L w
      rw [← h.lang w]
      refine (path_same (D := fun a => s.e.length ≤ a ∧ a < y.2.e.length) (fun a x hd hx => ?_) (fun a hd => hrow a hd.1 hd.2) h.hf w).symm
      exact h.inn a x hd.1 hx
    | succ i => exact k.lang i (by simpa using hi) w
  · show z.2.r = _
    rw [k.rul, h.rul, List.append_assoc, List.replicate_append_replicate]
    congr 2
    dsimp only
    omega

/- a leaf -/
theorem leaf_lang (x : Nd) (hx : x.kd = 1 ∨ x.kd = 2) (hq : NdQ x) (h2q : x.kd = 2 → x.a = 0 ∧ x.b = 0 ∧ x.c = 0 ∧ x.d = 0) (s : St) : PieceL s (aroundP s, leafS x s) (if x.kd = 1 then setL1 x else eps) := by
  have hlen : (leafS x s).e.length = s.e.length + 2 := leaf_len x s
  have hrow : ∀ a, Row (leafS x s).e a = if a = s.e.length then [setEd x (s.e.length + 1)] else Row s.e a := fun a => by
    unfold leafS
    show Row ((two s).e.set _ _) a = _
    unfold Row
    simp only [List.getD_eq_getElem?_getD, List.getElem?_set]
    by_cases h : s.e.length = a
    · subst h; simp
    · rw [if_neg h, if_neg (fun hh => h hh.symm)]
      exact row_two s a
  have hne : Row (leafS x s).e (s.e.length + 1) = [] := by rw [hrow, if_neg (by omega)]; exact row_none (by omega)
  refine ⟨by dsimp only; omega, fun a ha => by dsimp only; rw [hrow, if_neg (by omega)], by dsimp only [aroundP]; omega, by dsimp only [aroundP]; omega, hne, fun a y h1 hy => ?_, fun a y h1 hy => ?_, fun w => ?_, ?_⟩
  · dsimp only at hy ⊢
    rw [hrow] at hy
    by_cases h : a = s.e.length
    · rw [if_pos h] at hy
      obtain rfl := List.mem_singleton.1 hy
      exact ⟨s.e.length + 1, rfl, by omega, by omega⟩
    · rw [if_neg h, row_none (by omega)] at hy; cases hy
  · dsimp only at hy
    rw [hrow] at hy
    by_cases h : a = s.e.length
    · rw [if_pos h] at hy
      obtain rfl := List.mem_singleton.1 hy
      exact ⟨fun hf => h2q (by simpa [setEd] using hf), hq⟩
    · rw [if_neg h, row_none (by omega)] at hy; cases hy
  · dsimp only [aroundP]
    have h1 : setEd x (s.e.length + 1) ∈ Row (leafS x s).e s.e.length := by rw [hrow, if_pos rfl]; simp
    have key : ∀ w a, Path (leafS x s).e s.e.length w a → (a = s.e.length ∧ w = []) ∨ (a = s.e.length + 1 ∧ (if x.kd = 1 then setL1 x else eps) w) := by
      intro w a hp
      induction hp with
      | nil => exact .inl ⟨rfl, rfl⟩
      | free h0 k1 k2 k3 ih =>
        rename_i w a b z
        rcases ih with ⟨rfl, rfl⟩ | ⟨rfl, -⟩
        · rw [hrow, if_pos rfl] at k1
          obtain rfl := List.mem_singleton.1 k1
          have h2 : x.kd = 2 := by simpa [setEd] using k2
          refine .inr ⟨?_, by rw [if_neg (by omega)]; rfl⟩
          simp only [setEd] at k3; omega
        · rw [hne] at k1; cases k1
      | byte h0 k1 k2 k3 k4 ih =>
        rename_i w a b c z
        rcases ih with ⟨rfl, rfl⟩ | ⟨rfl, -⟩
        · rw [hrow, if_pos rfl] at k1
          obtain rfl := List.mem_singleton.1 k1
          have h2 : x.kd ≠ 2 := by simpa [setEd] using k2
          refine .inr ⟨?_, by rw [if_pos (by omega)]; exact ⟨c, rfl, k3⟩⟩
          simp only [setEd] at k4; omega
        · rw [hne] at k1; cases k1
    constructor
    · intro hp
      rcases key w _ hp with ⟨h2, -⟩ | ⟨-, h2⟩
      · omega
      · exact h2
    · intro hw
      by_cases hk : x.kd = 1
      · rw [if_pos hk] at hw
        obtain ⟨c, rfl, hh⟩ := hw
        exact .byte (w := []) .nil h1 (by simp [setEd]; omega) hh rfl
      · rw [if_neg hk] at hw
        obtain rfl : w = [] := hw
        exact .free .nil h1 (by simp [setEd]; omega) rfl
  · dsimp only
    rw [hlen]
    simp [leafS, two, newS, List.replicate]

/- a loop -/
theorem loop_lang {s : St} {y : Pc × St} {L : Lng} (h : PieceL s y L) (out again : Bool) : PieceL s (aroundP y.2, loopS out again y.1 y.2) (fun w => (out = true ∧ w = []) ∨ many again L w) := by
  obtain ⟨q, t⟩ := y
  have hg := h.grow
  have hf := h.hf
  have hl := h.hl
  dsimp only at hg hf hl ⊢
  obtain ⟨n, hn⟩ : ∃ n, n = t.e.length := ⟨_, rfl⟩
  have hp : aroundP t = ⟨n, n + 1⟩ := by rw [hn]; rfl
  have hlen : (loopS out again q t).e.length = n + 2 := by rw [loop_len, hn]
  have hr0 : Row t.e n = [] := row_none (by omega)
  have hr1 : Row t.e (n + 1) = [] := row_none (by omega)
  have hmem : ∀ a x, x ∈ Row (loopS out again q t).e a ↔ ((x ∈ Row t.e a ∨ (a = n ∧ x = frEd q.f)) ∨ (a = q.l ∧ x = frEd (n + 1 : Nat))) ∨ (out = true ∧ a = n ∧ x = frEd (n + 1 : Nat)) ∨ (again = true ∧ a = q.l ∧ x = frEd q.f) := fun a x => by
    unfold loopS
    rw [hp]
    dsimp only
    rw [mem_iff (by simp; omega), mem_iff (by simp; omega), mem_free (by simp; omega), mem_free (by simp; omega), row_two]
    rw [or_assoc]
  obtain ⟨e0, he0⟩ : ∃ e0, e0 = (iff out (freeS n (n + 1)) (two t)).e := ⟨_, rfl⟩
  have hm0 : ∀ a x, x ∈ Row e0 a ↔ x ∈ Row t.e a ∨ (out = true ∧ a = n ∧ x = frEd (n + 1 : Nat)) := fun a x => by
    rw [he0, mem_iff (by simp; omega), row_two]
  have hE : Ext (fun a => a = n ∨ a = n + 1) (fun a => s.e.length ≤ a ∧ a < n) e0 t.e (loopS out again q t).e q.f q.l n (n + 1) true again := by
    refine ⟨?_, ?_, ?_, .inl rfl, by omega, by omega, fun _ => ⟨.inr rfl, eq_nil_of fun x hx => ?_, by omega⟩, ?_, ?_⟩
    · intro a x hd hx
      rcases (hm0 a x).1 hx with h1 | ⟨-, rfl, rfl⟩
      · rw [row_none (by omega)] at h1; cases h1
      · exact ⟨_, rfl, .inr rfl⟩
    · intro a x hb hx
      obtain ⟨b, h1, h2⟩ := h.inn a x hb.1 hx
      exact ⟨b, h1, by dsimp only at h2; omega⟩
    · intro a h1 h2; omega
    · rcases (hm0 _ x).1 hx with h1 | ⟨-, h1, -⟩
      · rw [hr1] at h1; cases h1
      · omega
    · intro a x hd
      rw [hmem, hm0]
      have h1 : a ≠ q.l := by omega
      simp only [h1, false_and, and_false, or_false]
      constructor
      · rintro ((h1 | h1) | h1)
        · exact .inl (.inl h1)
        · exact .inr h1
        · exact .inl (.inr h1)
      · rintro ((h1 | h1) | h1)
        · exact .inl (.inl h1)
        · exact .inr h1
        · exact .inl (.inr h1)
    · intro a x hb
      rw [hmem]
      have h1 : a ≠ n := by omega
      simp only [h1, false_and, and_false, or_false, false_or, true_and]
      constructor
      · rintro ((h1 | h1) | h1)
        · exact .inl h1
        · exact .inr ⟨h1.1, .inl h1.2⟩
        · exact .inr ⟨h1.2.1, .inr ⟨h1.1, h1.2.2⟩⟩
      · rintro (h1 | ⟨h1, h2 | h2⟩)
        · exact .inl (.inl h1)
        · exact .inl (.inr ⟨h1, h2⟩)
        · exact .inr ⟨h2.1, h1, h2.2⟩
  have hL := h.lang
  dsimp only at hL
  have base : ∀ w, Path e0 n w n ↔ w = [] := fun w => by
    constructor
    · intro hp
      have key : ∀ w a, Path e0 n w a → (a = n ∧ w = []) ∨ a = n + 1 := by
        intro w a hp
        induction hp with
        | nil => exact .inl ⟨rfl, rfl⟩
        | free h0 k1 k2 k3 ih =>
          rcases (hm0 _ _).1 k1 with h1 | ⟨-, rfl, rfl⟩
          · rcases ih with ⟨rfl, -⟩ | rfl
            · rw [hr0] at h1; cases h1
            · rw [hr1] at h1; cases h1
          · exact .inr (Int.ofNat.inj k3).symm
        | byte h0 k1 k2 k3 k4 ih =>
          rcases (hm0 _ _).1 k1 with h1 | ⟨-, rfl, rfl⟩
          · rcases ih with ⟨rfl, -⟩ | rfl
            · rw [hr0] at h1; cases h1
            · rw [hr1] at h1; cases h1
          · cases k2
      rcases key w n hp with ⟨-, h1⟩ | h1
      · exact h1
      · omega
    · rintro rfl; exact .nil
  have baseZ : ∀ w, Path e0 n w (n + 1) ↔ out = true ∧ w = [] := fun w => by
    constructor
    · intro hp
      have key : ∀ w a, Path e0 n w a → (a = n ∧ w = []) ∨ (a = n + 1 ∧ out = true ∧ w = []) := by
        intro w a hp
        induction hp with
        | nil => exact .inl ⟨rfl, rfl⟩
        | free h0 k1 k2 k3 ih =>
          rcases (hm0 _ _).1 k1 with h1 | ⟨ho, rfl, rfl⟩
          · rcases ih with ⟨rfl, -⟩ | ⟨rfl, -⟩
            · rw [hr0] at h1; cases h1
            · rw [hr1] at h1; cases h1
          · rcases ih with ⟨-, rfl⟩ | ⟨h1, -⟩
            · exact .inr ⟨(Int.ofNat.inj k3).symm, ho, rfl⟩
            · omega
        | byte h0 k1 k2 k3 k4 ih =>
          rcases (hm0 _ _).1 k1 with h1 | ⟨-, rfl, rfl⟩
          · rcases ih with ⟨rfl, -⟩ | ⟨rfl, -⟩
            · rw [hr0] at h1; cases h1
            · rw [hr1] at h1; cases h1
          · cases k2
      rcases key w _ hp with ⟨h1, -⟩ | ⟨-, h1⟩
      · omega
      · exact h1
    · rintro ⟨ho, rfl⟩
      exact Path.one ((hm0 _ _).2 (.inr ⟨ho, rfl, rfl⟩)) rfl rfl
  rw [hp]
  refine ⟨by dsimp only; omega, fun a ha => ?_, by dsimp only; omega, by dsimp only; omega, eq_nil_of fun x hx => ?_, fun a x h1 hx => ?_, fun a x h1 hx => ?_, fun w => ?_, ?_⟩
  · dsimp only
    rw [← h.old a ha]
    dsimp only
    unfold loopS
    rw [hp]
    dsimp only
    have key : ∀ (b : Bool) (i to_ : Nat) (u : St), a ≠ i → Row (iff b (freeS i to_) u).e a = Row u.e a := fun b i to_ u hne => by
      cases b
      · rfl
      · show Row (freeS i to_ u).e a = _
        rw [row_free, if_neg (fun hh => hne hh.1)]
    rw [key _ _ _ _ (by omega), key _ _ _ _ (by omega), row_free, if_neg (fun hh => by omega), row_free, if_neg (fun hh => by omega), row_two]
  · dsimp only at hx
    rcases (hmem _ x).1 hx with ((h1 | h1) | h1) | h1 | h1
    · rw [hr1] at h1; cases h1
    · omega
    · omega
    · omega
    · omega
  · dsimp only at hx ⊢
    rw [hlen]
    by_cases hlt : a < n + 2
    · obtain ⟨b, h2, h3⟩ := hE.closed a x (by omega) hx
      exact ⟨b, h2, by omega⟩
    · rw [row_none (by omega)] at hx; cases hx
  · dsimp only at hx
    rcases (hmem a x).1 hx with ((h2 | ⟨-, rfl⟩) | ⟨-, rfl⟩) | ⟨-, -, rfl⟩ | ⟨-, -, rfl⟩
    · exact h.edq a x h1 h2
    · exact edq_free _
    · exact edq_free _
    · exact edq_free _
    · exact edq_free _
  · dsimp only
    rw [hE.toZ hL (.inl rfl) (.inr rfl), baseZ]
    refine or_congr Iff.rfl ⟨fun ⟨_, u, v, e1, e2, e3⟩ => ?_, fun h1 => ⟨rfl, [], w, rfl, .nil, h1⟩⟩
    obtain rfl := (base u).1 e2
    rw [e1]; exact e3
  · dsimp only
    have h1 : (loopS out again q t).r = t.r ++ [-1, -1] := by
      unfold loopS
      have key : ∀ (b : Bool) (i to_ : Nat) (u : St), (iff b (freeS i to_) u).r = u.r := fun b i to_ u => by cases b <;> rfl
      dsimp only
      rw [key, key]
      simp [freeS, two, newS]
    have h2 := h.rul
    dsimp only at h2
    rw [h1, h2, hlen, List.append_assoc]
    congr 1
    have : n + 2 - s.e.length = (t.e.length - s.e.length) + 2 := by omega
    rw [this, ← List.replicate_append_replicate]
    rfl
end Go.Cm

/- What the automaton of a tree reads: chains, choices, repeats; a whole tree. Conditions: none. -/
namespace Go.Cm

section
variable {s : St} {y : List Pc × St} {Ls : List Lng} {bd : Nat → Nat}
theorem LayL.blk (h : LayL s y Ls bd) {a : Nat} : ∀ i, i ≤ Ls.length → bd 0 ≤ a → a < bd i → ∃ j, j < i ∧ bd j ≤ a ∧ a < bd (j + 1)
  | 0, _, h1, h2 => by omega
  | i + 1, hi, h1, h2 => by
    by_cases h3 : a < bd i
    · obtain ⟨j, hj, h4⟩ := LayL.blk h i (by omega) h1 h3
      exact ⟨j, by omega, h4⟩
    · exact ⟨i, by omega, by omega, h2⟩
theorem LayL.cls (h : LayL s y Ls bd) {i : Nat} (hi : i ≤ Ls.length) {a : Nat} {x : Ed} (h1 : bd 0 ≤ a) (h2 : a < bd i) (hx : x ∈ Row y.2.e a) : ∃ b : Nat, x.to = b ∧ bd 0 ≤ b ∧ b < bd i := by
  obtain ⟨j, hj, h3, h4⟩ := h.blk i hi h1 h2
  obtain ⟨b, h5, h6, h7⟩ := h.inn j (by omega) a x h3 h4 hx
  have := h.mono' 0 j (by omega) (by omega)
  have := h.mono' (j + 1) i (by omega) hi
  exact ⟨b, h5, by omega, by omega⟩

/- a chain -/
theorem chain_mem (h : LayL s y Ls bd) (x : Ed) (a : Nat) : ∀ i, i ≤ Ls.length → (x ∈ Row (chainS y.1 i y.2).e a ↔ x ∈ Row y.2.e a ∨ ∃ j, 0 < j ∧ j < i ∧ a = (y.1.getD (j - 1) zP).l ∧ x = frEd (y.1.getD j zP).f)
  | 0, _ => by simp [chainS]
  | i + 1, hi => by
    have ih := chain_mem h x a i (by omega)
    have hl : (y.1.getD (i - 1) zP).l < (chainS y.1 i y.2).e.length := by
      rw [chain_len, ← h.bc]
      have := (h.hl (i - 1) (by omega)).2
      have := h.mono' (i - 1 + 1) Ls.length (by omega) (Nat.le_refl _)
      omega
    show x ∈ Row (iff _ _ _).e a ↔ _
    rw [mem_iff hl, ih]
    constructor
    · rintro ((h1 | ⟨j, h1, h2, h3⟩) | ⟨h1, h2⟩)
      · exact .inl h1
      · exact .inr ⟨j, h1, by omega, h3⟩
      · exact .inr ⟨i, by simpa using h1, by omega, h2⟩
    · rintro (h1 | ⟨j, h1, h2, h3⟩)
      · exact .inl (.inl h1)
      · by_cases hj : j = i
        · subst hj; exact .inr ⟨by simpa using h1, h3⟩
        · exact .inl (.inr ⟨j, h1, by omega, h3⟩)
theorem chain_ext (h : LayL s y Ls bd) (i : Nat) (hi : i + 1 < Ls.length) :
    Ext (fun a => bd 0 ≤ a ∧ a < bd (i + 1)) (fun a => bd (i + 1) ≤ a ∧ a < bd (i + 2)) (chainS y.1 (i + 1) y.2).e y.2.e (chainS y.1 (i + 2) y.2).e (y.1.getD (i + 1) zP).f (y.1.getD (i + 1) zP).l (y.1.getD i zP).l 0 false false := by
  have hli := h.hl i (by omega)
  have m0 := h.mono' 0 i (by omega) (by omega)
  refine ⟨?_, ?_, ?_, ⟨by omega, by omega⟩, h.hf (i + 1) hi, h.hl (i + 1) hi, fun hc => absurd hc (by decide), ?_, ?_⟩
  · intro a x hd hx
    rcases (chain_mem h x a (i + 1) (by omega)).1 hx with h1 | ⟨j, h1, h2, h3, rfl⟩
    · obtain ⟨b, h4, h5⟩ := h.cls (i := i + 1) (by omega) hd.1 hd.2 h1
      exact ⟨b, h4, h5⟩
    · have h4 := h.hf j (by omega)
      have h5 := h.mono' 0 j (by omega) (by omega)
      have h6 := h.mono' (j + 1) (i + 1) (by omega) (by omega)
      exact ⟨_, rfl, by omega, by omega⟩
  · intro a x hb hx
    exact h.inn (i + 1) hi a x hb.1 hb.2 hx
  · intro a h1 h2; omega
  · intro a x hd
    rw [chain_mem h x a (i + 2) (by omega), chain_mem h x a (i + 1) (by omega)]
    constructor
    · rintro (h1 | ⟨j, h1, h2, h3, h4⟩)
      · exact .inl (.inl h1)
      · by_cases hj : j = i + 1
        · subst hj; exact .inr ⟨h3, h4⟩
        · exact .inl (.inr ⟨j, h1, by omega, h3, h4⟩)
    · rintro ((h1 | ⟨j, h1, h2, h3⟩) | ⟨h1, h2⟩)
      · exact .inl h1
      · exact .inr ⟨j, h1, by omega, h3⟩
      · exact .inr ⟨i + 1, by omega, by omega, h1, h2⟩
  · intro a x hb
    rw [chain_mem h x a (i + 2) (by omega)]
    constructor
    · rintro (h1 | ⟨j, h1, h2, h3, h4⟩)
      · exact .inl h1
      · have h5 := h.hl (j - 1) (by omega)
        have h6 := h.mono' (j - 1 + 1) (i + 1) (by omega) (by omega)
        omega
    · rintro (h1 | ⟨-, ⟨h1, -⟩ | ⟨h1, -⟩⟩)
      · exact .inl h1
      · cases h1
      · cases h1
theorem chain_path (h : LayL s y Ls bd) : ∀ i, i < Ls.length → ∀ w, Path (chainS y.1 (i + 1) y.2).e (y.1.getD 0 zP).f w (y.1.getD i zP).l ↔ catTo Ls (i + 1) w
  | 0, hi, w => by
    have h1 : Path (chainS y.1 1 y.2).e (y.1.getD 0 zP).f w (y.1.getD 0 zP).l ↔ Path y.2.e (y.1.getD 0 zP).f w (y.1.getD 0 zP).l := Iff.rfl
    rw [h1, h.lang 0 hi]
    show _ ↔ cat eps _ w
    rw [eps_cat]
  | i + 1, hi, w => by
    have ih := chain_path h i (by omega)
    have hE := chain_ext h i hi
    have h0 := h.hf 0 (by omega)
    simp only [Nat.zero_add] at h0
    have m1 := h.mono' 1 (i + 1) (by omega) (by omega)
    rw [hE.toL (h.lang (i + 1) hi) (s := (y.1.getD 0 zP).f) ⟨h0.1, by omega⟩]
    show cat _ (fun v => if false = true then _ else _) w ↔ cat (catTo Ls (i + 1)) (Ls.getD (i + 1) botL) w
    exact cat_congr ih (fun v => by simp) w
theorem chain_lang (h : LayL s y Ls bd) (hc : 0 < Ls.length) : PieceL s (chainP y.1, chainS y.1 y.1.length y.2) (catTo Ls Ls.length) := by
  obtain ⟨c, hc'⟩ : ∃ c, Ls.length = c + 1 := ⟨Ls.length - 1, by omega⟩
  have hb0 := h.b0
  have hbc := h.bc
  have hm := chain_mem h
  have hf := h.hf 0 (by omega)
  have hl := h.hl c (by omega)
  have m1 := h.mono' 1 Ls.length (by omega) (Nat.le_refl _)
  have m2 := h.mono' 0 c (by omega) (by omega)
  have m3 := h.mono' 0 Ls.length (by omega) (Nat.le_refl _)
  simp only [Nat.zero_add] at hf
  rw [hc'] at hbc m1 m3
  have hP : chainP y.1 = ⟨(y.1.getD 0 zP).f, (y.1.getD c zP).l⟩ := by unfold chainP; rw [h.len, hc']; rfl
  rw [hP, h.len, hc']
  refine ⟨by dsimp only; rw [chain_len]; omega, fun a ha => ?_, by dsimp only; rw [chain_len]; omega, by dsimp only; rw [chain_len]; omega, eq_nil_of fun x hx => ?_, fun a x h1 hx => ?_, fun a x h1 hx => ?_, fun w => ?_, ?_⟩
  · rw [← h.old a ha]
    dsimp only
    have key : ∀ i, i ≤ Ls.length → Row (chainS y.1 i y.2).e a = Row y.2.e a := by
      intro i
      induction i with
      | zero => intro _; rfl
      | succ i ih =>
        intro hi
        rw [← ih (by omega)]
        show Row (iff _ _ _).e a = _
        unfold iff
        split
        · rename_i hp
          have hp : 0 < i := by simpa using hp
          rw [row_free, if_neg]
          rintro ⟨e, -⟩
          have := h.hl (i - 1) (by omega)
          have := h.mono' 0 (i - 1) (by omega) (by omega)
          omega
        · rfl
    exact key (c + 1) (by omega)
  · dsimp only at hx
    rcases (hm x _ (c + 1) (by omega)).1 hx with h1 | ⟨j, h1, h2, h3, -⟩
    · rw [h.nol c (by omega)] at h1; cases h1
    · have h4 := h.hl (j - 1) (by omega)
      have h5 := h.mono' (j - 1 + 1) c (by omega) (by omega)
      omega
  · dsimp only at hx ⊢
    rw [chain_len, ← hbc, ← hb0]
    rcases (hm x a (c + 1) (by omega)).1 hx with h2 | ⟨j, h1, h2, h3, rfl⟩
    · by_cases h3 : a < bd (c + 1)
      · exact h.cls (by omega) (by omega) h3 h2
      · rw [row_none (by omega)] at h2; cases h2
    · have h4 := h.hf j (by omega)
      have h5 := h.mono' 0 j (by omega) (by omega)
      have h6 := h.mono' (j + 1) (c + 1) (by omega) (by omega)
      exact ⟨_, rfl, by omega, by omega⟩
  · dsimp only at hx
    rcases (hm x a (c + 1) (by omega)).1 hx with h2 | ⟨j, -, -, -, rfl⟩
    · exact h.edq a x h1 h2
    · exact edq_free _
  · exact chain_path h c (by omega) w
  · dsimp only
    rw [chain_r, chain_len]
    exact h.rul
end
end Go.Cm

/- What the automaton of a tree reads: choices and repeats. Conditions: none. -/
namespace Go.Cm

section
variable {s : St} {y : List Pc × St} {Ls : List Lng} {bd : Nat → Nat}
/- a choice -/
theorem alt_mem (h : LayL s y Ls bd) (x : Ed) (a : Nat) : ∀ i, i ≤ Ls.length → (x ∈ Row (altS (aroundP y.2) y.1 i (two y.2)).e a ↔ x ∈ Row y.2.e a ∨ ∃ j, j < i ∧ ((a = y.2.e.length ∧ x = frEd (y.1.getD j zP).f) ∨ (a = (y.1.getD j zP).l ∧ x = frEd (y.2.e.length + 1 : Nat))))
  | 0, _ => by
    rw [show Row (altS (aroundP y.2) y.1 0 (two y.2)).e a = Row y.2.e a from row_two _ _]
    simp
  | i + 1, hi => by
    have ih := alt_mem h x a i (by omega)
    have hl : (y.1.getD i zP).l < y.2.e.length := by
      rw [← h.bc]
      have := (h.hl i (by omega)).2
      have := h.mono' (i + 1) Ls.length (by omega) (Nat.le_refl _)
      omega
    show x ∈ Row (freeS (y.1.getD i zP).l (y.2.e.length + 1) (freeS y.2.e.length (y.1.getD i zP).f _)).e a ↔ _
    rw [mem_free (by rw [freeS_len, alt_len, two_len]; omega), mem_free (by simp), ih]
    constructor
    · rintro (((h1 | ⟨j, h1, h2⟩) | ⟨h1, h2⟩) | ⟨h1, h2⟩)
      · exact .inl h1
      · exact .inr ⟨j, by omega, h2⟩
      · exact .inr ⟨i, by omega, .inl ⟨h1, h2⟩⟩
      · exact .inr ⟨i, by omega, .inr ⟨h1, h2⟩⟩
    · rintro (h1 | ⟨j, h1, h2⟩)
      · exact .inl (.inl (.inl h1))
      · by_cases hj : j = i
        · subst hj
          rcases h2 with h2 | h2
          · exact .inl (.inr h2)
          · exact .inr h2
        · exact .inl (.inl (.inr ⟨j, by omega, h2⟩))
theorem alt_ext (h : LayL s y Ls bd) (n : Nat) (hn : n = y.2.e.length) (i : Nat) (hi : i < Ls.length) :
    Ext (fun a => (bd 0 ≤ a ∧ a < bd i) ∨ a = n ∨ a = n + 1) (fun a => bd i ≤ a ∧ a < bd (i + 1)) (altS (aroundP y.2) y.1 i (two y.2)).e y.2.e (altS (aroundP y.2) y.1 (i + 1) (two y.2)).e (y.1.getD i zP).f (y.1.getD i zP).l n (n + 1) true false := by
  have hbc := h.bc
  have hle : ∀ j, j < Ls.length → (y.1.getD j zP).l < n ∧ bd j ≤ (y.1.getD j zP).l ∧ (y.1.getD j zP).l < bd (j + 1) := fun j hj => by
    have := h.hl j hj
    have := h.mono' (j + 1) Ls.length (by omega) (Nat.le_refl _)
    omega
  have hbi : bd (i + 1) ≤ n := by have := h.mono' (i + 1) Ls.length (by omega) (Nat.le_refl _); omega
  have hnone : ∀ x, n ≤ x → Row y.2.e x = [] := fun x hx => row_none (by omega)
  have hm := fun x a => alt_mem h x a i (by omega)
  have hm' := fun x a => alt_mem h x a (i + 1) (by omega)
  rw [← hn] at hm hm'
  refine ⟨?_, ?_, ?_, .inr (.inl rfl), h.hf i hi, h.hl i hi, fun _ => ⟨.inr (.inr rfl), eq_nil_of fun x hx => ?_, by omega⟩, ?_, ?_⟩
  · intro a x hd hx
    rcases (hm x a).1 hx with h1 | ⟨j, h1, ⟨h2, rfl⟩ | ⟨h2, rfl⟩⟩
    · rcases hd with hd | hd
      · obtain ⟨b, h4, h5⟩ := h.cls (i := i) (by omega) hd.1 hd.2 h1
        exact ⟨b, h4, .inl h5⟩
      · rw [hnone a (by omega)] at h1; cases h1
    · have h4 := h.hf j (by omega)
      have h5 := h.mono' 0 j (by omega) (by omega)
      have h6 := h.mono' (j + 1) i (by omega) (by omega)
      exact ⟨_, rfl, .inl ⟨by omega, by omega⟩⟩
    · exact ⟨_, rfl, .inr (.inr rfl)⟩
  · intro a x hb hx
    exact h.inn i hi a x hb.1 hb.2 hx
  · intro a h1 h2; omega
  · rcases (hm x _).1 hx with h1 | ⟨j, h1, ⟨h2, -⟩ | ⟨h2, -⟩⟩
    · rw [hnone _ (by omega)] at h1; cases h1
    · omega
    · have := hle j (by omega); omega
  · intro a x hd
    rw [hm' x a, hm x a]
    constructor
    · rintro (h1 | ⟨j, h1, h2⟩)
      · exact .inl (.inl h1)
      · by_cases hj : j = i
        · subst hj
          rcases h2 with h2 | ⟨h2, -⟩
          · exact .inr h2
          · have := hle j hi; omega
        · exact .inl (.inr ⟨j, by omega, h2⟩)
    · rintro ((h1 | ⟨j, h1, h2⟩) | h1)
      · exact .inl h1
      · exact .inr ⟨j, by omega, h2⟩
      · exact .inr ⟨i, by omega, .inl h1⟩
  · intro a x hb
    rw [hm' x a]
    constructor
    · rintro (h1 | ⟨j, h1, ⟨h2, -⟩ | ⟨h2, h3⟩⟩)
      · exact .inl h1
      · omega
      · by_cases hj : j = i
        · subst hj; exact .inr ⟨h2, .inl ⟨rfl, h3⟩⟩
        · have h4 := hle j (by omega)
          have h5 := h.mono' (j + 1) i (by omega) (by omega)
          omega
    · rintro (h1 | ⟨h1, ⟨-, h2⟩ | ⟨h2, -⟩⟩)
      · exact .inl h1
      · exact .inr ⟨i, by omega, .inr ⟨h1, h2⟩⟩
      · cases h2
theorem path_nil_of {e : List (List Ed)} {n : Nat} (h : Row e n = []) {w : List Nat} {a : Nat} (hp : Path e n w a) : a = n ∧ w = [] := by
  induction hp with
  | nil => exact ⟨rfl, rfl⟩
  | free _ k _ _ ih => obtain ⟨rfl, rfl⟩ := ih; rw [h] at k; cases k
  | byte _ k _ _ _ ih => obtain ⟨rfl, rfl⟩ := ih; rw [h] at k; cases k
theorem alt_path (h : LayL s y Ls bd) (n : Nat) (hn : n = y.2.e.length) : ∀ i, i ≤ Ls.length → (∀ w, Path (altS (aroundP y.2) y.1 i (two y.2)).e n w n ↔ w = []) ∧ (∀ w, Path (altS (aroundP y.2) y.1 i (two y.2)).e n w (n + 1) ↔ altTo Ls i w)
  | 0, _ => by
    have h0 : Row (altS (aroundP y.2) y.1 0 (two y.2)).e n = [] := by show Row (two y.2).e n = []; rw [row_two]; exact row_none (by omega)
    refine ⟨fun w => ⟨fun hp => (path_nil_of h0 hp).2, fun e => e ▸ .nil⟩, fun w => ⟨fun hp => ?_, fun ⟨j, hj, _⟩ => absurd hj (Nat.not_lt_zero j)⟩⟩
    have := (path_nil_of h0 hp).1
    omega
  | i + 1, hi => by
    obtain ⟨ih1, ih2⟩ := alt_path h n hn i (by omega)
    have hE := alt_ext h n hn i (by omega)
    have hL := h.lang i (by omega)
    refine ⟨fun w => ?_, fun w => ?_⟩
    · rw [hE.old hL (.inr (.inl rfl)) (.inr (.inl rfl)) (fun e => by omega), ih1]
    · rw [hE.toZ hL (.inr (.inl rfl)) (.inr (.inr rfl)), ih2]
      constructor
      · rintro (⟨j, h1, h2⟩ | ⟨-, u, v, rfl, h2, h3⟩)
        · exact ⟨j, by omega, h2⟩
        · obtain rfl := (ih1 u).1 h2
          exact ⟨i, by omega, by simpa [many] using h3⟩
      · rintro ⟨j, h1, h2⟩
        by_cases hj : j = i
        · subst hj; exact .inr ⟨rfl, [], w, rfl, .nil, by simpa [many] using h2⟩
        · exact .inl ⟨j, by omega, h2⟩
theorem alt_lang (h : LayL s y Ls bd) : PieceL s (aroundP y.2, altS (aroundP y.2) y.1 y.1.length (two y.2)) (altTo Ls Ls.length) := by
  have hb0 := h.b0
  have hbc := h.bc
  have hm := fun x a => alt_mem h x a Ls.length (Nat.le_refl _)
  have m3 := h.mono' 0 Ls.length (by omega) (Nat.le_refl _)
  have hP := alt_path h _ rfl Ls.length (Nat.le_refl _)
  rw [h.len]
  have hlen : (altS (aroundP y.2) y.1 Ls.length (two y.2)).e.length = y.2.e.length + 2 := by rw [alt_len, two_len]
  have hle : ∀ j, j < Ls.length → (y.1.getD j zP).l < y.2.e.length ∧ bd j ≤ (y.1.getD j zP).l := fun j hj => by
    have := h.hl j hj
    have := h.mono' (j + 1) Ls.length (by omega) (Nat.le_refl _)
    omega
  refine ⟨by dsimp only; omega, fun a ha => ?_, by dsimp only; rw [hlen]; dsimp only [aroundP]; omega, by dsimp only; rw [hlen]; dsimp only [aroundP]; omega, eq_nil_of fun x hx => ?_, fun a x h1 hx => ?_, fun a x h1 hx => ?_, hP.2, ?_⟩
  · dsimp only
    rw [← h.old a ha]
    have key : ∀ i, i ≤ Ls.length → Row (altS (aroundP y.2) y.1 i (two y.2)).e a = Row y.2.e a := by
      intro i
      induction i with
      | zero => intro _; exact row_two _ _
      | succ i ih =>
        intro hi
        rw [← ih (by omega)]
        show Row (freeS _ _ (freeS y.2.e.length _ _)).e a = _
        have := hle i (by omega)
        have := h.mono' 0 i (by omega) (by omega)
        rw [row_free, if_neg (fun hh => by omega), row_free, if_neg (fun hh => by omega)]
    exact key _ (Nat.le_refl _)
  · dsimp only [aroundP] at hx
    rcases (hm x _).1 hx with h1 | ⟨j, h1, ⟨h2, -⟩ | ⟨h2, -⟩⟩
    · rw [row_none (by omega)] at h1; cases h1
    · omega
    · have := hle j h1; omega
  · dsimp only at hx ⊢
    rw [hlen]
    rcases (hm x a).1 hx with h2 | ⟨j, h1, ⟨h2, rfl⟩ | ⟨h2, rfl⟩⟩
    · by_cases h3 : a < bd Ls.length
      · obtain ⟨b, h4, h5⟩ := h.cls (Nat.le_refl _) (by omega) h3 h2
        exact ⟨b, h4, by omega⟩
      · rw [row_none (by omega)] at h2; cases h2
    · have h4 := h.hf j (by omega)
      have h5 := h.mono' 0 j (by omega) (by omega)
      have h6 := h.mono' (j + 1) Ls.length (by omega) (Nat.le_refl _)
      exact ⟨_, rfl, by omega, by omega⟩
    · exact ⟨_, rfl, by omega, by omega⟩
  · dsimp only at hx
    rcases (hm x a).1 hx with h2 | ⟨j, -, ⟨-, rfl⟩ | ⟨-, rfl⟩⟩
    · exact h.edq a x h1 h2
    · exact edq_free _
    · exact edq_free _
  · dsimp only
    rw [alt_r, hlen]
    have h1 : (two y.2).r = y.2.r ++ [-1, -1] := by simp [two, newS]
    rw [h1, h.rul, List.append_assoc]
    congr 1
    have : y.2.e.length + 2 - s.e.length = (y.2.e.length - s.e.length) + 2 := by omega
    rw [this, ← List.replicate_append_replicate]
    rfl
end

/- repeats -/
theorem powL_add (L : Lng) (a : Nat) : ∀ (b : Nat) (w : List Nat), powL L (a + b) w ↔ cat (powL L a) (powL L b) w
  | 0, w => (cat_eps _ w).symm
  | b + 1, w => by
    show cat (powL L (a + b)) L w ↔ cat (powL L a) (cat (powL L b) L) w
    rw [cat_congr (powL_add L a b) (fun _ => Iff.rfl), cat_assoc]
structure RepI (s : St) (x : Nd) (t : Nat) (L : Lng) (i : Nat) (y : Nat × St) : Prop where
  grow : s.e.length + 2 ≤ y.2.e.length
  old : ∀ a, a < s.e.length → Row y.2.e a = Row s.e a
  inn : ∀ a x, s.e.length ≤ a → x ∈ Row y.2.e a → ∃ b : Nat, x.to = b ∧ s.e.length ≤ b ∧ b < y.2.e.length
  edq : ∀ a x, s.e.length ≤ a → x ∈ Row y.2.e a → EdQ x
  hat : s.e.length ≤ y.1 ∧ y.1 < y.2.e.length ∧ y.1 ≠ s.e.length + 1
  nol : Row y.2.e (s.e.length + 1) = []
  pat : (i < t ∨ 0 ≤ x.hi) → ∀ w, Path y.2.e s.e.length w y.1 ↔ powL L i w
  pz : ∀ w, Path y.2.e s.e.length w (s.e.length + 1) ↔ (∃ k : Nat, k ≤ i ∧ x.lo ≤ k ∧ powL L k w) ∨ (i = t ∧ x.hi < 0 ∧ 0 < t ∧ cat (powL L (t - 1)) (plus L) w)
  rul : y.2.r = s.r ++ List.replicate (y.2.e.length - s.e.length) (-1)
theorem rep_zero (s : St) (x : Nd) (hx : 0 ≤ x.lo) (t : Nat) (L : Lng) : RepI s x t L 0 ((aroundP s).f, iff (decide (x.lo = 0)) (freeS (aroundP s).f (aroundP s).l) (two s)) := by
  have hm : ∀ a z, z ∈ Row (iff (decide (x.lo = 0)) (freeS (aroundP s).f (aroundP s).l) (two s)).e a ↔ z ∈ Row s.e a ∨ (x.lo = 0 ∧ a = s.e.length ∧ z = frEd (s.e.length + 1 : Nat)) := fun a z => by
    rw [mem_iff (by simp [aroundP]), row_two]
    simp [aroundP]
  have h1 : Row s.e s.e.length = [] := row_none (Nat.le_refl _)
  have h2 : Row s.e (s.e.length + 1) = [] := row_none (by omega)
  have hr2 : Row (iff (decide (x.lo = 0)) (freeS (aroundP s).f (aroundP s).l) (two s)).e (s.e.length + 1) = [] := eq_nil_of fun z hz => by
    rcases (hm _ z).1 hz with h | h
    · rw [h2] at h; cases h
    · omega
  have key : ∀ w a, Path (iff (decide (x.lo = 0)) (freeS (aroundP s).f (aroundP s).l) (two s)).e s.e.length w a → (a = s.e.length ∧ w = []) ∨ (a = s.e.length + 1 ∧ x.lo = 0 ∧ w = []) := by
    intro w a hp
    induction hp with
    | nil => exact .inl ⟨rfl, rfl⟩
    | free h0 k1 k2 k3 ih =>
      rcases ih with ⟨rfl, rfl⟩ | ⟨rfl, -⟩
      · rcases (hm _ _).1 k1 with h | ⟨h3, -, rfl⟩
        · rw [h1] at h; cases h
        · exact .inr ⟨(Int.ofNat.inj k3).symm, h3, rfl⟩
      · rw [hr2] at k1; cases k1
    | byte h0 k1 k2 k3 k4 ih =>
      rcases ih with ⟨rfl, rfl⟩ | ⟨rfl, -⟩
      · rcases (hm _ _).1 k1 with h | ⟨h3, -, rfl⟩
        · rw [h1] at h; cases h
        · cases k2
      · rw [hr2] at k1; cases k1
  refine ⟨by simp, fun a ha => ?_, fun a z ha hz => ?_, fun a z ha hz => ?_, by dsimp only [aroundP]; simp, hr2, fun _ w => ?_, fun w => ?_, ?_⟩
  · dsimp only
    unfold iff
    split
    · rw [row_free, if_neg (fun hh => by simp [aroundP] at hh; omega), row_two]
    · exact row_two _ _
  · rcases (hm a z).1 hz with h | ⟨-, -, rfl⟩
    · rw [row_none ha] at h; cases h
    · exact ⟨_, rfl, by omega, by simp⟩
  · rcases (hm a z).1 hz with h | ⟨-, -, rfl⟩
    · rw [row_none ha] at h; cases h
    · exact edq_free _
  · show Path _ s.e.length w s.e.length ↔ w = []
    constructor
    · intro hp
      rcases key w _ hp with ⟨-, h⟩ | ⟨h, -⟩
      · exact h
      · omega
    · rintro rfl; exact .nil
  · dsimp only
    constructor
    · intro hp
      rcases key w _ hp with ⟨h, -⟩ | ⟨-, h3, rfl⟩
      · omega
      · exact .inl ⟨0, Nat.le_refl _, by omega, rfl⟩
    · rintro (⟨k, hk, h3, h4⟩ | ⟨h3, h4, h5, -⟩)
      · obtain rfl : k = 0 := by omega
        obtain rfl : w = [] := h4
        exact Path.one ((hm _ _).2 (.inr ⟨by omega, rfl, rfl⟩)) rfl rfl
      · omega
  · dsimp only
    have h3 : ∀ b : Bool, (iff b (freeS (aroundP s).f (aroundP s).l) (two s)).r = s.r ++ [-1, -1] := fun b => by cases b <;> simp [iff, freeS, two, newS]
    have h4 : ∀ b : Bool, (iff b (freeS (aroundP s).f (aroundP s).l) (two s)).e.length - s.e.length = 2 := fun b => by simp
    rw [h3, h4]
    rfl
theorem rep_step {s : St} {x : Nd} {t : Nat} {L : Lng} {i : Nat} {y : Nat × St} (hi : i < t) (hlo : x.hi < 0 → x.lo ≤ t) (h : RepI s x t L i y) {part : St → Pc × St} (hq : PieceL y.2 (part y.2) L) : RepI s x t L (i + 1) (repStep x t (aroundP s) part i y) := by
  obtain ⟨at_, u⟩ := y
  unfold repStep
  dsimp only at hq h ⊢
  generalize part u = qs at *
  obtain ⟨q, v⟩ := qs
  have hgr := h.grow
  have hat := h.hat
  have hgq := hq.grow
  have hqf := hq.hf
  have hql := hq.hl
  dsimp only at hgr hat hgq hqf hql ⊢
  obtain ⟨c1, hc1⟩ : ∃ c1, c1 = decide (x.lo ≤ (i : Int) + 1) := ⟨_, rfl⟩
  obtain ⟨c2, hc2⟩ : ∃ c2, c2 = decide (x.hi < 0 ∧ i + 1 = t) := ⟨_, rfl⟩
  rw [← hc1, ← hc2]
  obtain ⟨n, hn⟩ : ∃ n, n = s.e.length := ⟨_, rfl⟩
  have hp : aroundP s = ⟨n, n + 1⟩ := by rw [hn]; rfl
  rw [hp]
  dsimp only
  obtain ⟨e', he'⟩ : ∃ e', e' = iff c2 (freeS q.l q.f) (iff c1 (freeS q.l (n + 1)) (freeS at_ q.f v)) := ⟨_, rfl⟩
  rw [← he']
  have hlen : e'.e.length = v.e.length := by rw [he']; simp
  have hm : ∀ a z, z ∈ Row e'.e a ↔ ((z ∈ Row v.e a ∨ (a = at_ ∧ z = frEd q.f)) ∨ (c1 = true ∧ a = q.l ∧ z = frEd (n + 1 : Nat))) ∨ (c2 = true ∧ a = q.l ∧ z = frEd q.f) := fun a z => by
    rw [he', mem_iff (by simp; omega), mem_iff (by simp; omega), mem_free (by omega)]
  have hE : Ext (fun a => n ≤ a ∧ a < u.e.length) (fun a => u.e.length ≤ a ∧ a < v.e.length) u.e v.e e'.e q.f q.l at_ (n + 1) c1 c2 := by
    refine ⟨?_, ?_, ?_, by omega, hqf, hql, fun _ => ⟨by omega, by rw [hn]; exact h.nol, by omega⟩, ?_, ?_⟩
    · intro a z hd hz
      obtain ⟨b, h1, h2⟩ := h.inn a z (by omega) hz
      exact ⟨b, h1, by dsimp only at h2; omega⟩
    · intro a z hb hz
      exact hq.inn a z hb.1 hz
    · intro a h1 h2; omega
    · intro a z hd
      have h0 : Row v.e a = Row u.e a := hq.old a hd.2
      have h1 : a ≠ q.l := by omega
      rw [hm, h0]
      simp only [h1, false_and, and_false, or_false]
    · intro a z hb
      have h1 : a ≠ at_ := by omega
      rw [hm]
      simp only [h1, false_and, or_false]
      constructor
      · rintro ((h2 | ⟨h2, h3, h4⟩) | ⟨h2, h3, h4⟩)
        · exact .inl h2
        · exact .inr ⟨h3, .inl ⟨h2, h4⟩⟩
        · exact .inr ⟨h3, .inr ⟨h2, h4⟩⟩
      · rintro (h2 | ⟨h2, ⟨h3, h4⟩ | ⟨h3, h4⟩⟩)
        · exact .inl (.inl h2)
        · exact .inl (.inr ⟨h3, h2, h4⟩)
        · exact .inr ⟨h3, h2, h4⟩
  have hL := hq.lang
  dsimp only at hL
  have hs : n ≤ n ∧ n < u.e.length := by omega
  have hpat := h.pat (.inl hi)
  rw [← hn] at hpat
  have hpz := h.pz
  rw [← hn] at hpz
  dsimp only at hpat hpz
  refine ⟨by dsimp only; omega, fun a ha => ?_, fun a z ha hz => ?_, fun a z ha hz => ?_, by dsimp only; omega, ?_, fun hc w => ?_, fun w => ?_, ?_⟩
  · dsimp only
    rw [← h.old a ha]
    dsimp only
    rw [← show Row v.e a = Row u.e a from hq.old a (by omega), he']
    have key : ∀ (b : Bool) (i to_ : Nat) (u : St), a ≠ i → Row (iff b (freeS i to_) u).e a = Row u.e a := fun b i to_ u hne => by
      cases b
      · rfl
      · show Row (freeS i to_ u).e a = _
        rw [row_free, if_neg (fun hh => hne hh.1)]
    rw [key _ _ _ _ (by omega), key _ _ _ _ (by omega), row_free, if_neg (fun hh => by omega)]
  · dsimp only at hz ⊢
    rw [← hn] at ha ⊢
    by_cases hlt : a < v.e.length
    · obtain ⟨b, h1, h2⟩ := hE.closed a z (by omega) hz
      exact ⟨b, h1, by omega⟩
    · rw [row_none (by omega)] at hz; cases hz
  · dsimp only at hz
    rw [hm] at hz
    rcases hz with ((hz | ⟨-, rfl⟩) | ⟨-, -, rfl⟩) | ⟨-, -, rfl⟩
    · by_cases h3 : a < u.e.length
      · have h0 : Row v.e a = Row u.e a := hq.old a h3
        rw [h0] at hz
        exact h.edq a z ha hz
      · exact hq.edq a z (by omega) hz
    · exact edq_free _
    · exact edq_free _
    · exact edq_free _
  · dsimp only
    rw [← hn]
    refine eq_nil_of fun z hz => ?_
    rcases (hE.dro (n + 1) z (by omega)).1 hz with h1 | ⟨h1, -⟩
    · rw [hn, h.nol] at h1; cases h1
    · omega
  · dsimp only
    rw [← hn, hE.toL hL hs]
    have hcf : c2 = false := by rw [hc2]; simp; omega
    rw [hcf]
    show cat _ (fun v => if false = true then _ else _) w ↔ cat (powL L i) L w
    exact cat_congr hpat (fun v => by simp) w
  · dsimp only
    rw [← hn, hE.toZ hL hs (by omega), hpz]
    have hnt : ¬ (i = t) := by omega
    simp only [hnt, false_and, or_false]
    by_cases hc : x.hi < 0 ∧ i + 1 = t
    · have e2 : c2 = true := by rw [hc2]; exact decide_eq_true hc
      have e1 : c1 = true := by rw [hc1]; refine decide_eq_true ?_; have := hlo hc.1; omega
      rw [e1, e2]
      have hcat : cat (fun u_1 => Path u.e n u_1 at_) (many true L) w ↔ cat (powL L i) (plus L) w := cat_congr hpat (fun v => by simp [many]) w
      rw [hcat]
      have ht1 : t - 1 = i := by omega
      rw [ht1]
      constructor
      · rintro (⟨k, h1, h2⟩ | ⟨-, h2⟩)
        · exact .inl ⟨k, by omega, h2⟩
        · exact .inr ⟨hc.2, hc.1, by omega, h2⟩
      · rintro (⟨k, h1, h2, h3⟩ | ⟨-, -, -, h2⟩)
        · by_cases hk : k ≤ i
          · exact .inl ⟨k, hk, h2, h3⟩
          · obtain rfl : k = i + 1 := by omega
            obtain ⟨a, b, rfl, h4, h5⟩ := h3
            exact .inr ⟨rfl, a, b, rfl, h4, plus_one h5⟩
        · exact .inr ⟨rfl, h2⟩
    · have e2 : c2 = false := by rw [hc2]; exact decide_eq_false hc
      rw [e2]
      have hcat : cat (fun u_1 => Path u.e n u_1 at_) (many false L) w ↔ powL L (i + 1) w := cat_congr hpat (fun v => by simp [many]) w
      rw [hcat]
      constructor
      · rintro (⟨k, h1, h2⟩ | ⟨h1, h2⟩)
        · exact .inl ⟨k, by omega, h2⟩
        · rw [hc1] at h1
          exact .inl ⟨i + 1, Nat.le_refl _, by have := of_decide_eq_true h1; omega, h2⟩
      · rintro (⟨k, h1, h2, h3⟩ | ⟨h1, h2, -⟩)
        · by_cases hk : k ≤ i
          · exact .inl ⟨k, hk, h2, h3⟩
          · obtain rfl : k = i + 1 := by omega
            exact .inr ⟨by rw [hc1]; exact decide_eq_true (by omega), h3⟩
        · exact absurd ⟨h2, h1⟩ hc
  · dsimp only
    have h1 : e'.r = v.r := by
      rw [he']
      have key : ∀ (b : Bool) (i to_ : Nat) (u : St), (iff b (freeS i to_) u).r = u.r := fun b i to_ u => by cases b <;> rfl
      rw [key, key]; rfl
    rw [h1, hlen, hq.rul, h.rul, List.append_assoc, List.replicate_append_replicate]
    congr 2
    dsimp only
    omega
end Go.Cm
