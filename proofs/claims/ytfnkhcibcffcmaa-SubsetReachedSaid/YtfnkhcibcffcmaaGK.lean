/- Texts of this claim, joined: walks of small functions and plain facts about them. Conditions: as each says. -/
import Derived.Test.YtfnkhcibcffcmaaGH
import Derived.Test.YtfnkhcibcffcmaaGJ
/- Where free edges lead, in plain Lean: the least set that is closed; what a spreading of marks keeps. Conditions: none. -/
namespace Go.Cm
open Go.RowKit Go.Proofs

def Fr (e : List (List Ed)) (a b : Nat) : Prop := ∃ x ∈ e.getD a [], x.free = true ∧ x.to = b
inductive Rch (e : List (List Ed)) (S : Nat → Prop) : Nat → Prop
  | base {b : Nat} : S b → Rch e S b
  | step {a b : Nat} : Rch e S a → Fr e a b → Rch e S b
noncomputable def setL (n : Nat) (P : Nat → Prop) : List Nat := (List.range n).filter fun i => @decide (P i) (Classical.propDecidable _)
theorem mem_setL {n : Nat} {P : Nat → Prop} {i : Nat} : i ∈ setL n P ↔ i < n ∧ P i := by simp [setL]
theorem setL_congr {n : Nat} {P Q : Nat → Prop} (h : ∀ i, i < n → (P i ↔ Q i)) : setL n P = setL n Q := by
  unfold setL
  refine List.filter_congr fun i hi => ?_
  rw [List.mem_range] at hi
  by_cases hp : P i
  · rw [@decide_eq_true (P i) (Classical.propDecidable _) hp, @decide_eq_true (Q i) (Classical.propDecidable _) ((h i hi).1 hp)]
  · rw [@decide_eq_false (P i) (Classical.propDecidable _) hp, @decide_eq_false (Q i) (Classical.propDecidable _) (fun q => hp ((h i hi).2 q))]
theorem setL_dec {n : Nat} {P : Nat → Prop} (p : Nat → Bool) (h : ∀ i, i < n → (P i ↔ p i = true)) : setL n P = (List.range n).filter p := by
  unfold setL
  refine List.filter_congr fun i hi => ?_
  rw [List.mem_range] at hi
  by_cases hp : P i
  · rw [@decide_eq_true (P i) (Classical.propDecidable _) hp, (h i hi).1 hp]
  · rw [@decide_eq_false (P i) (Classical.propDecidable _) hp]
    cases hq : p i with
    | false => rfl
    | true => exact absurd ((h i hi).2 hq) hp
theorem setL_len (n : Nat) (P : Nat → Prop) : (setL n P).length ≤ n := Nat.le_trans (List.length_filter_le _ _) (by simp)
theorem Rch.mono {e : List (List Ed)} {S T : Nat → Prop} (h : ∀ i, S i → T i) {b : Nat} (hb : Rch e S b) : Rch e T b := by
  induction hb with
  | base h1 => exact .base (h _ h1)
  | step _ h2 ih => exact .step ih h2
theorem Rch.least {e : List (List Ed)} {S M : Nat → Prop} (h : ∀ i, S i → M i) (hc : ∀ a b, M a → Fr e a b → M b) {b : Nat} (hb : Rch e S b) : M b := by
  induction hb with
  | base h1 => exact h _ h1
  | step _ h2 ih => exact hc _ _ ih h2
/-- the marks as a set -/
def On (m : List Int) (i : Nat) : Prop := m.getD i 0 = 1
structure Bits01 (n : Nat) (m : List Int) : Prop where
  len : m.length = n
  bit : ∀ i, m.getD i 0 = 0 ∨ m.getD i 0 = 1
theorem On.lt {n : Nat} {m : List Int} (hb : Bits01 n m) {i : Nat} (h : On m i) : i < n := by
  apply Classical.byContradiction; intro hn
  unfold On at h
  rw [List.getD_eq_getElem?_getD, List.getElem?_eq_none (by have := hb.len; omega)] at h
  cases h
theorem on_set {n : Nat} {m : List Int} (hb : Bits01 n m) {t : Nat} (ht : t < n) (i : Nat) : On (m.set t 1) i ↔ i = t ∨ On m i := by
  unfold On
  have := hb.len
  by_cases h : i = t
  · subst h
    simp [List.getD, show i < m.length by omega]
  · simp [List.getD, h, show t ≠ i from fun e => h e.symm]
theorem bits_set {n : Nat} {m : List Int} (hb : Bits01 n m) (t : Nat) : Bits01 n (m.set t 1) := ⟨by simpa using hb.len, fun i => by
  simp only [List.getD_eq_getElem?_getD, List.getElem?_set]
  split
  · split
    · exact .inr rfl
    · exact .inl rfl
  · have := hb.bit i
    simpa only [List.getD_eq_getElem?_getD] using this⟩
theorem bits_zero (n : Nat) : Bits01 n (List.replicate n 0) := ⟨by simp, fun i => .inl (by
  simp only [List.getD_eq_getElem?_getD, List.getElem?_replicate]; split <;> rfl)⟩
theorem on_zero (n i : Nat) : ¬ On (List.replicate n 0) i := by
  unfold On
  simp only [List.getD_eq_getElem?_getD, List.getElem?_replicate]; split <;> simp
theorem count_set0 {n : Nat} {m : List Int} (hb : Bits01 n m) {t : Nat} (ht : t < n) (h0 : m.getD t 0 = 0) : (m.set t 1).count 0 + 1 = m.count 0 := by
  have hl := hb.len
  have h1 : m[t]'(by omega) = 0 := by
    rw [List.getD_eq_getElem?_getD, List.getElem?_eq_getElem (by omega)] at h0
    simpa using h0
  rw [List.count_set (by omega), h1]
  have : 0 < m.count 0 := List.count_pos_iff.2 (h1 ▸ List.getElem_mem _)
  simp
  omega
theorem marked_on {n : Nat} {m : List Int} (hb : Bits01 n m) : markedN m = setL n (On m) := by
  rw [setL_dec (fun i => decide (0 < m.getD i 0))]
  · unfold markedN; rw [hb.len]
  · intro i _
    unfold On
    rcases hb.bit i with h | h <;> rw [h] <;> decide
/-- the loop of spread: marks m, and states lf that are left -/
structure SpI (e : List (List Ed)) (n : Nat) (S : Nat → Prop) (m : List Int) (lf : List Nat) (X : Nat → Prop) : Prop where
  bits : Bits01 n m
  base : ∀ i, S i → On m i
  rch : ∀ i, On m i → Rch e S i
  clo : ∀ a, On m a → a ∈ lf ∨ X a ∨ ∀ b, Fr e a b → On m b
  lfm : ∀ a ∈ lf, On m a
  cnt : m.count 0 + lf.length ≤ n
theorem sp_start {e : List (List Ed)} {n : Nat} {m : List Int} (hb : Bits01 n m) : SpI e n (On m) m (markedN m) (fun _ => False) := by
  refine ⟨hb, fun i h => h, fun i h => .base h, fun a h => .inl ?_, fun a h => ?_, ?_⟩
  · rw [marked_on hb, mem_setL]; exact ⟨h.lt hb, h⟩
  · rw [marked_on hb, mem_setL] at h; exact h.2
  · have h1 : (markedN m).length = (m.filter fun x => decide (0 < x)).length := by
      unfold markedN
      have : m = (List.range m.length).map fun i => m.getD i 0 := by
        refine List.ext_getElem (by simp) fun i h1 h2 => ?_
        simp [List.getD, h1]
      conv => rhs; rw [this]
      rw [List.filter_map, List.length_map]
      rfl
    have h2 : m.count 0 + (m.filter fun x => decide (0 < x)).length ≤ m.length := by
      clear h1 hb
      induction m with
      | nil => simp
      | cons a l ih =>
        rw [List.count_cons, List.filter_cons]
        by_cases ha : 0 < a
        · have h1 : decide (0 < a) = true := decide_eq_true ha
          have h2 : (a == 0) = false := by simp; omega
          rw [h1, h2]
          simp
          omega
        · have h1 : decide (0 < a) = false := decide_eq_false ha
          rw [h1]
          simp only [Bool.false_eq_true, if_false, List.length_cons]
          split <;> omega
    rw [h1, ← hb.len]; exact h2
theorem sp_end {e : List (List Ed)} {n : Nat} {S : Nat → Prop} {m : List Int} (h : SpI e n S m [] (fun _ => False)) : markedN m = setL n (Rch e S) := by
  rw [marked_on h.bits]
  refine setL_congr fun i _ => ⟨h.rch i, fun hr => Rch.least h.base (fun a b ha hf => ?_) hr⟩
  rcases h.clo a ha with h1 | h1 | h1
  · cases h1
  · exact h1.elim
  · exact h1 b hf
theorem sp_pop {e : List (List Ed)} {n : Nat} {S : Nat → Prop} {m : List Int} {lf : List Nat} {s : Nat} (h : SpI e n S m (lf ++ [s]) (fun _ => False)) : SpI e n S m lf (fun a => a = s) := by
  refine ⟨h.bits, h.base, h.rch, fun a ha => ?_, fun a ha => h.lfm a (by simp [ha]), by have := h.cnt; simp at this; omega⟩
  rcases h.clo a ha with h1 | h1 | h1
  · rcases List.mem_append.1 h1 with h2 | h2
    · exact .inl h2
    · exact .inr (.inl (by simpa using h2))
  · exact h1.elim
  · exact .inr (.inr h1)
theorem sp_push {e : List (List Ed)} {n : Nat} {S : Nat → Prop} {m : List Int} {lf : List Nat} {s t : Nat} (h : SpI e n S m lf (fun a => a = s)) (ht : t < n) (hs : On m s) (hf : Fr e s t) (h0 : m.getD t 0 = 0) : SpI e n S (m.set t 1) (lf ++ [t]) (fun a => a = s) := by
  have hon := fun i => on_set h.bits ht i
  refine ⟨bits_set h.bits t, fun i hi => (hon i).2 (.inr (h.base i hi)), fun i hi => ?_, fun a ha => ?_, fun a ha => ?_, ?_⟩
  · rcases (hon i).1 hi with rfl | h1
    · exact .step (h.rch s hs) hf
    · exact h.rch i h1
  · rcases (hon a).1 ha with rfl | h1
    · exact .inl (by simp)
    · rcases h.clo a h1 with h2 | h2 | h2
      · exact .inl (by simp [h2])
      · exact .inr (.inl h2)
      · exact .inr (.inr fun b hb => (hon b).2 (.inr (h2 b hb)))
  · rcases List.mem_append.1 ha with h2 | h2
    · exact (hon a).2 (.inr (h.lfm a h2))
    · exact (hon a).2 (.inl (by simpa using h2))
  · have := count_set0 h.bits ht h0
    have := h.cnt
    simp; omega
theorem sp_done {e : List (List Ed)} {n : Nat} {S : Nat → Prop} {m : List Int} {lf : List Nat} {s : Nat} (h : SpI e n S m lf (fun a => a = s)) (hd : ∀ b, Fr e s b → On m b) : SpI e n S m lf (fun _ => False) := by
  refine ⟨h.bits, h.base, h.rch, fun a ha => ?_, h.lfm, h.cnt⟩
  rcases h.clo a ha with h1 | h1 | h1
  · exact .inl h1
  · exact .inr (.inr fun b hb => hd b (h1 ▸ hb))
  · exact .inr (.inr h1)
/-- where a byte leads, ahead of free edges -/
def By (e : List (List Ed)) (S : Nat → Prop) (c : Nat) (b : Nat) : Prop := ∃ a, S a ∧ ∃ x ∈ e.getD a [], x.free = false ∧ hasN x c = true ∧ x.to = b
/-- the states after a text -/
def After (e : List (List Ed)) (F : Nat) : List Nat → Nat → Prop
  | [] => Rch e (fun i => i = F)
  | c :: cs => fun b => Rch e (By e (After e F cs) c) b
end Go.Cm

/- Whether a byte is one of a set: the program's Has and the document's. Conditions: none. -/
namespace Go.Cm
open Go.RowKit Go.Proofs

theorem bits_one (v : Int) : bits .and .u64 v 1 = v % 2 := by
  have h1 : (BitVec.ofInt 64 v &&& BitVec.ofInt 64 1).toNat = (BitVec.ofInt 64 v).toNat % 2 := by
    rw [BitVec.toNat_and]
    exact Nat.and_one_is_mod _
  have h2 : ((BitVec.ofInt 64 v).toNat : Int) = v % 18446744073709551616 := by
    rw [BitVec.toNat_ofInt]
    exact Int.toNat_of_nonneg (Int.emod_nonneg _ (by decide))
  show IntKind.u64.wrap ((BitVec.ofInt 64 v &&& BitVec.ofInt 64 1).toNat : Int) = v % 2
  rw [h1, IntKind.wrap_u64]
  omega
def wordN (x : Ed) (q : Nat) : Int := if q = 0 then x.a else if q = 1 then x.b else if q = 2 then x.c else x.d
set_option maxRecDepth 100000 in
theorem hasP {w : World} (x : Ed) (c : Nat) (hc : c < 256) :
    Calls Try.prog 66 #[.agg #[.int .u64 x.a, .int .u64 x.b, .int .u64 x.c, .int .u64 x.d], .int .u8 c] w fun e w' => e = .returned (.bool (hasN x c)) ∧ ∃ x, w' = ext w x := by
  have h1 := bits_one
  have hw : hasN x c = (wordN x (c / 64) / 2 ^ (c % 64) % 2 == 1) := by
    unfold hasN wordN
    have h2 : (if c < 64 then x.a else if c < 128 then x.b else if c < 192 then x.c else x.d) = (if c / 64 = 0 then x.a else if c / 64 = 1 then x.b else if c / 64 = 2 then x.c else x.d) := by
      (repeat' split) <;> first | rfl | omega
    rw [h2]
  rw [hw]
  have hcell : [Value.int .u64 x.a, Value.int .u64 x.b, Value.int .u64 x.c, Value.int .u64 x.d][c / 64]? = some (.int .u64 (wordN x (c / 64))) := by
    unfold wordN
    rcases (show c / 64 = 0 ∨ c / 64 = 1 ∨ c / 64 = 2 ∨ c / 64 = 3 by omega) with h | h | h | h <;> rw [h] <;> rfl
  have hm : c % 64 < 64 := Nat.mod_lt _ (by decide)
  clear hw
  go_enter Try.func66, Try.ntmps66
  go_wp2
  go_ret
  exact ⟨rfl, ex_ext (below_alloc w _)⟩
/-- the words of a set are words -/
def SetW (x : Ed) : Prop := ∀ q, 0 ≤ wordN x q
set_option maxRecDepth 100000 in
theorem hasR {w : World} (x : Ed) (hx : SetW x) (c : Nat) (hc : c < 256) :
    Calls Try.prog 41 #[.agg #[.int .u64 x.a, .int .u64 x.b, .int .u64 x.c, .int .u64 x.d], .int .u8 c] w fun e w' => e = .returned (.bool (hasN x c)) ∧ ∃ x, w' = ext w x := by
  have hw : hasN x c = (wordN x (c / 64) / 2 ^ (c % 64) % 2 == 1) := by
    unfold hasN wordN
    have h2 : (if c < 64 then x.a else if c < 128 then x.b else if c < 192 then x.c else x.d) = (if c / 64 = 0 then x.a else if c / 64 = 1 then x.b else if c / 64 = 2 then x.c else x.d) := by
      (repeat' split) <;> first | rfl | omega
    rw [h2]
  rw [hw]
  have hcell : [Value.int .u64 x.a, Value.int .u64 x.b, Value.int .u64 x.c, Value.int .u64 x.d][c / 64]? = some (.int .u64 (wordN x (c / 64))) := by
    unfold wordN
    rcases (show c / 64 = 0 ∨ c / 64 = 1 ∨ c / 64 = 2 ∨ c / 64 = 3 by omega) with h | h | h | h <;> rw [h] <;> rfl
  have hm : c % 64 < 64 := Nat.mod_lt _ (by decide)
  have h0 := hx (c / 64)
  generalize wordN x (c / 64) = v at *
  have hdiv : 0 ≤ v / 2 ^ (c % 64) := Int.ediv_nonneg h0 (Int.pow_nonneg (by decide))
  clear hw hx
  go_enter Try.func41, Try.ntmps41
  go_wp2
  go_ret
  exact ⟨rfl, ex_ext (below_alloc w _)⟩
end Go.Cm

/- The walks of the marks of states. Conditions: none. -/
namespace Go.Cm
open Go.RowKit Go.Proofs

theorem marks_bits (n : Nat) (st : List Int) : Bits01 n (marksN n st) := by
  unfold marksN
  have key : ∀ (l : List Int) (m : List Int), Bits01 n m → Bits01 n (l.foldl mk1 m) := by
    intro l
    induction l with
    | nil => intro m h; exact h
    | cons a l ih =>
      intro m h
      rw [List.foldl_cons]
      refine ih _ ?_
      unfold mk1
      split
      · exact bits_set h _
      · exact h
  exact key st _ (bits_zero n)
theorem marks_on (n : Nat) (st : List Int) (i : Nat) : On (marksN n st) i ↔ i < n ∧ (i : Int) ∈ st := by
  unfold marksN
  have key : ∀ (l : List Int) (m : List Int), Bits01 n m → (On (l.foldl mk1 m) i ↔ On m i ∨ (i < n ∧ (i : Int) ∈ l)) := by
    intro l
    induction l with
    | nil => intro m h; simp
    | cons a l ih =>
      intro m h
      rw [List.foldl_cons]
      by_cases ha : 0 ≤ a ∧ a < m.length
      · have e : mk1 m a = m.set a.toNat 1 := by unfold mk1; rw [if_pos ha]
        have hl := h.len
        rw [e, ih _ (bits_set h _), on_set h (by omega)]
        constructor
        · rintro ((h1 | h1) | h1)
          · exact .inr ⟨by omega, by simp; omega⟩
          · exact .inl h1
          · exact .inr ⟨h1.1, by simp [h1.2]⟩
        · rintro (h1 | ⟨h1, h2⟩)
          · exact .inl (.inr h1)
          · rcases List.mem_cons.1 h2 with h3 | h3
            · exact .inl (.inl (by omega))
            · exact .inr ⟨h1, h3⟩
      · have e : mk1 m a = m := by unfold mk1; rw [if_neg ha]
        have hl := h.len
        rw [e, ih _ h]
        refine or_congr Iff.rfl (and_congr_right fun h1 => ⟨fun h2 => List.mem_cons_of_mem _ h2, fun h2 => ?_⟩)
        rcases List.mem_cons.1 h2 with h3 | h3
        · omega
        · exact h3
  rw [key st _ (bits_zero n)]
  exact ⟨fun h => h.elim (fun h => absurd h (on_zero n i)) id, .inr⟩
theorem getD_ints (l : List Int) (i : Nat) (h : i < l.length) : (ints l).getD i undef = .int .i64 (l.getD i 0) := ints_getD l i h
theorem ints_set (l : List Int) (i : Nat) (x : Int) : (ints l).set i (.int .i64 x) = ints (l.set i x) := by simp [ints, List.map_set]
theorem ints_rep (n : Nat) (x : Int) : List.replicate n (.int .i64 x) = ints (List.replicate n x) := by simp [ints]

set_option maxRecDepth 100000 in
set_option maxHeartbeats 4000000 in
theorem marksP {w : World} {A : Array Value} {e : List (List Ed)} {F : Int} {r : List Int} (h : NfaV w A e F r) (hn : e.length ≤ 100000) {v : Value} {st : List Int} (hs : IntsAt w v st) :
    Calls Try.prog 44 #[.agg A, v] w fun en w' => ∃ u, en = .returned u ∧ Own w' w.heap.size 3 u (ints (marksN e.length st)) ∧ Below w.heap.size w w' := by
  obtain ⟨ve, vr, rfl, he, hr⟩ := h
  obtain ⟨oe, ce, be, fe, rfl, hde, hce⟩ := he.open
  obtain ⟨os, cs, bs, fs, rfl, hds, hcs⟩ := hs.open
  have hix := fun (W : World) (i : Nat) (hi : i < st.length) => index_any (P := Try.prog) 23 3 Try.underlying23 (by kernel_rfl) hds W .i64 i (by omega) (by omega)
  simp only [Int.toNat_natCast] at hix
  have HB := Lib.hid hds.hblk
  have HC := Lib.hid hcs
  have hml := hds.len
  obtain ⟨n, hn'⟩ : ∃ n, n = e.length := ⟨_, rfl⟩
  obtain ⟨ln, hln⟩ : ∃ ln, ln = st.length := ⟨_, rfl⟩
  have HLN := Lib.hid hln
  have hmk := run_mk (P := Try.prog) 23 3 (.int .i64 0) 8 n Try.underlying23 (by kernel_rfl) rfl (by decide) (by omega)
  rw [← hn'] at hn ⊢
  rw [← hln] at hix HB HC hml ⊢
  have HA := Lib.hid (below_alloc w (.cells #[.slice oe n ce, .int .i64 F, vr] 25))
  have HO := Lib.hid (own_made (w.alloc (.cells #[.slice oe n ce, .int .i64 F, vr] 25)) w.heap.size 3 (.int .i64 0) n (by simp) (by omega))
  have HA2 := Lib.hid (HA.out.trans ((below_alloc (w.alloc (.cells #[.slice oe n ce, .int .i64 F, vr] 25)) (.cells (madeCells #[.int .i64 0] n) 3)).mono HA.out.size))
  have hsz : (w.alloc (.cells #[.slice oe n ce, .int .i64 F, vr] 25)).heap.size = w.heap.size + 1 := by simp
  rw [hsz] at HO
  clear hs hds hcs hn' hln hce hde he hr
  go_enter Try.func44, Try.ntmps44
  go_wp2
  generalize (w.alloc (.cells #[.slice oe n ce, .int .i64 F, vr] 25)).alloc (.cells (madeCells #[.int .i64 0] n) 3) = w1 at *
  go_loopg [14] ln (fun gk iv wr => ∃ i : Nat, iv = .int .i64 i ∧ i ≤ ln ∧ Own wr w.heap.size 3 (.slice (some ⟨w.heap.size + 1, 0, none⟩) n n) (ints ((st.take i).foldl mk1 (List.replicate n 0))) ∧ Below w.heap.size w wr ∧ gk = ln - i)
  case atStart => exact ⟨0, rfl, Nat.zero_le _, by simpa [ints_rep] using HO.out, HA2.out, rfl⟩
  case round =>
    obtain ⟨i, rfl, hi, hown, hbel, rfl⟩ := hrel
    have HW := Lib.hid hbel
    have HMS := Lib.hid (rfl : (st.take i).foldl mk1 (List.replicate n 0) = (st.take i).foldl mk1 (List.replicate n 0))
    by_cases hlt : i < ln
    · have hcell := (HW.out.cell (p := ⟨bs, fs + i, none⟩) (HB.out (by omega))).trans (HC.out i hlt)
      have hbw : bs < wr.heap.size := by have := HW.out.size; have := HB.out (by omega); omega
      have hixi := fun W => hix W i hlt
      have HNX := Lib.hid (foldl_take mk1 (List.replicate n 0) st 0 i (by have := HLN.out; omega))
      have HML : Hid (((st.take i).foldl mk1 (List.replicate n 0)).length = n) := Lib.hid (by rw [foldl_mk1_length, List.length_replicate])
      obtain ⟨x, hx⟩ : ∃ x, x = st.getD i 0 := ⟨_, rfl⟩
      rw [← hx] at hcell HNX
      generalize (st.take i).foldl mk1 (List.replicate n 0) = m at *
      have HOW := Lib.hid hown
      have hsz1 := HW.out.size
      clear hx hown hbel HA2 HO HMS hmk
      by_cases h0 : 0 ≤ x
      · obtain ⟨k, rfl⟩ := Int.eq_ofNat_of_zero_le h0
        by_cases h1 : k < n
        · have hfr := HOW.out.free k
          have hbg := HOW.out.blk.2
          have hcx := HOW.out.cell (i := k) (by rw [ints_length, HML.out]; exact h1)
          have hixm := index_any (P := Try.prog) 23 3 Try.underlying23 (by kernel_rfl) (show Hd wr (some ⟨w.heap.size + 1, 0, none⟩) n n (w.heap.size + 1) 0 from ⟨fun _ => rfl, Nat.le_refl _, by simp only [maxLen]; omega, by omega, fun _ => hbg⟩)
          have hixk := fun W => hixm W .i64 k (by omega) (by omega)
          simp only [Int.toNat_natCast, Nat.zero_add] at hixk
          have HST := Lib.hid (HOW.out.store k (.int .i64 1))
          have HSTI : Hid (mk1 m (k : Int) = m.set k 1) := Lib.hid (by unfold mk1; rw [if_pos (by have := HML.out; omega)]; simp)
          clear hixm
          go_wp2
          go_roundg (ln - (i + 1))
          case measure => omega
          case rel =>
            have hg := HST.out.2
            refine ⟨i + 1, by go_num, by omega, ?_, HW.out.grown hg hsz1 (fun q hq => by cases hq; omega), rfl⟩
            rw [HNX.out, HSTI.out, ← ints_set]; exact HST.out.1
        · have HSTI : Hid (mk1 m (k : Int) = m) := Lib.hid (by unfold mk1; rw [if_neg (by have := HML.out; omega)])
          go_wp2
          go_roundg (ln - (i + 1))
          case measure => omega
          case rel => exact ⟨i + 1, by go_num, by omega, by rw [HNX.out, HSTI.out]; exact HOW.out, HW.out, rfl⟩
      · have HSTI : Hid (mk1 m x = m) := Lib.hid (by unfold mk1; rw [if_neg (by omega)])
        go_wp2
        go_roundg (ln - (i + 1))
        case measure => omega
        case rel => exact ⟨i + 1, by go_num, by omega, by rw [HNX.out, HSTI.out]; exact HOW.out, HW.out, rfl⟩
    · have hie : i = ln := by omega
      subst hie
      have HOW := Lib.hid hown
      clear hown
      go_wp2
      go_ret
      refine ⟨_, rfl, ?_, HW.out⟩
      have := HOW.out
      rw [HLN.out, List.take_length] at this
      exact this
end Go.Cm

/- The walk of a spreading of marks along free edges. Conditions: none. -/
namespace Go.Cm
open Go.RowKit Go.Proofs

theorem Own.lowI {w : World} {B : Nat} {g n cap : Nat} {xs : List Value} (h : Own w B 3 (.slice (some ⟨g, 0, none⟩) n cap) xs) (k : Nat) (hk : k ≤ n) (h0 : 0 < n) :
    Own w B 3 (.slice (some ⟨g, 0, none⟩) k cap) (xs.take k) ∧ ∀ W : World, (Instr.sliceAt 23 (.slice (some ⟨g, 0, none⟩) n cap) none (some (.int .i64 (k : Int))) none).run Try.prog W = .ok (.slice (some ⟨g, 0, none⟩) k cap) W := by
  have hl := h.len
  obtain ⟨⟨hz, hh⟩, hs⟩ := h
  rcases hh with ⟨h1, _⟩ | ⟨g', cap', cur, h1, hb, hg, hnc, hcm, hcs, htake⟩
  · cases h1
  · simp at h1
    obtain ⟨rfl, h2, rfl⟩ := h1
    have ht : (xs.take k).length = k := by rw [List.length_take]; omega
    refine ⟨⟨⟨by omega, .inr ⟨g, cap, cur, by rw [ht], hb, hg, by rw [ht]; omega, hcm, hcs, ?_⟩⟩, by omega⟩, fun W => ?_⟩
    · rw [ht]
      have : xs.take k = (cur.toList.take (xs.length * 1)).take k := by rw [htake]
      rw [this, List.take_take]
      congr 1
      omega
    · obtain ⟨r1, r2⟩ := run_cutK (P := Try.prog) (k := 1) 23 3 Try.underlying23 (by kernel_rfl)
      rw [run_sliceAt_slice (P := Try.prog) (t := 23) (h := r1), run_slice_h (t := 23) (ht := r1) (h0 := by omega) (h2 := by omega), r2]
      simp [Result.andThen, sliced, show cap ≠ 0 by omega, add_off]
theorem nz_len (l : List Nat) : (nz l).length = l.length := by simp [nz]

set_option maxRecDepth 100000 in
set_option maxHeartbeats 8000000 in
theorem spreadP {w0 w : World} {A : Array Value} {e : List (List Ed)} {F : Int} {r : List Int} (h : NfaV w0 A e F r) (hb : Below w0.heap.size w0 w) (hr : rightN e F r = true) {v : Value} {m0 : List Int} (hm : Own w w0.heap.size 3 v (ints m0)) (h01 : Bits01 e.length m0) :
    Calls Try.prog 43 #[.agg A, v] w fun en w' => ∃ u, en = .returned u ∧ Own w' w0.heap.size 3 u (ints (nz (setL e.length (Rch e (On m0))))) ∧ Below w0.heap.size w0 w' := by
  obtain ⟨hhd, hrows⟩ := rightN_iff.1 hr
  have hn : 1 ≤ e.length ∧ e.length ≤ 3000 := by have := of_decide_eq_true hhd; omega
  have HED : Hid (∀ i, i < e.length → ∀ j, j < (e.getD i []).length → edOk e.length ((e.getD i []).getD j zE) = true) := Lib.hid (fun i hi j hj => (row_iff.1 (hrows i hi)).2 j hj)
  obtain ⟨ve, vr, rfl, he, -⟩ := h
  obtain ⟨oe, ce, be, fe, rfl, hde, hce⟩ := he.open
  have hixe := index_row hde
  have hbe := hde.hblk (by omega)
  have HCE := Lib.hid hce
  have hlm : (ints m0).length = e.length := by rw [ints_length]; exact h01.len
  obtain ⟨oa, cap, g, rfl, hdv, hgb, -⟩ := hm.cases
  rw [hlm] at hm hdv hgb ⊢
  obtain rfl := hdv.hat (by omega)
  obtain ⟨-, hg0⟩ := hgb (by omega)
  have hgw := hdv.hblk (by omega)
  have hixm := fun (W : World) (i : Nat) (hi : i < e.length) => index_any (P := Try.prog) 23 3 Try.underlying23 (by kernel_rfl) hdv W .i64 i (by omega) (by omega)
  simp only [Int.toNat_natCast, Nat.zero_add] at hixm
  have HS0 := Lib.hid (sp_start (e := e) h01)
  obtain ⟨n, hn'⟩ : ∃ n, n = e.length := ⟨_, rfl⟩
  have HN := Lib.hid hn'
  rw [← hn'] at hn HED hixe HCE hm hixm HS0 ⊢
  have hA := below_alloc w (.cells #[.slice oe n ce, .int .i64 F, vr] 25)
  have HBX := Lib.hid (by simpa using own_lit w 0 #[.slice oe n ce, .int .i64 F, vr] 25 (by simp) (Nat.zero_le _) : Own (w.alloc (.cells #[.slice oe n ce, .int .i64 F, vr] 25)) 0 25 (.slice (some ⟨w.heap.size, 0, none⟩) 3 3) [.slice oe n ce, .int .i64 F, vr])
  have HM1 := Lib.hid (hm.up hA)
  have HB1 := Lib.hid (hb.trans (hA.mono hb.size))
  have hsz : (w.alloc (.cells #[.slice oe n ce, .int .i64 F, vr] 25)).heap.size = w.heap.size + 1 := by simp
  have hcu0 : ∃ S, S = On m0 := ⟨_, rfl⟩
  obtain ⟨S, hS⟩ := hcu0
  rw [← hS] at HS0 ⊢
  have hw0 := hb.size
  clear hm hdv hgb hde hce he hrows hhd hr h01 hlm hS hn' hb hA
  go_enter Try.func43, Try.ntmps43
  go_upto_region 1 with fail
  generalize w.alloc (.cells #[.slice oe n ce, .int .i64 F, vr] 25) = w1 at *
  have HMK := Lib.hid (markedP (w := w1) HM1.out.sl (by have := HS0.out.bits.len; omega))
  go_wp2_with ((with_reducible go_at_call 65); refine HMK.out.mono ?_; rintro en w2 ⟨u, rfl, ho, hb2⟩; have HO2 := Lib.hid (ho.mono (Nat.le_of_eq hsz.symm)); have HB2 := Lib.hid (HB1.out.trans (hb2.mono HB1.out.size)); have HM2 := Lib.hid (HM1.out.up hb2); have HBX2 := Lib.hid (HBX.out.up hb2); clear ho hb2)
  clear HMK HM1 HB1 HBX hsz
  go_loopg [5] (m0.count 0 + (markedN m0).length) (fun gk lv wr => ∃ (m : List Int) (lf : List Nat), Own wr w0.heap.size 3 (.slice (some ⟨g, 0, none⟩) n cap) (ints m) ∧ Own wr (w.heap.size + 1) 3 lv (ints (nz lf)) ∧ SpI e n S m lf (fun _ => False) ∧ Own wr 0 25 (.slice (some ⟨w.heap.size, 0, none⟩) 3 3) [.slice oe n ce, .int .i64 F, vr] ∧ Below w0.heap.size w0 wr ∧ gk = m.count 0 + lf.length)
  case atStart => exact ⟨m0, markedN m0, HM2.out, HO2.out, HS0.out, HBX2.out, HB2.out, rfl⟩
  case round =>
    obtain ⟨m, lf, hm, hl, hsp, hbx, hbl, rfl⟩ := hrel
    have HSP := Lib.hid hsp
    have HM := Lib.hid hm
    have HL := Lib.hid hl
    have HB := Lib.hid hbl
    have HX := Lib.hid hbx
    clear HM2 HO2 HS0 HBX2 HB2 hm hl hsp hbx hbl
    have HG : Hid (w.heap.size < wr.heap.size) := Lib.hid (HX.out.blk.2)
    rcases List.eq_nil_or_concat lf with rfl | ⟨lf, s, rfl⟩
    · obtain ⟨ol, cl, gl, rfl, -, -⟩ := HL.out.cases
      simp only [nz, ints, List.map_nil, List.length_nil] at HL ⊢
      have HMK := Lib.hid (markedP (w := wr) HM.out.sl (by have := HSP.out.bits.len; omega))
      go_wp2_with ((with_reducible go_at_call 65); refine HMK.out.mono ?_; rintro en w2 ⟨u, rfl, ho, hb2⟩; have HO2 := Lib.hid ho; have HB2 := Lib.hid hb2; clear ho hb2)
      go_ret
      refine ⟨u, rfl, ?_, HB.out.trans (HB2.out.mono HB.out.size)⟩
      have := HO2.out.mono HB.out.size
      rw [sp_end HSP.out] at this
      exact this
    · rw [List.concat_eq_append] at *
      have hsl : (ints (nz (lf ++ [s]))).length = lf.length + 1 := by simp [nz]
      obtain ⟨ol, cl, gl, rfl, hdl, hgl, hcl, -⟩ := HL.out.cases
      rw [hsl] at HL hdl hgl hcl ⊢
      obtain rfl := hdl.hat (by omega)
      have hgl2 := hgl (by omega)
      have hglw := hdl.hblk (by omega)
      have hcs : wr.cell? ⟨gl, lf.length, none⟩ = some (.int .i64 (s : Int)) := by
        rw [hcl lf.length (by omega), ints_getD _ _ (by simp [nz]), nz_getD _ _ (by simp)]
        simp [List.getD]
      have hixl := index_any (P := Try.prog) 23 3 Try.underlying23 (by kernel_rfl) hdl
      have hixs := fun W => hixl W .i64 (lf.length : Int) (by omega) (by omega)
      simp only [Int.toNat_natCast, Nat.zero_add] at hixs
      obtain ⟨hlow, hcut⟩ := HL.out.lowI lf.length (by omega) (by omega)
      have HLOW : Hid (Own wr (w.heap.size + 1) 3 (.slice (some ⟨gl, 0, none⟩) lf.length cl) (ints (nz lf))) := Lib.hid (by
        have e : (ints (nz (lf ++ [s]))).take lf.length = ints (nz lf) := by simp [ints, nz]
        rw [e] at hlow; exact hlow)
      have hson : On m s := HSP.out.lfm s (by simp)
      have hsn : s < n := hson.lt HSP.out.bits
      have HON := Lib.hid hson
      have HSP2 := Lib.hid (sp_pop HSP.out)
      obtain ⟨oi, ci, bi, fi, hrow, hdi, hcell⟩ := HCE.out s hsn
      have hroww := (HB.out.cell (p := ⟨be, fe + s, none⟩) hbe).trans hrow
      have hber : be < wr.heap.size := by have := HB.out.size; omega
      have hixe2 := fun W => hixe W s hsn
      have hixi := index_edge hdi
      have hbi := hdi.hblk
      have hmi := hdi.len
      have HCI := Lib.hid hcell
      have HEDI := Lib.hid (HED.out s hsn)
      obtain ⟨row, hrw⟩ : ∃ row, row = e.getD s [] := ⟨_, rfl⟩
      have HRO := Lib.hid hrw
      rw [← hrw] at hroww hixi hbi hmi HCI HEDI
      obtain ⟨ln, hln⟩ : ∃ ln, ln = row.length := ⟨_, rfl⟩
      have HLN := Lib.hid hln
      rw [← hln] at hroww hixi hbi hmi HCI HEDI
      have x0 := HX.out.cell (i := 0) (by simp)
      simp only [List.getD_cons_zero] at x0
      have hwx := HG.out
      obtain ⟨K, hK⟩ : ∃ K, K = m.count 0 + lf.length := ⟨_, rfl⟩
      have HK := Lib.hid hK
      clear hlow hrow hdi hcell hrw hln hixl hcl hdl hgl hsl hson hK
      have hlf : lf.length ≤ 3000 := by have := HSP2.out.cnt; omega
      go_wp2
      have HJK : Hid (List.count 0 m + (lf ++ [s]).length = K + 1) := Lib.hid (by rw [HK.out]; simp; omega)
      have HMO := HM
      have HXO := HX
      have HBO := HB
      have HGI : Hid (gl < wr.heap.size) := Lib.hid hglw
      clear HM HX HB HG hroww hber x0 hwx hcs hcut hixs hglw
      generalize wr = wo at *
      go_loopg [5, 31] ln (fun gk lv jv wr => ∃ (j : Nat) (m' : List Int) (lf' : List Nat), jv = .int .i64 j ∧ j ≤ ln ∧ Own wr w0.heap.size 3 (.slice (some ⟨g, 0, none⟩) n cap) (ints m') ∧ Own wr (w.heap.size + 1) 3 lv (ints (nz lf')) ∧ SpI e n S m' lf' (fun a => a = s) ∧ On m' s ∧ (∀ q, q < j → (row.getD q zE).free = true → ∀ b : Nat, (row.getD q zE).to = b → On m' b) ∧ Own wr 0 25 (.slice (some ⟨w.heap.size, 0, none⟩) 3 3) [.slice oe n ce, .int .i64 F, vr] ∧ Below w0.heap.size w0 wr ∧ K = m'.count 0 + lf'.length ∧ gk = ln - j)
      case atStart => exact ⟨0, m, lf, rfl, Nat.zero_le _, HMO.out, HLOW.out, HSP2.out, HON.out, fun q hq => absurd hq (Nat.not_lt_zero q), HXO.out, HBO.out, HK.out, rfl⟩
      case round =>
        obtain ⟨j, m', lf', rfl, hj, hm, hl, hsp, hon, hall, hbx, hbl, hK, rfl⟩ := hrel
        have HM := Lib.hid hm
        have HL := Lib.hid hl
        have HSP' := Lib.hid hsp
        have HON' := Lib.hid hon
        have HALL := Lib.hid hall
        have HX := Lib.hid hbx
        have HB := Lib.hid hbl
        have HK' := Lib.hid hK
        have hgw3 := HM.out.blk.2
        clear hm hl hsp hon hall hbx hbl hK HMO HXO HBO HLOW HSP2 HSP hgl2 HON HK HGI
        by_cases hlt : j < ln
        · obtain ⟨ed, hed⟩ : ∃ ed, ed = row.getD j zE := ⟨_, rfl⟩
          have HEE := Lib.hid hed
          have hbi2 := hbi (by omega)
          have HCD : Hid (∀ c, c < 6 → wr.cell? ⟨bi, fi + j * 6 + c, none⟩ = some ((edA ed).getD c undef)) := Lib.hid (fun c hcl => by
            rw [HB.out.cell (p := ⟨bi, fi + j * 6 + c, none⟩) hbi2, HCI.out j hlt c hcl, edC_get, hed])
          have hok := HEDI.out j hlt
          rw [← hed] at hok
          obtain ⟨tq, fr', a, b, c, d⟩ := ed
          unfold edA at HCD
          simp only at HCD
          have ht : 0 ≤ tq ∧ tq < n := by unfold edOk at hok; simp at hok; omega
          obtain ⟨t, rfl⟩ := Int.eq_ofNat_of_zero_le ht.1
          have htn : t < n := by omega
          have hixj := fun W => hixi W j hlt
          have hA6 := below_alloc wr (.cells #[.int .i64 t, .bool fr', .int .u64 a, .int .u64 b, .int .u64 c, .int .u64 d] 92)
          have HA6 := Lib.hid hA6
          have hsz6 : (wr.alloc (.cells #[.int .i64 t, .bool fr', .int .u64 a, .int .u64 b, .int .u64 c, .int .u64 d] 92)).heap.size = wr.heap.size + 1 := by simp
          clear hed hok ht hA6
          cases fr' with
          | false =>
            go_wp2_with (refine wpList_load_cells rfl 92 _ rfl bi (fi + j * 6) 6 rfl _ _ HCD.out rfl Try.underlying92 rfl (by kernel_rfl) ?_)
            go_roundg (ln - (j + 1))
            case measure => omega
            case rel =>
              refine ⟨j + 1, m', lf', by go_num, by omega, HM.out.up HA6.out, HL.out.up HA6.out, HSP'.out, HON'.out, fun q hq hf b' hb' => ?_, HX.out.up HA6.out, HB.out.trans (HA6.out.mono HB.out.size), HK'.out, rfl⟩
              by_cases hqj : q = j
              · rw [hqj, ← HEE.out] at hf; cases hf
              · exact HALL.out q (by omega) hf b' hb'
          | true =>
            have HFR : Hid (Fr e s t) := Lib.hid ⟨⟨t, true, a, b, c, d⟩, by rw [← HRO.out, HEE.out]; simp [List.getD, show j < row.length by have := HLN.out; omega], rfl, rfl⟩
            have hcm := HM.out.cell (i := t) (by rw [ints_length, HSP'.out.bits.len]; exact htn)
            rw [ints_getD _ _ (by rw [HSP'.out.bits.len]; exact htn)] at hcm
            have hixt := fun W => hixm W t htn
            rcases HSP'.out.bits.bit t with h0 | h1
            · rw [h0] at hcm
              have HH0 := Lib.hid h0
              have hfr := HM.out.free t
              have hwg : wr.heap.size + 1 = wr.heap.size + 1 := rfl
              have HST := Lib.hid (HM.out.store t (.int .i64 1))
              have HA7 := Lib.hid (below_alloc (wr.setCell ⟨g, t, none⟩ (.int .i64 1)) (.cells #[.int .i64 t, .bool true, .int .u64 a, .int .u64 b, .int .u64 c, .int .u64 d] 92))
              have HMA := Lib.hid (HST.out.1.up HA7.out)
              have HLA := Lib.hid ((HL.out.keep HST.out.2 (.inr (fun e => by have := HL.out.lt g e; omega))).up HA7.out)
              have HXA := Lib.hid ((HX.out.keep HST.out.2 (.inr (fun e => by have : w.heap.size = g := Option.some.inj e; omega))).up HA7.out)
              have HBA : Hid (Below w0.heap.size w0 ((wr.setCell ⟨g, t, none⟩ (.int .i64 1)).alloc (.cells #[.int .i64 t, .bool true, .int .u64 a, .int .u64 b, .int .u64 c, .int .u64 d] 92))) := Lib.hid ((HB.out.grown HST.out.2 (by have := HB.out.size; omega) (fun k hk => by cases hk; omega)).trans (HA7.out.mono (by have := HB.out.size; simpa using this)))
              have hsz7 : ((wr.setCell ⟨g, t, none⟩ (.int .i64 1)).alloc (.cells #[.int .i64 t, .bool true, .int .u64 a, .int .u64 b, .int .u64 c, .int .u64 d] 92)).heap.size = wr.heap.size + 1 := by simp
              have HA8 := Lib.hid (below_alloc ((wr.setCell ⟨g, t, none⟩ (.int .i64 1)).alloc (.cells #[.int .i64 t, .bool true, .int .u64 a, .int .u64 b, .int .u64 c, .int .u64 d] 92)) (.cells #[.int .i64 (t : Int)] 3))
              have hll : lf'.length ≤ 3000 := by have := HSP'.out.cnt; omega
              have hwz := HB.out.size
              have hxz := HX.out.blk.2
              have HSLN : Hid (Sl (((wr.setCell ⟨g, t, none⟩ (.int .i64 1)).alloc (.cells #[.int .i64 t, .bool true, .int .u64 a, .int .u64 b, .int .u64 c, .int .u64 d] 92)).alloc (.cells #[.int .i64 (t : Int)] 3)) (.slice (some ⟨wr.heap.size + 1, 0, none⟩) 1 1) (ints (nz [t]))) := Lib.hid (by
                have := sl_lit ((wr.setCell ⟨g, t, none⟩ (.int .i64 1)).alloc (.cells #[.int .i64 t, .bool true, .int .u64 a, .int .u64 b, .int .u64 c, .int .u64 d] 92)) #[.int .i64 (t : Int)] 3 (by simp)
                rw [hsz7] at this
                exact this)
              clear h0 hwg
              go_wp2_with (first | (refine wpList_load_cells rfl 92 _ rfl bi (fi + j * 6) 6 rfl _ _ HCD.out rfl Try.underlying92 rfl (by kernel_rfl) ?_) | (at_builtin; go_loud (refine wpList_app rfl (.tmp 49) (.tmp 52) 23 rfl (w.heap.size + 1) 3 (.int .i64 0) 8 Try.underlying23 (by kernel_rfl) rfl (by decide) u5 (ints (nz lf')) rfl (HLA.out.up HA8.out) (.slice (some ⟨wr.heap.size + 1, 0, none⟩) 1 1) (ints (nz [t])) rfl HSLN.out (ints_sing _) (by simp [nz]; omega) (by simp; omega) ?_); intro v' w5 hown1 hg1 hk1; have HO1 := Lib.hid hown1; have HG1 := Lib.hid hg1; clear hown1 hg1 hk1))
              go_roundg (ln - (j + 1))
              case measure => omega
              case rel =>
                have hgl' := fun k (hk : u5.ownBlock = some k) => (HL.out.lt k hk).1
                have hmb := HSP'.out.bits
                have hon2 := fun i => on_set hmb htn i
                refine ⟨j + 1, m'.set t 1, lf' ++ [t], by go_num, by omega, ?_, ?_, sp_push HSP'.out htn HON'.out HFR.out HH0.out, (hon2 s).2 (.inr HON'.out), fun q hq hf b' hb' => ?_, ?_, ?_, ?_, rfl⟩
                · rw [← ints_set]
                  exact (HMA.out.up HA8.out).keep HG1.out (.inr (fun e => by have := hgl' g e.symm; omega))
                · rw [nz_append, ints_app]; exact HO1.out
                · rw [hon2]
                  by_cases hqj : q = j
                  · rw [hqj, ← HEE.out] at hb'
                    exact .inl (Int.ofNat.inj hb').symm
                  · exact .inr (HALL.out q (by omega) hf b' hb')
                · exact (HXA.out.up HA8.out).keep HG1.out (.inr (fun e => by have := hgl' w.heap.size e.symm; omega))
                · exact (HBA.out.trans (HA8.out.mono (by omega))).grown HG1.out (by simp; omega) (fun k hk => by have := hgl' k hk; omega)
                · have := count_set0 hmb htn HH0.out
                  have := HK'.out
                  simp; omega
            · rw [h1] at hcm
              have HH1 := Lib.hid h1
              clear h1
              go_wp2_with (refine wpList_load_cells rfl 92 _ rfl bi (fi + j * 6) 6 rfl _ _ HCD.out rfl Try.underlying92 rfl (by kernel_rfl) ?_)
              go_roundg (ln - (j + 1))
              case measure => omega
              case rel =>
                refine ⟨j + 1, m', lf', by go_num, by omega, HM.out.up HA6.out, HL.out.up HA6.out, HSP'.out, HON'.out, fun q hq hf b' hb' => ?_, HX.out.up HA6.out, HB.out.trans (HA6.out.mono HB.out.size), HK'.out, rfl⟩
                by_cases hqj : q = j
                · rw [hqj, ← HEE.out] at hb'
                  obtain rfl : t = b' := Int.ofNat.inj hb'
                  exact HH1.out
                · exact HALL.out q (by omega) hf b' hb'
        · go_wp2
          go_roundg K
          case measure => rw [HJK.out]; omega
          case rel =>
            refine ⟨m', lf', HM.out, HL.out, sp_done HSP'.out (fun b hb => ?_), HX.out, HB.out, HK'.out⟩
            obtain ⟨x, hx, hf, ht⟩ := hb
            rw [← HRO.out] at hx
            obtain ⟨q, hq, rfl⟩ := List.getElem_of_mem hx
            have hg : row.getD q zE = row[q] := by simp [List.getD, hq]
            exact HALL.out q (by have := HLN.out; omega) (by rw [hg]; exact hf) b (by rw [hg]; exact ht)
end Go.Cm

/- The walks of a closure and of a step. Conditions: none. -/
namespace Go.Cm
open Go.RowKit Go.Proofs

/-- states of a list that can be -/
def InL (n : Nat) (st : List Int) (i : Nat) : Prop := i < n ∧ (i : Int) ∈ st
theorem on_marks (n : Nat) (st : List Int) : On (marksN n st) = InL n st := funext fun i => propext (marks_on n st i)
noncomputable def cloN (e : List (List Ed)) (F : Int) (r st : List Int) : List Nat := if rightN e F r then setL e.length (Rch e (InL e.length st)) else []
noncomputable def stepN (e : List (List Ed)) (st : List Int) (c : Nat) : List Nat := setL e.length (Rch e (By e (InL e.length st) c))
theorem right_len {e : List (List Ed)} {F : Int} {r : List Int} (h : rightN e F r = true) : 1 ≤ e.length ∧ e.length ≤ 3000 := by
  have := of_decide_eq_true (rightN_iff.1 h).1; omega

theorem nfaBox {w : World} {p : Nat} {ve vr : Value} {F : Int} (h : Own w 0 25 (.slice (some ⟨p, 0, none⟩) 3 3) [ve, .int .i64 F, vr]) : ∀ c, c < 3 → w.cell? ⟨p, 0 + c, none⟩ = some ((#[ve, .int .i64 F, vr] : Array Value).getD c undef) := fun c hc => by
  rw [Nat.zero_add, h.cell (by simpa using hc)]
  rcases (show c = 0 ∨ c = 1 ∨ c = 2 by omega) with rfl | rfl | rfl <;> rfl
set_option maxRecDepth 100000 in
set_option maxHeartbeats 4000000 in
theorem closureP {w : World} {A : Array Value} {e : List (List Ed)} {F : Int} {r : List Int} (h : NfaV w A e F r) {v : Value} {st : List Int} (hs : IntsAt w v st) :
    Calls Try.prog 25 #[.agg A, v] w fun en w' => ∃ u, en = .returned u ∧ Own w' w.heap.size 3 u (ints (nz (cloN e F r st))) ∧ Below w.heap.size w w' := by
  have h0 := h
  obtain ⟨ve, vr, rfl, -, -⟩ := h
  obtain ⟨R, hR⟩ : ∃ R, R = rightN e F r := ⟨_, rfl⟩
  have HR := Lib.hid hR
  have HH := Lib.hid h0
  have HS := Lib.hid hs
  have HA := Lib.hid (below_alloc w (.cells #[ve, .int .i64 F, vr] 25))
  have HRT := Lib.hid (rightP (h0.up HA.out))
  rw [← hR] at HRT
  have HBX := Lib.hid (by simpa using own_lit w 0 #[ve, .int .i64 F, vr] 25 (by simp) (Nat.zero_le _) : Own (w.alloc (.cells #[ve, .int .i64 F, vr] 25)) 0 25 (.slice (some ⟨w.heap.size, 0, none⟩) 3 3) [ve, .int .i64 F, vr])
  clear h0 hs hR
  cases R with
  | false =>
    have HC : Hid (cloN e F r st = []) := Lib.hid (by unfold cloN; rw [← HR.out]; rfl)
    go_enter Try.func25, Try.ntmps25
    go_wp2_with ((with_reducible go_at_call 20); refine HRT.out.mono ?_; rintro en w1 ⟨rfl, x1, rfl⟩)
    go_ret
    exact ⟨_, rfl, by rw [HC.out]; exact Own.nil _ _ _, HA.out.trans ((ext_below _ x1).mono HA.out.size)⟩
  | true =>
    have HN := Lib.hid (right_len HR.out.symm)
    have HC : Hid (cloN e F r st = setL e.length (Rch e (On (marksN e.length st)))) := Lib.hid (by unfold cloN; rw [← HR.out, on_marks]; rfl)
    go_enter Try.func25, Try.ntmps25
    go_upto_region 3 with ((with_reducible go_at_call 20); refine HRT.out.mono ?_; rintro en w1 ⟨rfl, x1, rfl⟩)
    have HB1 := Lib.hid (HA.out.trans ((ext_below _ x1).mono HA.out.size))
    have HBX1 := Lib.hid (HBX.out.up (ext_below _ x1))
    clear HA HBX HRT
    generalize ext (w.alloc (.cells #[ve, .int .i64 F, vr] 25)) x1 = w1 at *
    have HBQ : Hid (∀ w', (∃ y, w' = ext w1 y) → ∀ c, c < 3 → w'.cell? ⟨w.heap.size, 0 + c, none⟩ = some ((#[ve, .int .i64 F, vr] : Array Value).getD c undef)) := Lib.hid (by
      rintro w' ⟨y, rfl⟩
      exact nfaBox (HBX1.out.up (ext_below _ y)))
    have HMK := Lib.hid (marksP ((HH.out.up HB1.out).up (drew_b w1)) (by have := HN.out; omega) ((HS.out.up HB1.out).up (drew_b w1)))
    refine wp_region_tailg [0,1,2] [3] [4,5] (by kernel_rfl) (by kernel_rfl) ?_
    simp only [pick, List.map_cons, List.map_nil, List.getD_cons_zero, List.getD_cons_succ]
    repeat (first | (go_big_quiet_want; refine quiet_load_cells 25 3 _ rfl w.heap.size 0 rfl #[ve, .int .i64 F, vr] rfl HBQ.out _ Try.underlying25 rfl (by kernel_rfl) ?_; go_simp; go_big_quiet_on) | go_big_quiet_step (fail))
    refine wpQuiet_nil ?_
    unfold wpAct
    go_wp2_with ((with_reducible go_at_call 44); refine HMK.out.mono ?_; rintro en w2 ⟨u, rfl, ho, hb⟩; have HO := Lib.hid ho; have HB2 := Lib.hid hb; clear ho hb)
    have HSP := Lib.hid (spreadP (w0 := w) HH.out ((HB1.out.trans ((drew_b w1).mono HB1.out.size)).trans (HB2.out.mono (by simpa using HB1.out.size))) HR.out.symm (HO.out.mono (by simpa using HB1.out.size)) (marks_bits _ _))
    refine ⟨ex_ext ((drew_b w1).trans HB2.out), ?_⟩
    unfold wpAct
    unfold wpAct
    go_wp2_with ((with_reducible go_at_call 43); refine HSP.out.mono ?_; rintro en w3 ⟨u3, rfl, ho, hb⟩; have HO3 := Lib.hid ho; have HB3 := Lib.hid hb; clear ho hb)
    refine ⟨trivial, ?_⟩
    unfold wpAct
    go_wp2
    refine ⟨trivial, ?_⟩
    unfold wpAct
    go_wp2
    go_ret
    exact ⟨_, rfl, by rw [HC.out]; exact HO3.out, HB3.out⟩
end Go.Cm

/- The walk of a step. Conditions: none. -/
namespace Go.Cm
open Go.RowKit Go.Proofs

def By1 (e : List (List Ed)) (a c b : Nat) : Prop := ∃ x ∈ e.getD a [], x.free = false ∧ hasN x c = true ∧ x.to = b
theorem by_iff {e : List (List Ed)} {S : Nat → Prop} {n c b : Nat} (L : List Nat) (hL : L = setL n S) (hS : ∀ i, S i → i < n) : By e S c b ↔ ∃ q, q < L.length ∧ By1 e (L.getD q 0) c b := by
  constructor
  · rintro ⟨a, ha, h⟩
    have : a ∈ L := by rw [hL, mem_setL]; exact ⟨hS a ha, ha⟩
    obtain ⟨q, hq, rfl⟩ := List.getElem_of_mem this
    exact ⟨q, hq, by rw [show L.getD q 0 = L[q] by simp [List.getD, hq]]; exact h⟩
  · rintro ⟨q, hq, h⟩
    have : L.getD q 0 ∈ L := by simp [List.getD, hq]
    rw [hL, mem_setL, ← hL] at this
    exact ⟨_, this.2, h⟩
set_option maxRecDepth 100000 in
set_option maxHeartbeats 8000000 in
theorem stepP {w : World} {A : Array Value} {e : List (List Ed)} {F : Int} {r : List Int} (h : NfaV w A e F r) (hr : rightN e F r = true) {v : Value} {st : List Int} (hs : IntsAt w v st) (c : Nat) (hc : c < 256) :
    Calls Try.prog 45 #[.agg A, v, .int .u8 c] w fun en w' => ∃ u, en = .returned u ∧ Own w' w.heap.size 3 u (ints (nz (stepN e st c))) ∧ Below w.heap.size w w' := by
  obtain ⟨hhd, hrows⟩ := rightN_iff.1 hr
  have hn := right_len hr
  have HED : Hid (∀ i, i < e.length → ∀ j, j < (e.getD i []).length → edOk e.length ((e.getD i []).getD j zE) = true) := Lib.hid (fun i hi j hj => (row_iff.1 (hrows i hi)).2 j hj)
  have HH := Lib.hid h
  have HRR := Lib.hid hr
  obtain ⟨ve, vr, rfl, he, -⟩ := h
  obtain ⟨oe, ce, be, fe, rfl, hde, hce⟩ := he.open
  have hixe := index_row hde
  have hbe := hde.hblk (by omega)
  have HCE := Lib.hid hce
  have HSS := Lib.hid hs
  have HSN : Hid (stepN e st c = setL e.length (Rch e (By e (InL e.length st) c))) := Lib.hid rfl
  obtain ⟨L, hL⟩ : ∃ L, L = setL e.length (InL e.length st) := ⟨_, rfl⟩
  have HLM : Hid (markedN (marksN e.length st) = L) := Lib.hid (by rw [marked_on (marks_bits _ _), on_marks, hL])
  have HBI : Hid (∀ b, By e (InL e.length st) c b ↔ ∃ q, q < L.length ∧ By1 e (L.getD q 0) c b) := Lib.hid (fun b => by_iff L hL (fun i hi => hi.1))
  have HLT : Hid (∀ q, q < L.length → L.getD q 0 < e.length) := Lib.hid (fun q hq => by
    have : L.getD q 0 ∈ L := by simp [List.getD, hq]
    rw [hL, mem_setL, ← hL] at this
    exact this.1)
  have hLl : L.length ≤ e.length := by rw [hL]; exact setL_len _ _
  have HMM := Lib.hid (fun (x : World) (hb : Below w.heap.size w x) => marksP (w := x) (HH.out.up hb) (by omega) (hs.up hb))
  have HML : Hid ((marksN e.length st).length ≤ 100000) := Lib.hid (by rw [(marks_bits e.length st).len]; omega)
  obtain ⟨n, hn'⟩ : ∃ n, n = e.length := ⟨_, rfl⟩
  have HN := Lib.hid hn'
  have hmk := run_mk (P := Try.prog) 23 3 (.int .i64 0) 8 n Try.underlying23 (by kernel_rfl) rfl (by decide) (by omega)
  rw [← hn'] at hn HED hixe HCE HSN HLM HBI HLT hLl HMM HML ⊢
  have hA := below_alloc w (.cells #[.slice oe n ce, .int .i64 F, vr] 25)
  have HBX := Lib.hid (by simpa using own_lit w 0 #[.slice oe n ce, .int .i64 F, vr] 25 (by simp) (Nat.zero_le _) : Own (w.alloc (.cells #[.slice oe n ce, .int .i64 F, vr] 25)) 0 25 (.slice (some ⟨w.heap.size, 0, none⟩) 3 3) [.slice oe n ce, .int .i64 F, vr])
  have hsz : (w.alloc (.cells #[.slice oe n ce, .int .i64 F, vr] 25)).heap.size = w.heap.size + 1 := by simp
  have HO := Lib.hid (own_made (w.alloc (.cells #[.slice oe n ce, .int .i64 F, vr] 25)) (w.heap.size + 1) 3 (.int .i64 0) n (by simp) (by omega))
  rw [hsz] at HO
  have hA2 := below_alloc (w.alloc (.cells #[.slice oe n ce, .int .i64 F, vr] 25)) (.cells (madeCells #[.int .i64 0] n) 3)
  have HBX2 := Lib.hid (HBX.out.up hA2)
  have HB2 := Lib.hid (hA.trans (hA2.mono hA.size))
  have hsz2 : ((w.alloc (.cells #[.slice oe n ce, .int .i64 F, vr] 25)).alloc (.cells (madeCells #[.int .i64 0] n) 3)).heap.size = w.heap.size + 2 := by simp
  clear hs hhd hrows hr he hde hce hL hn' hA hA2 HBX hsz
  go_enter Try.func45, Try.ntmps45
  go_upto_region 2 with fail
  generalize (w.alloc (.cells #[.slice oe n ce, .int .i64 F, vr] 25)).alloc (.cells (madeCells #[.int .i64 0] n) 3) = w2 at *
  have HMK := Lib.hid (HMM.out w2 HB2.out)
  go_upto_region 3 with (first
    | (refine wpList_load_cells rfl 25 _ rfl w.heap.size 0 3 rfl #[.slice oe n ce, .int .i64 F, vr] _ (nfaBox HBX2.out) rfl Try.underlying25 rfl (by kernel_rfl) ?_)
    | ((with_reducible go_at_call 44); refine HMK.out.mono ?_; rintro en w3 ⟨u3, rfl, ho, hb⟩; have HO3 := Lib.hid ho; have HB3 := Lib.hid hb; clear ho hb)
    | ((with_reducible go_at_call 65); refine (markedP HO3.out.sl HML.out).mono ?_; rintro en w4 ⟨u4, rfl, ho, hb⟩; rw [HLM.out] at ho; have HO4 := Lib.hid ho; have HB4 := Lib.hid (HB3.out.trans (hb.mono HB3.out.size)); obtain ⟨ol, cl, gl, rfl, hdl, hgl, hcl, -⟩ := ho.cases; rw [show (ints (nz L)).length = L.length by simp [nz]] at *; clear ho hb))
  have HW4 := Lib.hid (HB2.out.trans (HB4.out.mono (by omega)))
  have HX4 := Lib.hid (HBX2.out.up HB4.out)
  have HM4 := Lib.hid (by simpa [ints_rep] using HO.out.up HB4.out : Own w4 (w.heap.size + 1) 3 (.slice (some ⟨w.heap.size + 1, 0, none⟩) n n) (ints (List.replicate n 0)))
  have HCL : Hid (∀ i, i < L.length → w4.cell? ⟨gl, i, none⟩ = some (.int .i64 ((L.getD i 0 : Nat) : Int))) := Lib.hid (fun i hi => by rw [hcl i hi, ints_getD _ _ (by simpa [nz] using hi), nz_getD _ _ hi])
  have hixl := fun (W : World) (i : Nat) (hi : i < L.length) => index_any (P := Try.prog) 23 3 Try.underlying23 (by kernel_rfl) hdl W .i64 i (by omega) (by omega)
  simp only [Int.toNat_natCast, Nat.zero_add] at hixl
  have HGL : Hid (0 < L.length → gl < w4.heap.size ∧ w.heap.size + 2 ≤ gl) := Lib.hid (fun hp => ⟨hdl.hblk hp, by have := (hgl hp).2; have := HB3.out.size; omega⟩)
  have hml := hdl.len
  obtain ⟨ll, hll⟩ : ∃ ll, ll = L.length := ⟨_, rfl⟩
  have HLL := Lib.hid hll
  rw [← hll] at hixl HGL HCL hml hLl HBI HLT ⊢
  have HWO : Hid (w.heap.size + 2 ≤ w4.heap.size) := Lib.hid (by have := HB4.out.size; omega)
  clear HMK HO HBX2 HB2 HO3 HB3 HO4 hdl hgl hcl HB4 HLM HML HMM hmk hll hsz2
  go_loopg [21] ll (fun gk iv wr => ∃ (i : Nat) (m : List Int), iv = .int .i64 i ∧ i ≤ ll ∧ Own wr (w.heap.size + 1) 3 (.slice (some ⟨w.heap.size + 1, 0, none⟩) n n) (ints m) ∧ Bits01 n m ∧ (∀ b, On m b ↔ ∃ q, q < i ∧ By1 e (L.getD q 0) c b) ∧ w4.grownBy wr (some (w.heap.size + 1)) ∧ gk = ll - i)
  case atStart => exact ⟨0, _, rfl, Nat.zero_le _, HM4.out, bits_zero n, fun b => ⟨fun h => absurd h (on_zero n b), fun ⟨q, h, _⟩ => absurd h (Nat.not_lt_zero q)⟩, grown_refl _ _, rfl⟩
  case round =>
    obtain ⟨i, m, rfl, hi, hm, hbit, hon, hgr, rfl⟩ := hrel
    have HM := Lib.hid hm
    have HBT := Lib.hid hbit
    have HON := Lib.hid hon
    have HG := Lib.hid hgr
    have HW : Hid (Below w.heap.size w wr) := Lib.hid (HW4.out.grown hgr HW4.out.size (fun k hk => by cases hk; omega))
    have HX := Lib.hid (HX4.out.keep hgr (.inr (fun e => by have : w.heap.size = w.heap.size + 1 := Option.some.inj e; omega)))
    clear hm hbit hon hgr HM4
    have x0 := HX.out.cell (i := 0) (by simp)
    simp only [List.getD_cons_zero] at x0
    have hwx : w.heap.size < wr.heap.size := HX.out.blk.2
    by_cases hlt : i < ll
    · have hgl := HGL.out (by omega)
      have hcl := (World.cell?_of_block (a := ⟨gl, i, none⟩) (HG.out.block gl hgl.1 (fun e => by have : gl = w.heap.size + 1 := Option.some.inj e; omega))).trans (HCL.out i hlt)
      have hglw : gl < wr.heap.size := by have := HG.out.size; omega
      have hixi0 := fun W => hixl W i hlt
      obtain ⟨s, hs⟩ : ∃ s, s = L.getD i 0 := ⟨_, rfl⟩
      have HS := Lib.hid hs
      have hsn : s < n := by rw [hs]; exact HLT.out i hlt
      rw [← hs] at hcl
      obtain ⟨oi, ci, bi, fi, hrow, hdi, hcell⟩ := HCE.out s hsn
      have hroww := (HW.out.cell (p := ⟨be, fe + s, none⟩) hbe).trans hrow
      have hber : be < wr.heap.size := by have := HW.out.size; omega
      have hixe2 := fun W => hixe W s hsn
      have hixi := index_edge hdi
      have hbi := hdi.hblk
      have hmi := hdi.len
      have HCI := Lib.hid hcell
      have HEDI := Lib.hid (HED.out s hsn)
      obtain ⟨row, hrw⟩ : ∃ row, row = e.getD s [] := ⟨_, rfl⟩
      have HRO := Lib.hid hrw
      rw [← hrw] at hroww hixi hbi hmi HCI HEDI
      obtain ⟨ln, hln⟩ : ∃ ln, ln = row.length := ⟨_, rfl⟩
      have HLN := Lib.hid hln
      rw [← hln] at hroww hixi hbi hmi HCI HEDI
      clear hs hrow hdi hcell hrw hln hgl
      go_wp2
      have HMO := HM
      have HGO := HG
      have HBTO := HBT
      clear HM HX HG HW hroww hber x0 hwx hcl hglw HBT
      generalize wr = wo at *
      go_loopg [31] ln (fun gk jv wr => ∃ (j : Nat) (m' : List Int), jv = .int .i64 j ∧ j ≤ ln ∧ Own wr (w.heap.size + 1) 3 (.slice (some ⟨w.heap.size + 1, 0, none⟩) n n) (ints m') ∧ Bits01 n m' ∧ (∀ b, On m' b ↔ On m b ∨ ∃ q, q < j ∧ (row.getD q zE).free = false ∧ hasN (row.getD q zE) c = true ∧ (row.getD q zE).to = b) ∧ w4.grownBy wr (some (w.heap.size + 1)) ∧ gk = ln - j)
      case atStart => exact ⟨0, m, rfl, Nat.zero_le _, HMO.out, HBTO.out, fun b => ⟨.inl, fun h => h.elim id (fun ⟨q, h, _⟩ => absurd h (Nat.not_lt_zero q))⟩, HGO.out, rfl⟩
      case round =>
        obtain ⟨j, m', rfl, hj, hm, hbit, hon, hgr, rfl⟩ := hrel
        have HM := Lib.hid hm
        have HBT := Lib.hid hbit
        have HON' := Lib.hid hon
        have HG := Lib.hid hgr
        have HW : Hid (Below w.heap.size w wr) := Lib.hid (HW4.out.grown hgr HW4.out.size (fun k hk => by cases hk; omega))
        have hgw3 := HM.out.blk.2
        clear hm hbit hon hgr HMO HGO HBTO
        by_cases hlt : j < ln
        · obtain ⟨ed, hed⟩ : ∃ ed, ed = row.getD j zE := ⟨_, rfl⟩
          have HEE := Lib.hid hed
          have hbi2 := hbi (by omega)
          have HCD : Hid (∀ c, c < 6 → wr.cell? ⟨bi, fi + j * 6 + c, none⟩ = some ((edA ed).getD c undef)) := Lib.hid (fun c hcl => by
            rw [HW.out.cell (p := ⟨bi, fi + j * 6 + c, none⟩) hbi2, HCI.out j hlt c hcl, edC_get, hed])
          have hok := HEDI.out j hlt
          rw [← hed] at hok
          obtain ⟨tq, fr', a, b, c', d⟩ := ed
          unfold edA at HCD
          simp only at HCD
          have ht : 0 ≤ tq ∧ tq < n := by unfold edOk at hok; simp at hok; omega
          obtain ⟨t, rfl⟩ := Int.eq_ofNat_of_zero_le ht.1
          have htn : t < n := by omega
          have hixj := fun W => hixi W j hlt
          have HA6 := Lib.hid (below_alloc wr (.cells #[.int .i64 t, .bool fr', .int .u64 a, .int .u64 b, .int .u64 c', .int .u64 d] 92))
          have HG6 := Lib.hid (grown_trans HG.out (grown_below HA6.out _))
          have HM6 := Lib.hid (HM.out.up HA6.out)
          have HSAME : Hid ((fr' = true ∨ hasN ⟨(t : Int), fr', a, b, c', d⟩ c = false) → ∀ bb, On m' bb ↔ On m bb ∨ ∃ q, q < j + 1 ∧ (row.getD q zE).free = false ∧ hasN (row.getD q zE) c = true ∧ (row.getD q zE).to = bb) := Lib.hid (fun hno bb => by
            rw [HON'.out bb]
            refine or_congr Iff.rfl ⟨fun ⟨q, h1, h2⟩ => ⟨q, by omega, h2⟩, fun ⟨q, h1, h2, h3, h4⟩ => ?_⟩
            by_cases hqj : q = j
            · rw [hqj, ← HEE.out] at h2 h3
              rcases hno with hno | hno
              · rw [hno] at h2; cases h2
              · rw [hno] at h3; cases h3
            · exact ⟨q, by omega, h2, h3, h4⟩)
          have HHS := Lib.hid (fun (x : World) => hasP (w := x) ⟨(t : Int), fr', a, b, c', d⟩ c hc)
          clear hed hok ht
          cases fr' with
          | true =>
            go_wp2_with (refine wpList_load_cells rfl 92 _ rfl bi (fi + j * 6) 6 rfl _ _ HCD.out rfl Try.underlying92 rfl (by kernel_rfl) ?_)
            go_roundg (ln - (j + 1))
            case measure => omega
            case rel => exact ⟨j + 1, m', by go_num, by omega, HM6.out, HBT.out, HSAME.out (.inl (by trivial)), HG6.out, rfl⟩
          | false =>
            obtain ⟨hv, hhv⟩ : ∃ hv, hv = hasN ⟨(t : Int), false, a, b, c', d⟩ c := ⟨_, rfl⟩
            have HHV := Lib.hid hhv
            rw [← hhv] at HSAME HHS
            clear hhv
            cases hv with
            | false =>
              go_wp2_with (first | (refine wpList_load_cells rfl 92 _ rfl bi (fi + j * 6) 6 rfl _ _ HCD.out rfl Try.underlying92 rfl (by kernel_rfl) ?_) | ((with_reducible go_at_call 66); refine (HHS.out _).mono ?_; rintro en w7 ⟨rfl, x7, rfl⟩))
              go_roundg (ln - (j + 1))
              case measure => omega
              case rel => exact ⟨j + 1, m', by go_num, by omega, HM6.out.up (ext_below _ x7), HBT.out, HSAME.out (.inr (by trivial)), grown_trans HG6.out (grown_below (ext_below _ x7) _), rfl⟩
            | true =>
              have hixt := fun W => index_any (P := Try.prog) 23 3 Try.underlying23 (by kernel_rfl) (show Hd wr (some ⟨w.heap.size + 1, 0, none⟩) n n (w.heap.size + 1) 0 from ⟨fun _ => rfl, Nat.le_refl _, by simp only [maxLen]; omega, by omega, fun _ => hgw3⟩) W .i64 t (by omega) (by omega)
              simp only [Int.toNat_natCast, Nat.zero_add] at hixt
              have hfr := HM.out.free t
              have hszE : ∀ x7, (ext (wr.alloc (.cells #[.int .i64 t, .bool false, .int .u64 a, .int .u64 b, .int .u64 c', .int .u64 d] 92)) x7).heap.size ≥ wr.heap.size + 1 := fun x7 => by have := (ext_below (wr.alloc (.cells #[.int .i64 t, .bool false, .int .u64 a, .int .u64 b, .int .u64 c', .int .u64 d] 92)) x7).size; simp at this; omega
              go_wp2_with (first | (refine wpList_load_cells rfl 92 _ rfl bi (fi + j * 6) 6 rfl _ _ HCD.out rfl Try.underlying92 rfl (by kernel_rfl) ?_) | ((with_reducible go_at_call 66); refine (HHS.out _).mono ?_; rintro en w7 ⟨rfl, x7, rfl⟩; have hsx := hszE x7; have hfr7 := (HM6.out.up (ext_below _ x7)).free t; have hcx7 := (HM6.out.up (ext_below _ x7)).cell (i := t) (by rw [ints_length, HBT.out.len]; exact htn)))
              go_roundg (ln - (j + 1))
              case measure => omega
              case rel =>
                have hst := (HM6.out.up (ext_below _ x7)).store t (.int .i64 1)
                refine ⟨j + 1, m'.set t 1, by go_num, by omega, by rw [← ints_set]; exact hst.1, bits_set HBT.out t, fun bb => ?_, grown_trans (grown_trans HG6.out (grown_below (ext_below _ x7) _)) hst.2, rfl⟩
                rw [on_set HBT.out htn, HON'.out bb]
                constructor
                · rintro (rfl | h | ⟨q, h1, h2⟩)
                  · exact .inr ⟨j, by omega, by rw [← HEE.out], by rw [← HEE.out, HHV.out], by rw [← HEE.out]⟩
                  · exact .inl h
                  · exact .inr ⟨q, by omega, h2⟩
                · rintro (h | ⟨q, h1, h2, h3, h4⟩)
                  · exact .inr (.inl h)
                  · by_cases hqj : q = j
                    · rw [hqj, ← HEE.out] at h4
                      exact .inl (Int.ofNat.inj h4).symm
                    · exact .inr (.inr ⟨q, by omega, h2, h3, h4⟩)
        · go_wp2
          go_roundg (ll - (i + 1))
          case measure => omega
          case rel =>
            refine ⟨i + 1, m', by go_num, by omega, HM.out, HBT.out, fun b => ?_, HG.out, rfl⟩
            rw [HON'.out b, HON.out b]
            constructor
            · rintro (⟨q, h1, h2⟩ | ⟨q, h1, h2, h3, h4⟩)
              · exact ⟨q, by omega, h2⟩
              · refine ⟨i, by omega, row.getD q zE, ?_, h2, h3, h4⟩
                rw [← HS.out, ← HRO.out]
                have := HLN.out
                simp [List.getD, show q < row.length by omega]
            · rintro ⟨q, h1, h2⟩
              by_cases hqi : q = i
              · subst hqi
                obtain ⟨x, hx, h3, h4, h5⟩ := h2
                rw [← HS.out, ← HRO.out] at hx
                obtain ⟨p, hp, rfl⟩ := List.getElem_of_mem hx
                have hg : row.getD p zE = row[p] := by simp [List.getD, hp]
                exact .inr ⟨p, by have := HLN.out; omega, by rw [hg]; exact h3, by rw [hg]; exact h4, by rw [hg]; exact h5⟩
              · exact .inl ⟨q, by omega, h2⟩
    · have hie : i = ll := by omega
      subst hie
      have HOS : Hid (On m = By e (InL n st) c) := Lib.hid (funext fun b => propext ((HON.out b).trans (HBI.out b).symm))
      have HSP := Lib.hid (spreadP (w0 := w) HH.out HW.out HRR.out (HM.out.mono (Nat.le_succ _)) (by rw [← HN.out]; exact HBT.out))
      rw [← HN.out, HOS.out] at HSP
      go_wp2_with (first
        | (refine wpList_load_cells rfl 25 _ rfl w.heap.size 0 3 rfl #[.slice oe n ce, .int .i64 F, vr] _ (nfaBox HX.out) rfl Try.underlying25 rfl (by kernel_rfl) ?_)
        | ((with_reducible go_at_call 43); refine HSP.out.mono ?_; rintro en w5 ⟨u5, rfl, ho, hb⟩; have HO5 := Lib.hid ho; have HB5 := Lib.hid hb; clear ho hb))
      go_ret
      exact ⟨_, rfl, by rw [HSN.out]; exact HO5.out, HB5.out⟩
end Go.Cm

/- The walk of a run. Conditions: none. -/
namespace Go.Cm
open Go.RowKit Go.Proofs

/-- a text as numbers -/
def txt (s : ByteArray) : List Nat := s.data.toList.map UInt8.toNat
theorem txt_len (s : ByteArray) : (txt s).length = s.size := by simp [txt]
theorem txt_lt (s : ByteArray) (i : Nat) : (txt s).getD i 0 < 256 := by
  unfold txt
  simp only [List.getD_eq_getElem?_getD, List.getElem?_map]
  cases s.data.toList[i]? with
  | none => simp
  | some x => exact UInt8.toNat_lt x
theorem index_txt {s : ByteArray} {i : Nat} (h : i < s.size) (W : World) : (Instr.index 9 (.string s) (.int .i64 i)).run Try.prog W = .ok (.int .u8 ((txt s).getD i 0 : Nat)) W := by
  rw [run_index_string W 9 s .i64 i Try.underlying9]
  simp [h, txt, List.getD]
  rfl
theorem by_cut {e : List (List Ed)} {S : Nat → Prop} (c : Nat) : By e (fun i => i < e.length ∧ S i) c = By e S c := by
  funext b
  refine propext ⟨fun ⟨a, ⟨_, ha⟩, h⟩ => ⟨a, ha, h⟩, fun ⟨a, ha, x, hx, h⟩ => ⟨a, ⟨?_, ha⟩, x, hx, h⟩⟩
  apply Classical.byContradiction; intro hn
  simp [List.getD, List.getElem?_eq_none (show e.length ≤ a by omega)] at hx
theorem inL_nz (n : Nat) (P : Nat → Prop) : InL n (nz (setL n P)) = fun i => i < n ∧ P i := by
  funext i
  refine propext ⟨fun ⟨h, h2⟩ => ⟨h, ?_⟩, fun h => ⟨h.1, ?_⟩⟩
  · simp only [nz, List.mem_map] at h2
    obtain ⟨j, hj, e⟩ := h2
    rw [mem_setL] at hj
    obtain rfl : j = i := Int.ofNat.inj e
    exact hj.2
  · simp only [nz, List.mem_map]
    exact ⟨i, mem_setL.2 h, rfl⟩
theorem step_after (e : List (List Ed)) (F : Nat) (cs : List Nat) (c : Nat) : stepN e (nz (setL e.length (After e F cs))) c = setL e.length (After e F (c :: cs)) := by
  unfold stepN
  rw [inL_nz, by_cut]
  rfl
theorem clo_after {e : List (List Ed)} {F : Int} {r : List Int} (h : rightN e F r = true) : cloN e F r [F] = setL e.length (After e F.toNat []) := by
  unfold cloN
  rw [if_pos h]
  have hF : 0 ≤ F ∧ F < e.length := by have := of_decide_eq_true (rightN_iff.1 h).1; omega
  have : InL e.length [F] = fun i => i = F.toNat := by
    funext i
    refine propext ⟨fun ⟨h1, h2⟩ => by simp at h2; omega, fun h1 => ⟨by omega, by simp; omega⟩⟩
  rw [this]
  rfl
/-- the rules after a text -/
def Told (e : List (List Ed)) (F : Int) (r : List Int) (t : List Nat) (k : Nat) : Prop := ∃ x, x < e.length ∧ After e F.toNat t.reverse x ∧ r.getD x 0 = k
noncomputable def runN (e : List (List Ed)) (F : Int) (r : List Int) (t : List Nat) : List Nat := if rightN e F r then setL 32 (Told e F r t) else []
theorem take_rev (t : List Nat) (i : Nat) (h : i < t.length) : (t.take (i + 1)).reverse = t.getD i 0 :: (t.take i).reverse := by
  rw [List.take_succ_eq_append_getElem h]
  simp [List.getD, h]

theorem told_iff {e : List (List Ed)} {F : Int} {r : List Int} {t : List Nat} (L : List Nat) (hL : L = setL e.length (After e F.toNat t.reverse)) (k : Nat) : Told e F r t k ↔ ∃ q, q < L.length ∧ r.getD (L.getD q 0) 0 = k := by
  constructor
  · rintro ⟨x, hx, h1, h2⟩
    have : x ∈ L := by rw [hL, mem_setL]; exact ⟨hx, h1⟩
    obtain ⟨q, hq, rfl⟩ := List.getElem_of_mem this
    exact ⟨q, hq, by rw [show L.getD q 0 = L[q] by simp [List.getD, hq]]; exact h2⟩
  · rintro ⟨q, hq, h⟩
    have : L.getD q 0 ∈ L := by simp [List.getD, hq]
    rw [hL, mem_setL, ← hL] at this
    exact ⟨_, this.1, this.2, h⟩
end Go.Cm

/- What the automaton of trees tells is which trees match; it is right. Conditions: none. -/
namespace Go.Cm

theorem rep_lang (x : Nd) (hx : okN x) (h8 : x.kd = 8) (part : St → Pc × St) (L : Lng) (hp : ∀ s, PieceL s (part s) L) (s : St) : PieceL s (repS x part s) (repL x.lo x.hi L) := by
  have hk : 0 ≤ x.lo ∧ (x.hi = -1 ∨ x.lo ≤ x.hi) := by unfold okN at hx; omega
  obtain ⟨t, ht⟩ : ∃ t, t = (timesN x).toNat := ⟨_, rfl⟩
  have ht2 : (x.hi < 0 → (t : Int) = max x.lo 1) ∧ (0 ≤ x.hi → (t : Int) = x.hi) := by
    unfold timesN at ht
    by_cases h : x.hi < 0
    · rw [if_pos h] at ht
      have h1 := Int.le_max_right x.lo 1
      omega
    · rw [if_neg h] at ht; omega
  have hlo : x.hi < 0 → x.lo ≤ t := fun h => by have := ht2.1 h; have := Int.le_max_left x.lo 1; omega
  have key : ∀ i, i ≤ t → RepI s x t L i (repN x t (aroundP s) part (iff (decide (x.lo = 0)) (freeS (aroundP s).f (aroundP s).l) (two s)) i) := by
    intro i
    induction i with
    | zero => intro _; exact rep_zero s x hk.1 t L
    | succ i ih =>
      intro hi
      exact rep_step (by omega) hlo (ih (by omega)) (hp _)
  have h := key t (Nat.le_refl _)
  unfold repS
  dsimp only
  rw [← ht]
  generalize repN x t (aroundP s) part (iff (decide (x.lo = 0)) (freeS (aroundP s).f (aroundP s).l) (two s)) t = y at *
  have hg := h.grow
  refine ⟨by dsimp only; omega, h.old, by dsimp only [aroundP]; omega, by dsimp only [aroundP]; omega, h.nol, h.inn, h.edq, fun w => ?_, h.rul⟩
  show Path y.2.e s.e.length w (s.e.length + 1) ↔ _
  rw [h.pz]
  unfold repL
  by_cases hh : x.hi < 0
  · have h1 := ht2.1 hh
    have h2 : 1 ≤ t := by have := Int.le_max_right x.lo 1; omega
    constructor
    · rintro (⟨k, h3, h4, h5⟩ | ⟨-, -, -, u, v, rfl, h5, ⟨k, h6⟩⟩)
      · exact ⟨k, h4, .inl hh, h5⟩
      · refine ⟨(t - 1) + (k + 1), by have := hlo hh; omega, .inl hh, (powL_add L (t - 1) (k + 1) _).2 ⟨u, v, rfl, h5, h6⟩⟩
    · rintro ⟨k, h3, -, h4⟩
      by_cases h5 : k ≤ t
      · exact .inl ⟨k, h5, h3, h4⟩
      · refine .inr ⟨rfl, hh, by omega, ?_⟩
        have e : k = (t - 1) + ((k - t) + 1) := by omega
        rw [e] at h4
        obtain ⟨u, v, e2, h6, h7⟩ := (powL_add L (t - 1) ((k - t) + 1) w).1 h4
        exact ⟨u, v, e2, h6, k - t, h7⟩
  · have h1 := ht2.2 (by omega)
    constructor
    · rintro (⟨k, h3, h4, h5⟩ | ⟨-, h3, -⟩)
      · exact ⟨k, h4, .inr (by omega), h5⟩
      · exact absurd h3 hh
    · rintro ⟨k, h3, h4, h5⟩
      exact .inl ⟨k, by omega, h3, h5⟩
theorem PieceL.congr {s : St} {y : Pc × St} {L L' : Lng} (h : PieceL s y L) (hl : ∀ w, L w ↔ L' w) : PieceL s y L' := ⟨h.grow, h.old, h.hf, h.hl, h.nol, h.inn, h.edq, fun w => (h.lang w).trans (hl w), h.rul⟩
theorem LayL.head {s : St} {y : List Pc × St} {Ls : List Lng} {bd : Nat → Nat} (h : LayL s y Ls bd) (h1 : Ls.length = 1) : PieceL s (headP y) (Ls.getD 0 botL) := by
  have hb0 := h.b0
  have hbc := h.bc
  have hf := h.hf 0 (by omega)
  have hl := h.hl 0 (by omega)
  rw [h1] at hbc
  simp only [Nat.zero_add] at hf hl
  unfold headP
  refine ⟨by dsimp only; omega, h.old, by dsimp only; omega, by dsimp only; omega, h.nol 0 (by omega), fun a x h2 hx => ?_, h.edq, h.lang 0 (by omega), h.rul⟩
  by_cases h3 : a < y.2.e.length
  · obtain ⟨b, h4, h5⟩ := h.inn 0 (by omega) a x (by omega) (by simp only [Nat.zero_add]; omega) hx
    simp only [Nat.zero_add] at h5
    exact ⟨b, h4, by dsimp only; omega⟩
  · dsimp only at hx; rw [row_none (by omega)] at hx; cases hx
theorem loop_rep (L : Lng) (w : List Nat) : ((True ∧ w = []) ∨ many true L w ↔ repL 0 (-1) L w) ∧ ((False ∧ w = []) ∨ many true L w ↔ repL 1 (-1) L w) ∧ ((True ∧ w = []) ∨ many false L w ↔ repL 0 1 L w) := by
  refine ⟨⟨?_, ?_⟩, ⟨?_, ?_⟩, ⟨?_, ?_⟩⟩
  · rintro (⟨-, rfl⟩ | h)
    · exact ⟨0, by decide, .inl (by decide), rfl⟩
    · obtain ⟨k, hk⟩ : plus L w := by simpa [many] using h
      exact ⟨k + 1, by omega, .inl (by decide), hk⟩
  · rintro ⟨k, -, -, h⟩
    cases k with
    | zero => exact .inl ⟨trivial, h⟩
    | succ k => exact .inr ⟨k, h⟩
  · rintro (⟨h, -⟩ | h)
    · exact h.elim
    · obtain ⟨k, hk⟩ : plus L w := by simpa [many] using h
      exact ⟨k + 1, by omega, .inl (by decide), hk⟩
  · rintro ⟨k, h1, -, h⟩
    cases k with
    | zero => exact absurd h1 (by decide)
    | succ k => exact .inr ⟨k, h⟩
  · rintro (⟨-, rfl⟩ | h)
    · exact ⟨0, by decide, .inr (by decide), rfl⟩
    · exact ⟨1, by decide, .inr (by decide), [], w, rfl, rfl, by simpa [many] using h⟩
  · rintro ⟨k, -, h1, h⟩
    have hk : k = 0 ∨ k = 1 := by omega
    rcases hk with rfl | rfl
    · exact .inl ⟨trivial, h⟩
    · obtain ⟨u, v, rfl, rfl, hv⟩ := h
      exact .inr (by simpa [many] using hv)
theorem node_lang (x : Nd) (K : St → List Pc × St) (Ls : List Lng) (hx : okN x) (hq : NdQ x) (hn : x.n = Ls.length) (hK : ∀ s, ∃ bd, LayL s (K s) Ls bd) (s : St) : PieceL s (nodeS x K s) (langN x Ls) := by
  have hx0 := hx
  unfold okN at hx
  obtain ⟨bd, hk⟩ := hK s
  unfold nodeS langN
  by_cases h12 : x.kd = 1 ∨ x.kd = 2
  · rw [if_pos h12]
    have h := leaf_lang x h12 hq (fun h2 => by
      rcases hx with h3 | h3 | h3 | h3 | h3
      · omega
      · exact h3.2.2.1
      · omega
      · omega
      · omega) s
    refine h.congr fun w => ?_
    by_cases h1 : x.kd = 1
    · rw [if_pos h1, if_pos h1]
    · rw [if_neg h1, if_neg h1, if_pos (show x.kd = 2 by omega)]
  rw [if_neg h12, if_neg (show ¬ x.kd = 1 by omega), if_neg (show ¬ x.kd = 2 by omega)]
  by_cases h8 : x.kd = 8
  · rw [if_pos h8, if_pos h8]
    exact rep_lang x hx0 h8 _ _ (fun s => by
      obtain ⟨bd, hk⟩ := hK s
      exact hk.head (by omega)) s
  rw [if_neg h8, if_neg h8]
  by_cases h567 : x.kd = 5 ∨ x.kd = 6 ∨ x.kd = 7
  · rw [if_pos h567]
    have h := loop_lang (hk.head (by omega)) (decide (x.kd ≠ 6)) (decide (x.kd ≠ 7))
    have hlr := loop_rep (Ls.getD 0 botL)
    refine h.congr fun w => ?_
    rcases h567 with h | h | h
    · rw [if_pos h]
      have := (hlr w).1
      rw [← this]
      simp [h]
    · rw [if_neg (show ¬ x.kd = 5 by omega), if_pos h]
      have := (hlr w).2.1
      rw [← this]
      simp [h]
    · rw [if_neg (show ¬ x.kd = 5 by omega), if_neg (show ¬ x.kd = 6 by omega), if_pos h]
      have := (hlr w).2.2
      rw [← this]
      simp [h]
  rw [if_neg h567, if_neg (show ¬ x.kd = 5 by omega), if_neg (show ¬ x.kd = 6 by omega), if_neg (show ¬ x.kd = 7 by omega)]
  by_cases h3 : x.kd = 3
  · rw [if_pos h3, if_pos h3]
    exact chain_lang hk (by omega)
  · rw [if_neg h3, if_neg h3]
    exact alt_lang hk
theorem lay_lang : ∀ f, wf f → allF okN f → allF NdQ f → ∀ s, ∃ bd, LayL s (layF f s) (langs f) bd
  | .nil, _, _, _, s => ⟨_, lay_nil s⟩
  | .cons x k r, hw, ha, hq, s => by
    have h1 := node_lang x (fun s => layF k s) (langs k) ha.1 hq.1 (by rw [hw.1, langs_len]) (fun s => lay_lang k hw.2.1 ha.2.1 hq.2.1 s) s
    obtain ⟨bd, h2⟩ := lay_lang r hw.2.2 ha.2.2 hq.2.2 (nodeS x (fun s => layF k s) s).2
    exact lay_cons h1 h2

/-- the language of a tree -/
def langT (f : Fo) : Lng := (langs f).getD 0 botL
structure TreeOk (f : Fo) : Prop where
  one : ∃ x k, f = .cons x k .nil ∧ okN x ∧ NdQ x ∧ x.n = cnt k ∧ wf k ∧ allF okN k ∧ allF NdQ k
theorem tree_lang {f : Fo} (h : TreeOk f) (s : St) : PieceL s (treeF f s) (langT f) := by
  obtain ⟨x, k, rfl, h1, h2, h3, h4, h5, h6⟩ := h.one
  exact node_lang x (fun s => layF k s) (langs k) h1 h2 (by rw [h3, langs_len]) (fun s => lay_lang k h4 h5 h6 s) s
/-- the maker's state behind i trees -/
structure MakeI (fs : List Fo) (i : Nat) (s : St) (en : Nat → Nat) : Prop where
  pos : 0 < s.e.length
  rlen : s.r.length = s.e.length
  cls : ∀ a x, x ∈ Row s.e a → ∃ b : Nat, x.to = b ∧ b < s.e.length
  edq : ∀ a x, x ∈ Row s.e a → EdQ x
  enl : ∀ j, j < i → en j < s.e.length
  enr : ∀ j, j < i → s.r.getD (en j) 0 = j
  res : ∀ a, a < s.e.length → s.r.getD a 0 = -1 ∨ ∃ j, j < i ∧ a = en j
  zero : ∀ w, Path s.e 0 w 0 ↔ w = []
  lang : ∀ j, j < i → ∀ w, Path s.e 0 w (en j) ↔ langT (fs.getD j .nil) w
theorem make_lang (fs : List Fo) (hf : ∀ j, j < fs.length → TreeOk (fs.getD j .nil)) : ∀ i, i ≤ fs.length → ∃ en, MakeI fs i (mkF fs i) en
  | 0, _ => by
    have h0 : ∀ a, Row (newS ⟨[], []⟩).e a = [] := fun a => by
      rw [row_newS]; rfl
    refine ⟨fun _ => 0, by simp [mkF, newS], by simp [mkF, newS], fun a x hx => ?_, fun a x hx => ?_, fun j hj => absurd hj (Nat.not_lt_zero j), fun j hj => absurd hj (Nat.not_lt_zero j), fun a ha => .inl ?_, fun w => ⟨fun hp => (path_nil_of (h0 0) hp).2, fun e => e ▸ .nil⟩, fun j hj => absurd hj (Nat.not_lt_zero j)⟩
    · rw [show mkF fs 0 = newS ⟨[], []⟩ from rfl, h0] at hx; cases hx
    · rw [show mkF fs 0 = newS ⟨[], []⟩ from rfl, h0] at hx; cases hx
    · obtain rfl : a = 0 := by simp [mkF, newS] at ha; omega
      rfl
  | i + 1, hi => by
    obtain ⟨en, h⟩ := make_lang fs hf i (by omega)
    have hT := tree_lang (hf i (by omega)) (mkF fs i)
    have hstep : mkF fs (i + 1) = ⟨(freeS 0 (treeF (fs.getD i .nil) (mkF fs i)).1.f (treeF (fs.getD i .nil) (mkF fs i)).2).e, (treeF (fs.getD i .nil) (mkF fs i)).2.r.set (treeF (fs.getD i .nil) (mkF fs i)).1.l (i : Int)⟩ := rfl
    rw [hstep]
    generalize treeF (fs.getD i .nil) (mkF fs i) = y at *
    generalize mkF fs i = s at *
    obtain ⟨q, v⟩ := y
    have hpos := h.pos
    have hg := hT.grow
    have hqf := hT.hf
    have hql := hT.hl
    dsimp only at hg hqf hql ⊢
    have hm : ∀ a z, z ∈ Row (freeS 0 q.f v).e a ↔ z ∈ Row v.e a ∨ (a = 0 ∧ z = frEd q.f) := fun a z => mem_free (by omega) z
    have hlen : (freeS 0 q.f v).e.length = v.e.length := freeS_len _ _ _
    have hE : Ext (fun a => a < s.e.length) (fun a => s.e.length ≤ a ∧ a < v.e.length) s.e v.e (freeS 0 q.f v).e q.f q.l 0 0 false false := by
      refine ⟨fun a x _ hx => h.cls a x hx, fun a x hb hx => hT.inn a x hb.1 hx, fun a h1 h2 => by omega, hpos, hqf, hql, fun hc => absurd hc (by decide), fun a x hd => ?_, fun a x hb => ?_⟩
      · have h0 : Row v.e a = Row s.e a := hT.old a hd
        rw [hm, h0]
      · rw [hm]
        constructor
        · rintro (h1 | ⟨h1, -⟩)
          · exact .inl h1
          · omega
        · rintro (h1 | ⟨-, ⟨h1, -⟩ | ⟨h1, -⟩⟩)
          · exact .inl h1
          · cases h1
          · cases h1
    have hL := hT.lang
    dsimp only at hL
    have hrul := hT.rul
    dsimp only at hrul
    have hrl := h.rlen
    have hvr : v.r.length = v.e.length := by rw [hrul]; simp; omega
    have hget : ∀ a, (v.r.set q.l (i : Int)).getD a 0 = if a = q.l then (i : Int) else if a < s.e.length then s.r.getD a 0 else if a < v.e.length then -1 else 0 := fun a => by
      simp only [List.getD_eq_getElem?_getD, List.getElem?_set]
      by_cases ha : q.l = a
      · rw [if_pos ha, if_pos (by omega), if_pos ha.symm]; rfl
      · rw [if_neg ha, if_neg (fun e => ha e.symm), hrul]
        by_cases h1 : a < s.e.length
        · rw [if_pos h1, List.getElem?_append_left (by omega)]
        · rw [if_neg h1, List.getElem?_append_right (by omega), List.getElem?_replicate]
          by_cases h2 : a < v.e.length
          · rw [if_pos h2, if_pos (by omega)]; rfl
          · rw [if_neg h2, if_neg (by omega)]; rfl
    refine ⟨fun j => if j = i then q.l else en j, by dsimp only; omega, by dsimp only; simp; omega, fun a x hx => ?_, fun a x hx => ?_, fun j hj => ?_, fun j hj => ?_, fun a ha => ?_, fun w => ?_, fun j hj w => ?_⟩
    · dsimp only at hx ⊢
      rw [hlen]
      by_cases ha : a < v.e.length
      · obtain ⟨b, h1, h2⟩ := hE.closed a x (by omega) hx
        exact ⟨b, h1, by omega⟩
      · rw [row_none (by omega)] at hx; cases hx
    · dsimp only at hx
      rcases (hm a x).1 hx with h1 | ⟨-, rfl⟩
      · by_cases h3 : a < s.e.length
        · have h0 : Row v.e a = Row s.e a := hT.old a h3
          rw [h0] at h1; exact h.edq a x h1
        · exact hT.edq a x (by omega) h1
      · exact edq_free _
    · dsimp only
      rw [hlen]
      by_cases hj' : j = i
      · rw [if_pos hj']; omega
      · rw [if_neg hj']; have := h.enl j (by omega); omega
    · dsimp only
      rw [hget]
      by_cases hj' : j = i
      · rw [if_pos hj', if_pos rfl, hj']
      · have h1 := h.enl j (by omega)
        rw [if_neg hj', if_neg (by omega), if_pos h1]
        exact h.enr j (by omega)
    · dsimp only at ha ⊢
      rw [hlen] at ha
      rw [hget]
      by_cases h1 : a = q.l
      · right; exact ⟨i, by omega, by rw [if_pos rfl]; exact h1⟩
      · rw [if_neg h1]
        by_cases h2 : a < s.e.length
        · rw [if_pos h2]
          rcases h.res a h2 with h3 | ⟨j, h3, h4⟩
          · exact .inl h3
          · exact .inr ⟨j, by omega, by rw [if_neg (by omega)]; exact h4⟩
        · rw [if_neg h2, if_pos ha]; exact .inl rfl
    · dsimp only
      rw [hE.old hL hpos hpos (fun _ => rfl)]
      exact h.zero w
    · dsimp only
      by_cases hj' : j = i
      · rw [if_pos hj', hj', hE.toL hL hpos]
        constructor
        · rintro ⟨u, v', rfl, h1, h2⟩
          obtain rfl := (h.zero u).1 h1
          simpa [many] using h2
        · intro h1
          exact ⟨[], w, rfl, .nil, by simpa [many] using h1⟩
      · rw [if_neg hj', hE.old hL hpos (h.enl j (by omega)) (fun _ => rfl)]
        exact h.lang j (by omega) w
/- after a text -/
theorem after_path (e : List (List Ed)) (F : Nat) : ∀ (cs : List Nat) (b : Nat), After e F cs b ↔ Path e F cs.reverse b
  | [], b => by
    constructor
    · intro h
      have key : ∀ b, Rch e (fun i => i = F) b → Path e F [] b := by
        intro b hb
        induction hb with
        | base h => subst h; exact .nil
        | step _ h2 ih =>
          obtain ⟨x, hx, hf, ht⟩ := h2
          exact .free ih hx hf ht
      exact key b h
    · intro h
      have key : ∀ w b, Path e F w b → w = [] → Rch e (fun i => i = F) b := by
        intro w b hp
        induction hp with
        | nil => intro _; exact .base rfl
        | free _ k1 k2 k3 ih => intro hw; exact .step (ih hw) ⟨_, k1, k2, k3⟩
        | byte _ _ _ _ _ _ => intro hw; simp at hw
      exact key _ b h rfl
  | c :: cs, b => by
    have ih := after_path e F cs
    rw [List.reverse_cons]
    constructor
    · intro h
      have key : ∀ b, Rch e (By e (After e F cs) c) b → Path e F (cs.reverse ++ [c]) b := by
        intro b hb
        induction hb with
        | base h =>
          obtain ⟨a, ha, x, hx, hf, hh, ht⟩ := h
          exact .byte ((ih a).1 ha) hx hf hh ht
        | step _ h2 ih =>
          obtain ⟨x, hx, hf, ht⟩ := h2
          exact .free ih hx hf ht
      exact key b h
    · intro h
      have key : ∀ w b, Path e F w b → w = cs.reverse ++ [c] → Rch e (By e (After e F cs) c) b := by
        intro w b hp
        induction hp with
        | nil => intro hw; simp at hw
        | free _ k1 k2 k3 ih => intro hw; exact .step (ih hw) ⟨_, k1, k2, k3⟩
        | byte h0 k1 k2 k3 k4 _ =>
          intro hw
          obtain ⟨rfl, h2⟩ := List.append_inj' hw rfl
          obtain rfl : _ = c := by simpa using h2
          exact .base ⟨_, (ih _).2 h0, _, k1, k2, k3, k4⟩
      exact key _ b h rfl
theorem make_told {fs : List Fo} {i : Nat} {s : St} {en : Nat → Nat} (h : MakeI fs i s en) (t : List Nat) (k : Nat) : Told s.e 0 s.r t k ↔ k < i ∧ langT (fs.getD k .nil) t := by
  unfold Told
  constructor
  · rintro ⟨x, hx, h1, h2⟩
    rcases h.res x hx with h3 | ⟨j, h3, rfl⟩
    · omega
    · have h4 := h.enr j h3
      obtain rfl : j = k := by omega
      refine ⟨h3, (h.lang j h3 t).1 ?_⟩
      have := (after_path s.e 0 t.reverse (en j)).1 h1
      rwa [List.reverse_reverse] at this
  · rintro ⟨h1, h2⟩
    refine ⟨en k, h.enl k h1, ?_, h.enr k h1⟩
    have := (after_path s.e 0 t.reverse (en k)).2 (by rw [List.reverse_reverse]; exact (h.lang k h1 t).2 h2)
    exact this
theorem make_right {fs : List Fo} {i : Nat} {s : St} {en : Nat → Nat} (h : MakeI fs i s en) (hi : i ≤ 32) (hl : s.e.length ≤ 3000) : rightN s.e 0 s.r = true := by
  have hp := h.pos
  have hr := h.rlen
  refine rightN_iff.2 ⟨decide_eq_true ⟨by omega, hl, hr, by omega, by omega⟩, fun a ha => row_iff.2 ⟨?_, fun j hj => ?_⟩⟩
  · rcases h.res a ha with h1 | ⟨j, h1, rfl⟩
    · omega
    · have := h.enr j h1; omega
  · have hmem : (s.e.getD a []).getD j zE ∈ Row s.e a := by
      show _ ∈ s.e.getD a []
      generalize s.e.getD a [] = row at *
      simp [List.getD, hj]
    obtain ⟨b, h1, h2⟩ := h.cls a _ hmem
    have h3 := (h.edq a _ hmem).1
    unfold edOk
    rw [Bool.and_eq_true, decide_eq_true_iff]
    refine ⟨by omega, ?_⟩
    cases hf : ((s.e.getD a []).getD j zE).free with
    | false => rfl
    | true => simpa using h3 hf
end Go.Cm
