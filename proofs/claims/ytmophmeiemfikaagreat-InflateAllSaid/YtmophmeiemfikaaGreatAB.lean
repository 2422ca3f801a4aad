/- Texts of this claim, joined: walks of small functions and plain facts about them. Conditions: as each says. -/
import Derived.Test.YtmophmeiemfikaaGreatAA
import Derived.Test.YtmophmeiemfikaaGreatRows
import Derived.WalkKit
import Derived.WalkSpells
import Derived.WalkLawsBesides
import Derived.Deep.QuietTactic
import Derived.BigQuiet
import Derived.Lib.Hide
import Derived.Deep.LoopGhost
import Derived.Laws.BitsLemmas
import Derived.Laws.Small
/- The table of codes, in plain Lean: what its entries say, and that filling it symbol by symbol keeps that true. Conditions: none. -/
namespace Go.Cm

structure Ent where
  s : Nat
  b : Nat
  t : Nat
def Ent.zero : Ent := ⟨0, 0, 0⟩
/-- a further table: its block, how many bits it is asked with, its entries -/
structure Sub where
  g : Nat
  m : Nat
  F : Nat → Ent
theorem turnN_turnN (c n : Nat) (h : c < 2 ^ n) : turnN (turnN c n) n = c := by
  refine eq_of_bits n (turnN_lt _ _) h fun i hi => ?_
  rw [turnN_bit, turnN_bit, decide_eq_true hi, Bool.true_and, decide_eq_true (show n - 1 - i < n by omega), Bool.true_and]
  congr 1; omega
theorem turn_iff (x c n : Nat) (h : c < 2 ^ n) : x % 2 ^ n = turnN c n ↔ c = turnN x n := by
  constructor
  · intro he
    rw [← turnN_mod x n n (Nat.le_refl _), he, turnN_turnN c n h]
  · intro he
    rw [he, ← turnN_mod x n n (Nat.le_refl _), turnN_turnN _ n (Nat.mod_lt _ (Nat.pow_pos (by decide)))]
theorem turnN_add (V n r : Nat) : turnN V (n + r) = turnN V n * 2 ^ r + turnN (V / 2 ^ n) r := by
  induction r with
  | zero => simp [turnN]
  | succ r ih =>
    rw [← Nat.add_assoc, turnN_succ, ih, turnN_succ, Nat.testBit_div_two_pow, Nat.pow_succ, Nat.add_comm r n, Nat.mul_add, ← Nat.mul_assoc (turnN V n), Nat.mul_comm (turnN V n * 2 ^ r) 2]
    omega
/-- symbol j's code is longer than 9 bits, and its first 9 ones are x -/
def headN (L : List Nat) (j x : Nat) : Prop := 9 < L.getD j 0 ∧ codeN L j / 2 ^ (L.getD j 0 - 9) = turnN x 9
section
variable {L : List Nat}
theorem head_of_hit {V j : Nat} (h : hitN L V j) (h9 : 9 < L.getD j 0) : headN L j (V % 512) := by
  refine ⟨h9, ?_⟩
  rw [h.2]
  obtain ⟨d, hd⟩ : ∃ d, L.getD j 0 = 9 + d := ⟨L.getD j 0 - 9, by omega⟩
  rw [hd, Nat.add_sub_cancel_left, turnN_cut, show (512 : Nat) = 2 ^ 9 by decide, turnN_mod V 9 9 (Nat.le_refl _)]
theorem head_apart {i j x : Nat} (hi : i < L.length) (hj : j < L.length) (h : headN L j x) (hh : hitN L x i) (h9 : L.getD i 0 ≤ 9) : False := by
  have : i = j := by
    refine code_apart i j hi hj hh.1 (by have := h.1; omega) ?_
    obtain ⟨d, hd⟩ : ∃ d, 9 = L.getD i 0 + d := ⟨9 - L.getD i 0, by omega⟩
    have h1 := h.1
    have e : L.getD j 0 - L.getD i 0 = (L.getD j 0 - 9) + d := by omega
    rw [e, Nat.pow_add, ← Nat.div_div_eq_div_mul, h.2, hh.2, hd, turnN_cut]
  subst this
  have := h.1; omega
theorem head_inj {j x y : Nat} (hx : x < 512) (hy : y < 512) (h : headN L j x) (k : headN L j y) : x = y := by
  have e := h.2.symm.trans k.2
  have h1 := turnN_turnN x 9 (by simpa using hx)
  have h2 := turnN_turnN y 9 (by simpa using hy)
  rw [← h1, ← h2, e]
/-- the table behind i symbols -/
structure TabOk (L : List Nat) (i : Nat) (E : Nat → Ent) (fs : List Sub) : Prop where
  low : ∀ x, x < 512 → (E x).t = 0 → (∀ j, j < i → hitN L x j → L.getD j 0 ≤ 9 → E x = ⟨j, L.getD j 0, 0⟩) ∧ ((E x).b ≠ 0 → ∃ j, j < i ∧ hitN L x j ∧ L.getD j 0 ≤ 9)
  far : ∀ x k, x < 512 → (E x).t = k + 1 → ∃ f, fs[k]? = some f ∧ f.m ≤ 6 ∧ (∀ j, j < L.length → headN L j x → L.getD j 0 ≤ 9 + f.m) ∧ (∃ j, j < i ∧ headN L j x) ∧
    ∀ y, y < 2 ^ f.m → (∀ j, j < i → 9 < L.getD j 0 → hitN L (x + 512 * y) j → f.F y = ⟨j, L.getD j 0, 0⟩) ∧ ((f.F y).b ≠ 0 → ∃ j, j < i ∧ 9 < L.getD j 0 ∧ hitN L (x + 512 * y) j)
  one : ∀ x y, x < 512 → y < 512 → (E x).t = (E y).t → (E x).t ≠ 0 → x = y
  all : ∀ j, j < i → ∀ x, x < 512 → headN L j x → (E x).t ≠ 0
theorem TabOk.start (L : List Nat) : TabOk L 0 (fun _ => Ent.zero) [] :=
  ⟨fun x _ _ => ⟨fun j hj => absurd hj (Nat.not_lt_zero j), fun h => absurd rfl h⟩, fun x k _ h => (by cases h), fun x y _ _ _ h => absurd rfl h, fun j hj => absurd hj (Nat.not_lt_zero j)⟩
variable {i : Nat} {E : Nat → Ent} {fs : List Sub}
/-- entries for a code's last bits -/
def fillN (E : Nat → Ent) (c n : Nat) (e : Ent) : Nat → Ent := fun x => if x % 2 ^ n = turnN c n then e else E x
theorem TabOk.none (h : TabOk L i E fs) (h0 : L.getD i 0 = 0) : TabOk L (i + 1) E fs := by
  have hno : ∀ V, ¬ hitN L V i := fun V hh => hh.1 h0
  have hnh : ∀ x, ¬ headN L i x := fun x hh => by have := hh.1; omega
  refine ⟨fun x hx ht => ?_, fun x k hx ht => ?_, h.one, fun j hj x hx hh => ?_⟩
  · obtain ⟨h1, h2⟩ := h.low x hx ht
    refine ⟨fun j hj hh => ?_, fun hb => ?_⟩
    · rcases Nat.lt_succ_iff_lt_or_eq.1 hj with hj | rfl
      · exact h1 j hj hh
      · exact absurd hh (hno _)
    · obtain ⟨j, hj, hr⟩ := h2 hb; exact ⟨j, by omega, hr⟩
  · obtain ⟨f, hf, hm, hl, ⟨j0, hj0, hh0⟩, hy⟩ := h.far x k hx ht
    refine ⟨f, hf, hm, hl, ⟨j0, by omega, hh0⟩, fun y hym => ?_⟩
    obtain ⟨h1, h2⟩ := hy y hym
    refine ⟨fun j hj h9 hh => ?_, fun hb => ?_⟩
    · rcases Nat.lt_succ_iff_lt_or_eq.1 hj with hj | rfl
      · exact h1 j hj h9 hh
      · exact absurd hh (hno _)
    · obtain ⟨j, hj, hr⟩ := h2 hb; exact ⟨j, by omega, hr⟩
  · rcases Nat.lt_succ_iff_lt_or_eq.1 hj with hj | rfl
    · exact h.all j hj x hx hh
    · exact absurd hh (hnh _)
theorem TabOk.short (h : TabOk L i E fs) (hi : i < L.length) (h15 : ∀ x ∈ L, x ≤ 15) (hk : kraftN L ≤ 32768) (h0 : L.getD i 0 ≠ 0) (h9 : L.getD i 0 ≤ 9) :
    TabOk L (i + 1) (fillN E (codeN L i) (L.getD i 0) ⟨i, L.getD i 0, 0⟩) fs := by
  have hc := code_lt h15 hk i hi
  have hE : ∀ x, fillN E (codeN L i) (L.getD i 0) ⟨i, L.getD i 0, 0⟩ x = if codeN L i = turnN x (L.getD i 0) then ⟨i, L.getD i 0, 0⟩ else E x := fun x => by
    unfold fillN
    by_cases h : x % 2 ^ L.getD i 0 = turnN (codeN L i) (L.getD i 0)
    · rw [if_pos h, if_pos ((turn_iff _ _ _ hc).1 h)]
    · rw [if_neg h, if_neg (fun q => h ((turn_iff _ _ _ hc).2 q))]
  have hnh : ∀ x, ¬ headN L i x := fun x hh => by have := hh.1; omega
  refine ⟨fun x hx ht => ?_, fun x k hx ht => ?_, fun x y hx hy he hne => ?_, fun j hj x hx hh => ?_⟩
  · rw [hE] at ht ⊢
    by_cases hx0 : codeN L i = turnN x (L.getD i 0)
    · rw [if_pos hx0] at ht ⊢
      have hhit : hitN L x i := ⟨h0, hx0⟩
      refine ⟨fun j hj hh h9' => ?_, fun _ => ⟨i, by omega, hhit, h9⟩⟩
      have : i = j := hit_one hi (by omega) hhit hh
      subst this; rfl
    · rw [if_neg hx0] at ht ⊢
      obtain ⟨h1, h2⟩ := h.low x hx ht
      refine ⟨fun j hj hh => ?_, fun hb => ?_⟩
      · rcases Nat.lt_succ_iff_lt_or_eq.1 hj with hj | rfl
        · exact h1 j hj hh
        · exact absurd hh.2 hx0
      · obtain ⟨j, hj, hr⟩ := h2 hb; exact ⟨j, by omega, hr⟩
  · rw [hE] at ht
    split at ht
    · cases ht
    · obtain ⟨f, hf, hm, hl, ⟨j0, hj0, hh0⟩, hy⟩ := h.far x k hx ht
      refine ⟨f, hf, hm, hl, ⟨j0, by omega, hh0⟩, fun y hym => ?_⟩
      obtain ⟨h1, h2⟩ := hy y hym
      refine ⟨fun j hj h9' hh => ?_, fun hb => ?_⟩
      · rcases Nat.lt_succ_iff_lt_or_eq.1 hj with hj | rfl
        · exact h1 j hj h9' hh
        · omega
      · obtain ⟨j, hj, hr⟩ := h2 hb; exact ⟨j, by omega, hr⟩
  · rw [hE, hE] at he
    rw [hE] at hne
    split at hne
    · exact absurd rfl hne
    · rename_i hx0
      rw [if_neg hx0] at he
      split at he
      · exact absurd he hne
      · exact h.one x y hx hy he hne
  · rcases Nat.lt_succ_iff_lt_or_eq.1 hj with hj | rfl
    · rw [hE]
      split
      · rename_i hx0
        exact (head_apart hi (by omega) hh ⟨h0, hx0⟩ h9).elim
      · exact h.all j hj x hx hh
    · exact absurd hh (hnh _)
def updN (E : Nat → Ent) (x : Nat) (e : Ent) : Nat → Ent := fun z => if z = x then e else E z
theorem hit_long (_hc : ∀ j, j < L.length → codeN L j < 2 ^ L.getD j 0) {i x y r : Nat} (_hi : i < L.length) (hx : x < 512) (hr : L.getD i 0 = 9 + r) (hh : codeN L i / 2 ^ r = turnN x 9) :
    (y % 2 ^ r = turnN (codeN L i % 2 ^ r) r ↔ codeN L i = turnN (x + 512 * y) (L.getD i 0)) := by
  have hm : codeN L i % 2 ^ r < 2 ^ r := Nat.mod_lt _ (Nat.pow_pos (by decide))
  rw [turn_iff _ _ _ hm, hr, turnN_add]
  have h1 : (x + 512 * y) / 2 ^ 9 = y := by rw [show (2 : Nat) ^ 9 = 512 by decide]; omega
  have h2 : turnN (x + 512 * y) 9 = turnN x 9 := by
    rw [← turnN_mod (x + 512 * y) 9 9 (Nat.le_refl _), ← turnN_mod x 9 9 (Nat.le_refl _), show (2 : Nat) ^ 9 = 512 by decide]
    congr 1; omega
  rw [h1, h2, ← hh]
  have h3 := Nat.div_add_mod (codeN L i) (2 ^ r)
  rw [Nat.mul_comm] at h3
  constructor
  · intro h; rw [← h]; omega
  · intro h; omega
/-- a code of more than 9 bits, whose further table is there (step A done) -/
theorem TabOk.long (h : TabOk L i E fs) (hi : i < L.length) (h15 : ∀ x ∈ L, x ≤ 15) (hk : kraftN L ≤ 32768) (h9 : 9 < L.getD i 0) {x k : Nat} (hx : x < 512) (hh : headN L i x) (ht : (E x).t = k + 1) {f : Sub} (hf : fs[k]? = some f) :
    TabOk L (i + 1) E (fs.set k ⟨f.g, f.m, fillN f.F (codeN L i % 2 ^ (L.getD i 0 - 9)) (L.getD i 0 - 9) ⟨i, L.getD i 0, 0⟩⟩) := by
  have hc := fun j hj => code_lt h15 hk j hj
  have hlk : k < fs.length := (List.getElem?_eq_some_iff.1 hf).1
  have hr : L.getD i 0 = 9 + (L.getD i 0 - 9) := by omega
  refine ⟨fun z hz htz => ?_, fun z q hz htz => ?_, h.one, fun j hj z hz hhz => ?_⟩
  · obtain ⟨h1, h2⟩ := h.low z hz htz
    refine ⟨fun j hj hhj hj9 => ?_, fun hb => ?_⟩
    · rcases Nat.lt_succ_iff_lt_or_eq.1 hj with hj | rfl
      · exact h1 j hj hhj hj9
      · omega
    · obtain ⟨j, hj, hr⟩ := h2 hb; exact ⟨j, by omega, hr⟩
  · obtain ⟨f', hf', hm, hl, ⟨j0, hj0, hh0⟩, hy⟩ := h.far z q hz htz
    by_cases hq : k = q
    · subst hq
      obtain rfl : f = f' := Option.some.inj (hf.symm.trans hf')
      have hzx : z = x := h.one z x hz hx (by rw [htz, ht]) (by omega)
      subst hzx
      refine ⟨⟨f.g, f.m, fillN f.F (codeN L i % 2 ^ (L.getD i 0 - 9)) (L.getD i 0 - 9) ⟨i, L.getD i 0, 0⟩⟩, by rw [List.getElem?_set_self hlk], hm, hl, ⟨j0, by omega, hh0⟩, fun y hym => ?_⟩
      obtain ⟨h1, h2⟩ := hy y hym
      have hkey := hit_long hc (i := i) (x := z) (y := y) hi hz hr hh.2
      simp only [fillN]
      by_cases hmt : y % 2 ^ (L.getD i 0 - 9) = turnN (codeN L i % 2 ^ (L.getD i 0 - 9)) (L.getD i 0 - 9)
      · rw [if_pos hmt]
        have hhit : hitN L (z + 512 * y) i := ⟨by omega, hkey.1 hmt⟩
        refine ⟨fun j hj hj9 hhj => ?_, fun _ => ⟨i, by omega, h9, hhit⟩⟩
        have : i = j := hit_one hi (by omega) hhit hhj
        subst this; rfl
      · rw [if_neg hmt]
        refine ⟨fun j hj hj9 hhj => ?_, fun hb => ?_⟩
        · rcases Nat.lt_succ_iff_lt_or_eq.1 hj with hj | rfl
          · exact h1 j hj hj9 hhj
          · exact absurd (hkey.2 hhj.2) hmt
        · obtain ⟨j, hj, hr⟩ := h2 hb; exact ⟨j, by omega, hr⟩
    · refine ⟨f', by rw [List.getElem?_set_ne hq]; exact hf', hm, hl, ⟨j0, by omega, hh0⟩, fun y hym => ?_⟩
      obtain ⟨h1, h2⟩ := hy y hym
      refine ⟨fun j hj hj9 hhj => ?_, fun hb => ?_⟩
      · rcases Nat.lt_succ_iff_lt_or_eq.1 hj with hj | rfl
        · exact h1 j hj hj9 hhj
        · have hz2 := head_of_hit hhj hj9
          rw [show (z + 512 * y) % 512 = z by omega] at hz2
          have := head_inj hz hx hz2 hh
          subst this
          omega
      · obtain ⟨j, hj, hr⟩ := h2 hb; exact ⟨j, by omega, hr⟩
  · rcases Nat.lt_succ_iff_lt_or_eq.1 hj with hj | rfl
    · exact h.all j hj z hz hhz
    · have := head_inj hz hx hhz hh
      subst this; omega
/-- .. and whose further table is new -/
theorem TabOk.fresh (h : TabOk L i E fs) (hi : i < L.length) (h15 : ∀ x ∈ L, x ≤ 15) (hk : kraftN L ≤ 32768) (h9 : 9 < L.getD i 0) {x : Nat} (hx : x < 512) (hh : headN L i x) (ht : (E x).t = 0) {g m : Nat} (hm : m ≤ 6) (hml : ∀ j, j < L.length → headN L j x → L.getD j 0 ≤ 9 + m) {b : Nat} :
    TabOk L (i + 1) (updN E x ⟨0, b, fs.length + 1⟩) (fs ++ [⟨g, m, fillN (fun _ => Ent.zero) (codeN L i % 2 ^ (L.getD i 0 - 9)) (L.getD i 0 - 9) ⟨i, L.getD i 0, 0⟩⟩]) := by
  have hc := fun j hj => code_lt h15 hk j hj
  have hr : L.getD i 0 = 9 + (L.getD i 0 - 9) := by omega
  have hEx : updN E x ⟨0, b, fs.length + 1⟩ x = ⟨0, b, fs.length + 1⟩ := by unfold updN; rw [if_pos rfl]
  have hEz : ∀ z, z ≠ x → updN E x ⟨0, b, fs.length + 1⟩ z = E z := fun z hz => by unfold updN; rw [if_neg hz]
  have hle : ∀ z k, z < 512 → (E z).t = k + 1 → k < fs.length := fun z k hz htz => by
    obtain ⟨f, hf, _⟩ := h.far z k hz htz
    exact (List.getElem?_eq_some_iff.1 hf).1
  have hlt : ∀ z, z < 512 → (E z).t ≤ fs.length := fun z hz => by
    cases hq : (E z).t with
    | zero => omega
    | succ k => exact hle z k hz hq
  refine ⟨fun z hz htz => ?_, fun z q hz htz => ?_, fun y z hy hz he hne => ?_, fun j hj z hz hhz => ?_⟩
  · by_cases hzx : z = x
    · subst hzx; rw [hEx] at htz; cases htz
    · rw [hEz z hzx] at htz ⊢
      obtain ⟨h1, h2⟩ := h.low z hz htz
      refine ⟨fun j hj hhj hj9 => ?_, fun hb => ?_⟩
      · rcases Nat.lt_succ_iff_lt_or_eq.1 hj with hj | rfl
        · exact h1 j hj hhj hj9
        · omega
      · obtain ⟨j, hj, hr⟩ := h2 hb; exact ⟨j, by omega, hr⟩
  · by_cases hzx : z = x
    · subst hzx
      rw [hEx] at htz
      obtain rfl : fs.length = q := by simpa using htz
      refine ⟨_, by rw [List.getElem?_append_right (Nat.le_refl _), Nat.sub_self]; rfl, hm, hml, ⟨i, by omega, hh⟩, fun y hym => ?_⟩
      have hkey := hit_long hc (i := i) (x := z) (y := y) hi hz hr hh.2
      simp only [fillN]
      by_cases hmt : y % 2 ^ (L.getD i 0 - 9) = turnN (codeN L i % 2 ^ (L.getD i 0 - 9)) (L.getD i 0 - 9)
      · rw [if_pos hmt]
        have hhit : hitN L (z + 512 * y) i := ⟨by omega, hkey.1 hmt⟩
        refine ⟨fun j hj hj9 hhj => ?_, fun _ => ⟨i, by omega, h9, hhit⟩⟩
        have : i = j := hit_one hi (by omega) hhit hhj
        subst this; rfl
      · rw [if_neg hmt]
        refine ⟨fun j hj hj9 hhj => ?_, fun hb => absurd rfl hb⟩
        rcases Nat.lt_succ_iff_lt_or_eq.1 hj with hj | rfl
        · have hz2 := head_of_hit hhj hj9
          rw [show (z + 512 * y) % 512 = z by omega] at hz2
          exact absurd ht (h.all j hj z hz hz2)
        · exact absurd (hkey.2 hhj.2) hmt
    · rw [hEz z hzx] at htz
      obtain ⟨f', hf', hm', hl, ⟨j0, hj0, hh0⟩, hy⟩ := h.far z q hz htz
      refine ⟨f', by rw [List.getElem?_append_left (hle z q hz htz)]; exact hf', hm', hl, ⟨j0, by omega, hh0⟩, fun y hym => ?_⟩
      obtain ⟨h1, h2⟩ := hy y hym
      refine ⟨fun j hj hj9 hhj => ?_, fun hb => ?_⟩
      · rcases Nat.lt_succ_iff_lt_or_eq.1 hj with hj | rfl
        · exact h1 j hj hj9 hhj
        · have hz2 := head_of_hit hhj hj9
          rw [show (z + 512 * y) % 512 = z by omega] at hz2
          exact absurd (head_inj hz hx hz2 hh) hzx
      · obtain ⟨j, hj, hr⟩ := h2 hb; exact ⟨j, by omega, hr⟩
  · by_cases hyx : y = x
    · by_cases hzx : z = x
      · rw [hyx, hzx]
      · rw [hyx, hEx, hEz z hzx] at he
        have := hlt z hz
        simp only at he; omega
    · by_cases hzx : z = x
      · rw [hEz y hyx, hzx, hEx] at he
        have := hlt y hy
        simp only at he; omega
      · rw [hEz y hyx, hEz z hzx] at he
        rw [hEz y hyx] at hne
        exact h.one y z hy hz he hne
  · by_cases hzx : z = x
    · subst hzx; rw [hEx]; simp
    · rw [hEz z hzx]
      rcases Nat.lt_succ_iff_lt_or_eq.1 hj with hj | rfl
      · exact h.all j hj z hz hhz
      · exact absurd (head_inj hz hx hhz hh) hzx
/-- what bits lead to -/
def lookN (E : Nat → Ent) (fs : List Sub) (V : Nat) : Ent :=
  match (E (V % 512)).t with
  | 0 => E (V % 512)
  | k + 1 => match fs[k]? with
    | some f => f.F (V / 512 % 2 ^ f.m)
    | none => Ent.zero
theorem TabOk.look (h : TabOk L L.length E fs) (_h15 : ∀ x ∈ L, x ≤ 15) (V : Nat) :
    (∀ j, j < L.length → hitN L V j → lookN E fs V = ⟨j, L.getD j 0, 0⟩) ∧ ((lookN E fs V).b ≠ 0 → ∃ j, j < L.length ∧ hitN L V j) := by
  have hx : V % 512 < 512 := by omega
  have h512 : (512 : Nat) = 2 ^ 9 := by decide
  unfold lookN
  cases ht : (E (V % 512)).t with
  | zero =>
    obtain ⟨h1, h2⟩ := h.low _ hx ht
    refine ⟨fun j hj hh => ?_, fun hb => ?_⟩
    · by_cases h9 : L.getD j 0 ≤ 9
      · exact h1 j hj (by rw [h512, hit_mod h9]; exact hh) h9
      · exact absurd ht (h.all j hj _ hx (head_of_hit hh (by omega)))
    · obtain ⟨j, hj, hh, h9⟩ := h2 hb
      rw [h512, hit_mod h9] at hh
      exact ⟨j, hj, hh⟩
  | succ k =>
    obtain ⟨f, hf, hm, hl, ⟨j0, hj0, hh0⟩, hy⟩ := h.far _ k hx ht
    simp only [hf]
    obtain ⟨h1, h2⟩ := hy (V / 512 % 2 ^ f.m) (Nat.mod_lt _ (Nat.pow_pos (by decide)))
    have hV : V % 512 + 512 * (V / 512 % 2 ^ f.m) = V % 2 ^ (9 + f.m) := by
      rw [Nat.pow_add, h512, Nat.mod_mul]
    rw [hV] at h1 h2
    refine ⟨fun j hj hh => ?_, fun hb => ?_⟩
    · by_cases h9 : L.getD j 0 ≤ 9
      · exact (head_apart hj hj0 hh0 (by rw [h512, hit_mod h9]; exact hh) h9).elim
      · have := hl j hj (head_of_hit hh (by omega))
        exact h1 j hj (by omega) (by rw [hit_mod this]; exact hh)
    · obtain ⟨j, hj, h9, hh⟩ := h2 hb
      have hhd := head_of_hit hh h9
      rw [show V % 2 ^ (9 + f.m) % 512 = V % 512 by rw [Nat.pow_add, ← h512, Nat.mod_mul_right_mod]] at hhd
      rw [hit_mod (hl j hj hhd)] at hh
      exact ⟨j, hj, hh⟩
end
end Go.Cm

/- The walks of the document's codes of lengths. Conditions: the argument reads as a list. -/
namespace Go.Cm
open Go.RowKit Go.Proofs

theorem wrongI_big {l : List Int} (h : 320 < l.length) : wrongI l = 3 := by unfold wrongI; rw [if_pos h]
theorem wrongI_bad {l : List Int} (h : ¬ 320 < l.length) {i : Nat} (hi : i < l.length) (hb : ¬ (0 ≤ l.getD i 0 ∧ l.getD i 0 ≤ 15)) : wrongI l = 1 := by
  unfold wrongI; rw [if_neg h, if_neg]
  exact fun hall => hb (hall _ (getD_mem l i 0 hi))
theorem wrongI_ok {l : List Int} (h : ¬ 320 < l.length) (hall : ∀ i, i < l.length → 0 ≤ l.getD i 0 ∧ l.getD i 0 ≤ 15) : wrongI l = 0 := by
  unfold wrongI; rw [if_neg h, if_pos]
  intro x hx
  obtain ⟨i, hi, rfl⟩ := List.mem_iff_getElem.1 hx
  have := hall i hi
  simpa [List.getD, hi] using this
theorem ints_set' (l : List Int) (i : Nat) (x : Int) : (ints l).set i (.int .i64 x) = ints (l.set i x) := by simp [ints, List.map_set]
theorem wrongR (v : Value) (l : List Int) (w : World) (h : IntsAt w v l) : Calls Tryz.prog 73 #[v] w fun e w' => e = .returned (.int .i64 (wrongI l : Nat)) ∧ ∃ x, w' = ext w x := by
  obtain ⟨oa, cap, b, off, rfl, hd, hc⟩ := h.open
  have hix := index_any (P := Tryz.prog) 35 3 Tryz.underlying35 (by kernel_rfl) hd
  have hm := hd.len
  have hbk := hd.hblk
  have HC := Lib.hid hc; clear hc h hd
  by_cases hbig : 320 < l.length
  · have hb : (l.length : Int) > 320 := by omega
    have HE := Lib.hid (wrongI_big hbig)
    go_enter Tryz.func73, Tryz.ntmps73
    go_wp2
    go_ret
    exact ⟨by rw [HE.out]; rfl, (ex_ext (by repeat (first | exact Below.refl _ _ | assumption | refine b_drewN ?_ _ | refine Below.drew ?_ | refine b_ext' ?_ _ | refine b_alloc' ?_ _)))⟩
  · have hb : ¬ (l.length : Int) > 320 := by omega
    go_enter Tryz.func73, Tryz.ntmps73
    go_wp2
    go_loop [3] (fun i => ∃ k : Nat, k ≤ l.length ∧ i = .int .i64 k ∧ ∀ q, q < k → 0 ≤ l.getD q 0 ∧ l.getD q 0 ≤ 15) (fun i => l.length - (intOf i).toNat)
    case atStart => exact ⟨0, Nat.zero_le _, rfl, fun j hj => absurd hj (Nat.not_lt_zero j)⟩
    case round =>
      obtain ⟨k, hk, rfl, hall⟩ := hrel
      have HA := Lib.hid hall; clear hall
      by_cases hlt : k < l.length
      · have hcell := HC.out k hlt
        have hbb := hbk (by omega)
        have HW : Hid ((0 ≤ l.getD k 0 ∧ l.getD k 0 ≤ 15) → ∀ q, q < k + 1 → 0 ≤ l.getD q 0 ∧ l.getD q 0 ≤ 15) := Lib.hid (fun h q hq => by
          rcases Nat.lt_succ_iff_lt_or_eq.1 hq with h1 | rfl
          · exact HA.out q h1
          · exact h)
        have HF : Hid (¬ (0 ≤ l.getD k 0 ∧ l.getD k 0 ≤ 15) → wrongI l = 1) := Lib.hid (wrongI_bad hbig hlt)
        generalize l.getD k 0 = y at *
        by_cases h0 : y < 0
        · go_wp2
          go_ret
          exact ⟨by rw [HF.out (by omega)]; rfl, (ex_ext (by repeat (first | exact Below.refl _ _ | assumption | refine b_drewN ?_ _ | refine Below.drew ?_ | refine b_ext' ?_ _ | refine b_alloc' ?_ _)))⟩
        · by_cases h1 : y > 15
          · go_wp2
            go_ret
            exact ⟨by rw [HF.out (by omega)]; rfl, (ex_ext (by repeat (first | exact Below.refl _ _ | assumption | refine b_drewN ?_ _ | refine Below.drew ?_ | refine b_ext' ?_ _ | refine b_alloc' ?_ _)))⟩
          · go_wp2
            go_round
            case rel => exact ⟨k + 1, by omega, by go_num, HW.out (by omega)⟩
            case measure => simp [intOf]; omega
      · have hk' : k = l.length := by omega
        subst hk'
        have HE := Lib.hid (wrongI_ok hbig HA.out)
        go_wp2
        go_ret
        exact ⟨by rw [HE.out]; rfl, (ex_ext (by repeat (first | exact Below.refl _ _ | assumption | refine b_drewN ?_ _ | refine Below.drew ?_ | refine b_ext' ?_ _ | refine b_alloc' ?_ _)))⟩
theorem kraft_take_succ (L : List Nat) (k : Nat) (hk : k < L.length) : kraftN (L.take (k + 1)) = kraftN (L.take k) + kw (L.getD k 0) := by
  unfold kraftN
  rw [take_succ_getD L k 0 hk, List.map_append, List.sum_append]
  simp
theorem kw_le (x : Nat) : kw x ≤ 32768 := by
  unfold kw
  split
  · exact Nat.le_trans (Nat.pow_le_pow_right (by decide) (show 15 - x ≤ 15 by omega)) (by decide)
  · exact Nat.zero_le _
theorem kraft_take_le (L : List Nat) (k : Nat) : kraftN (L.take k) ≤ k * 32768 := by
  induction k with
  | zero => simp [kraftN]
  | succ k ih =>
    rw [Nat.add_mul, Nat.one_mul]
    by_cases hk : k < L.length
    · rw [kraft_take_succ L k hk]
      exact Nat.add_le_add ih (kw_le _)
    · rw [List.take_of_length_le (by omega)]
      rw [List.take_of_length_le (by omega)] at ih
      exact Nat.le_trans ih (Nat.le_add_right _ _)
theorem kraftR (v : Value) (L : List Nat) (w : World) (h : IntsAt w v (nls L)) (h1 : L.length ≤ 320) (h15 : ∀ x ∈ L, x ≤ 15) : Calls Tryz.prog 74 #[v] w fun e w' => e = .returned (.int .i64 (kraftN L : Nat)) ∧ ∃ x, w' = ext w x := by
  have HWR : Hid (∀ w', Below w.heap.size w w' → Calls Tryz.prog 73 #[v] w' fun e w'' => e = .returned (.int .i64 0) ∧ ∃ x, w'' = ext w' x) := Lib.hid (fun w' hb => by
    have := wrongR v (nls L) w' (h.up hb)
    rw [wrongI_nls h1 h15] at this
    exact this)
  obtain ⟨oa, cap, b, off, rfl, hd, hc⟩ := h.open
  rw [nls_length] at hd hc
  rw [nls_length] at HWR ⊢
  have hix := index_any (P := Tryz.prog) 35 3 Tryz.underlying35 (by kernel_rfl) hd
  have hm := hd.len
  have hbk := hd.hblk
  have HC := Lib.hid hc; clear hc h hd
  have H15 : Hid (∀ k, k < L.length → L.getD k 0 ≤ 15) := Lib.hid (fun k hk => h15 _ (getD_mem L k 0 hk))
  go_enter Tryz.func74, Tryz.ntmps74
  go_wp2_with (go_at_call 73; refine (HWR.out _ (by repeat (first | exact Below.refl _ _ | assumption | refine b_drewN ?_ _ | refine Below.drew ?_ | refine b_ext' ?_ _ | refine b_alloc' ?_ _))).mono ?_; rintro e w1 ⟨rfl, x, rfl⟩)
  clear HWR h15
  go_loop [3, 4] (fun n i => ∃ k : Nat, k ≤ L.length ∧ i = .int .i64 k ∧ n = .int .i64 (kraftN (L.take k) : Nat)) (fun _ i => L.length - (intOf i).toNat)
  case atStart => exact ⟨0, Nat.zero_le _, rfl, rfl⟩
  case round =>
    obtain ⟨k, hk, rfl, rfl⟩ := hrel
    by_cases hlt : k < L.length
    · have hcell := HC.out k hlt
      rw [nls_getD] at hcell
      have hbb := hbk (by omega)
      have HS := Lib.hid (kraft_take_succ L k hlt)
      have hle := kraft_take_le L k
      have hx := H15.out k hlt
      generalize kraftN (L.take k) = s at *
      generalize L.getD k 0 = y at *
      by_cases h0 : 0 < y
      · have hy : (y : Int) > 0 := by omega
        have hy2 : (15 : Int) - (y : Int) = ((15 - y : Nat) : Int) := by omega
        have hp : 2 ^ (15 - y) ≤ 32768 := Nat.le_trans (Nat.pow_le_pow_right (by decide) (show 15 - y ≤ 15 by omega)) (by decide)
        have hkw : kw y = 2 ^ (15 - y) := by unfold kw; rw [if_pos h0]
        have HKW := Lib.hid hkw; clear hkw
        have hs2 : s ≤ 320 * 32768 := Nat.le_trans hle (Nat.mul_le_mul_right _ (by omega))
        clear hle
        generalize hn : 15 - y = n at *
        have HP : Hid ((2 ^ n : Nat) ≤ 32768) := Lib.hid hp
        have hn15 : n ≤ 15 := by omega
        go_wp2
        go_round
        case rel =>
          refine ⟨k + 1, by omega, by go_num, ?_⟩
          have hq := HP.out
          have h2 : ((2 : Int) ^ n) = ((2 ^ n : Nat) : Int) := by norm_cast
          rw [HS.out, HKW.out, h2]
          generalize 2 ^ n = q at *
          rw [IntWalk.wrap64_in (q : Int) ⟨by omega, by omega⟩, IntWalk.wrap64_in _ ⟨by omega, by omega⟩]
          norm_cast
        case measure => simp [intOf]; omega
      · have hy : ¬ (y : Int) > 0 := by omega
        have hkw : kw y = 0 := by unfold kw; rw [if_neg h0]
        rw [hkw] at HS
        go_wp2
        go_round
        case rel => exact ⟨k + 1, by omega, by go_num, by rw [HS.out, Nat.add_zero]⟩
        case measure => simp [intOf]; omega
    · go_wp2
      go_ret
      rw [List.take_of_length_le (by omega)]
      exact ⟨rfl, (ex_ext (by repeat (first | exact Below.refl _ _ | assumption | refine b_drewN ?_ _ | refine Below.drew ?_ | refine b_ext' ?_ _ | refine b_alloc' ?_ _)))⟩
theorem errI_of_wrong {l : List Int} (h : wrongI l ≠ 0) : errI l = wrongI l := by unfold errI; rw [if_pos h]
theorem errI_nls {L : List Nat} (h1 : L.length ≤ 320) (h15 : ∀ x ∈ L, x ≤ 15) : errI (nls L) = if 32768 < kraftN L then 7 else 0 := by
  unfold errI; rw [wrongI_nls h1 h15, if_neg (by omega), nls_toNat]
/-- the codes that were given so far: those of lengths below n, and of length n below symbol i -/
def partN (L : List Nat) (n i : Nat) : List Nat := (List.range L.length).map fun q => if L.getD q 0 < n ∨ (L.getD q 0 = n ∧ q < i) then codeN L q else 0
theorem partN_length (L : List Nat) (n i : Nat) : (partN L n i).length = L.length := by simp [partN]
theorem partN_start (L : List Nat) : partN L 1 0 = List.replicate L.length 0 := by
  unfold partN
  rw [List.eq_replicate_iff]
  refine ⟨by simp, fun x hx => ?_⟩
  obtain ⟨q, -, rfl⟩ := List.mem_map.1 hx
  split
  · rename_i h; unfold codeN; rw [if_pos (by omega)]
  · rfl
theorem partN_skip (L : List Nat) (n i : Nat) (h : L.getD i 0 ≠ n) : partN L n (i + 1) = partN L n i := by
  unfold partN
  refine List.map_congr_left fun q _ => ?_
  by_cases e : q = i
  · subst e
    by_cases h2 : L.getD q 0 < n
    · rw [if_pos (.inl h2), if_pos (.inl h2)]
    · rw [if_neg (by omega), if_neg (by omega)]
  · by_cases h2 : L.getD q 0 < n ∨ (L.getD q 0 = n ∧ q < i)
    · rw [if_pos h2, if_pos (by omega)]
    · rw [if_neg h2, if_neg (by omega)]
theorem partN_set (L : List Nat) (n i : Nat) (h0 : 1 ≤ n) (h : L.getD i 0 = n) : (partN L n i).set i (firstN L n + (L.take i).count n) = partN L n (i + 1) := by
  refine List.ext_getElem (by simp [partN]) fun q h1 h2 => ?_
  rw [List.getElem_set]
  simp only [partN, List.getElem_map, List.getElem_range]
  by_cases e : i = q
  · subst e
    rw [if_pos rfl, if_pos (.inr ⟨h, by omega⟩)]
    unfold codeN rankN
    rw [if_neg (by omega), h]
  · rw [if_neg e]
    by_cases h2 : L.getD q 0 < n ∨ (L.getD q 0 = n ∧ q < i)
    · rw [if_pos h2, if_pos (by omega)]
    · rw [if_neg h2, if_neg (by omega)]
theorem partN_next (L : List Nat) (n : Nat) : partN L n L.length = partN L (n + 1) 0 := by
  unfold partN
  refine List.map_congr_left fun q hq => ?_
  have := List.mem_range.1 hq
  by_cases h2 : L.getD q 0 < n ∨ (L.getD q 0 = n ∧ q < L.length)
  · rw [if_pos h2, if_pos (by omega)]
  · rw [if_neg h2, if_neg (by omega)]
theorem partN_all (L : List Nat) (h15 : ∀ x ∈ L, x ≤ 15) : partN L 16 0 = codesN L := by
  unfold partN codesN
  refine List.map_congr_left fun q hq => ?_
  have := h15 _ (getD_mem L q 0 (List.mem_range.1 hq))
  rw [if_pos (by omega)]
/-- what a call that gives codes answers -/
def RetCodes (l : List Int) (w : World) (e : Ending) (w' : World) : Prop :=
  ∃ v, e = .returned (.tuple #[v, .int .i64 (errI l : Nat)]) ∧ Own w' w.heap.size 3 v (if errI l = 0 then ints (nls (codesN (l.map Int.toNat))) else []) ∧ Below w.heap.size w w'
set_option maxRecDepth 100000 in
theorem codesR (v : Value) (l : List Int) (w : World) (h : IntsAt w v l) : Calls Tryz.prog 48 #[v] w (RetCodes l w) := by
  have HWR : Hid (∀ w', Below w.heap.size w w' → Calls Tryz.prog 73 #[v] w' fun e w'' => e = .returned (.int .i64 (wrongI l : Nat)) ∧ ∃ x, w'' = ext w' x) := Lib.hid (fun w' hb => wrongR v l w' (h.up hb))
  by_cases hw0 : wrongI l = 0
  · obtain ⟨hlen, hall⟩ := wrongI_zero hw0
    obtain ⟨L, rfl, h15⟩ := nls_of hall
    rw [nls_length] at hlen
    rw [hw0] at HWR
    have he := errI_nls hlen h15
    have HKR : Hid (∀ w', Below w.heap.size w w' → Calls Tryz.prog 74 #[v] w' fun e w'' => e = .returned (.int .i64 (kraftN L : Nat)) ∧ ∃ x, w'' = ext w' x) := Lib.hid (fun w' hb => kraftR v L w' (h.up hb) hlen h15)
    obtain ⟨oa, cap, b, off, rfl, hd, hc⟩ := h.open
    rw [nls_length] at hd hc
    unfold RetCodes
    rw [nls_length] at HWR HKR ⊢
    rw [nls_toNat]
    have hix := index_any (P := Tryz.prog) 35 3 Tryz.underlying35 (by kernel_rfl) hd
    have hm := hd.len
    have hbk := hd.hblk
    have HC := Lib.hid hc; clear hc h hd hw0 hall
    by_cases hk : 32768 < kraftN L
    · rw [if_pos hk] at he
      have hk2 : (kraftN L : Int) > 32768 := by omega
      generalize kraftN L = K at *
      go_enter Tryz.func48, Tryz.ntmps48
      go_wp2_with (first | (go_at_call 73; refine (HWR.out _ (by repeat (first | exact Below.refl _ _ | assumption | refine b_drewN ?_ _ | refine Below.drew ?_ | refine b_ext' ?_ _ | refine b_alloc' ?_ _))).mono ?_; rintro e w1 ⟨rfl, x, rfl⟩) | (go_at_call 74; refine (HKR.out _ (by repeat (first | exact Below.refl _ _ | assumption | refine b_drewN ?_ _ | refine Below.drew ?_ | refine b_ext' ?_ _ | refine b_alloc' ?_ _))).mono ?_; rintro e w2 ⟨rfl, y, rfl⟩))
      go_ret2
      exact ⟨.slice none 0 0, rfl, Own.nil _ _ _, (by repeat (first | exact Below.refl _ _ | assumption | refine b_drewN ?_ _ | refine Below.drew ?_ | refine b_ext' ?_ _ | refine b_alloc' ?_ _))⟩
    · rw [if_neg hk] at he
      have hk2 : ¬ (kraftN L : Int) > 32768 := by omega
      have HK : Hid (kraftN L ≤ 32768) := Lib.hid (by omega)
      have HFU := Lib.hid (full_le h15 HK.out)
      have HFL := Lib.hid (first_le h15 HK.out)
      have HPA := Lib.hid (partN_all L h15)
      have HPS := Lib.hid (partN_start L)
      rw [he]
      clear h15 he
      generalize kraftN L = K at *
      have hmk := run_mk (P := Tryz.prog) 35 3 (.int .i64 0) 8 L.length Tryz.underlying35 (by kernel_rfl) rfl (by decide) (by omega)
      go_enter Tryz.func48, Tryz.ntmps48
      go_wp2_with (first | (go_at_call 73; refine (HWR.out _ (by repeat (first | exact Below.refl _ _ | assumption | refine b_drewN ?_ _ | refine Below.drew ?_ | refine b_ext' ?_ _ | refine b_alloc' ?_ _))).mono ?_; rintro e w1 ⟨rfl, x, rfl⟩) | (go_at_call 74; refine (HKR.out _ (by repeat (first | exact Below.refl _ _ | assumption | refine b_drewN ?_ _ | refine Below.drew ?_ | refine b_ext' ?_ _ | refine b_alloc' ?_ _))).mono ?_; rintro e w2 ⟨rfl, y, rfl⟩))
      have hbel : Below w.heap.size w (ext (ext w x) y) := (by repeat (first | exact Below.refl _ _ | assumption | refine b_drewN ?_ _ | refine Below.drew ?_ | refine b_ext' ?_ _ | refine b_alloc' ?_ _))
      have hown := own_made (ext (ext w x) y) w.heap.size 3 (.int .i64 0) L.length hbel.size (by omega)
      have hbel2 := hbel.alloc hbel.size (.cells (madeCells #[Value.int .i64 0] L.length) 3)
      have hown2 : Own ((ext (ext w x) y).alloc (.cells (madeCells #[Value.int .i64 0] L.length) 3)) w.heap.size 3 (.slice (some ⟨(ext (ext w x) y).heap.size, 0, none⟩) L.length L.length) (ints (nls (partN L 1 0))) := by
        rw [HPS.out]; simpa [ints, nls] using hown
      have HO := Lib.hid hown2
      have HB := Lib.hid hbel2
      have hgs := hbel.size
      clear hown hown2 hbel hbel2 hmk HWR HKR HPS
      generalize (ext (ext w x) y).heap.size = g at *
      generalize (ext (ext w x) y).alloc (.cells (madeCells #[Value.int .i64 0] L.length) 3) = w3 at *
      go_loopg [6, 7] 16 (fun gk c n wr => ∃ k : Nat, 1 ≤ k ∧ k ≤ 16 ∧ n = .int .i64 k ∧ c = .int .i64 (firstN L k : Nat) ∧ Own wr w.heap.size 3 (.slice (some ⟨g, 0, none⟩) L.length L.length) (ints (nls (partN L k 0))) ∧ Below w.heap.size w wr ∧ gk = 17 - k)
      case atStart => exact ⟨1, by omega, by omega, rfl, rfl, HO.out, HB.out, rfl⟩
      case round =>
        clear HO HB
        obtain ⟨k, hk1, hk16, rfl, rfl, hown, hbel, rfl⟩ := hrel
        have HO := Lib.hid hown
        have HB := Lib.hid hbel
        clear hown hbel
        by_cases hk : k ≤ 15
        · have HFS := Lib.hid (first_succ L k hk1)
          have HFK := Lib.hid (HFU.out k hk1 hk)
          have h2k : 2 ^ k ≤ 32768 := Nat.le_trans (Nat.pow_le_pow_right (by decide) hk) (by decide)
          have HCT : Hid (firstN L k + L.count k ≤ 32768) := Lib.hid (Nat.le_trans HFK.out h2k)
          clear h2k
          go_wp2
          obtain ⟨wo, rfl⟩ : ∃ wo : World, wo = wr := ⟨_, rfl⟩
          go_loopg [6, 8] (L.length + 1) (fun gk c i wr => ∃ j : Nat, j ≤ L.length ∧ i = .int .i64 j ∧ c = .int .i64 (firstN L k + (L.take j).count k : Nat) ∧ Own wr w.heap.size 3 (.slice (some ⟨g, 0, none⟩) L.length L.length) (ints (nls (partN L k j))) ∧ Below w.heap.size w wr ∧ gk = L.length + 1 - j)
          case atStart => exact ⟨0, Nat.zero_le _, rfl, by simp, HO.out, HB.out, rfl⟩
          case round =>
            clear HO HB
            obtain ⟨j, hj, rfl, rfl, hown, hbel, rfl⟩ := hrel
            have HO := Lib.hid hown
            have HB := Lib.hid hbel
            clear hown hbel
            by_cases hlt : j < L.length
            · have hbw := hbk (by omega)
              have hsz := HB.out.size
              have hcell := (HB.out.cell (p := ⟨b, off + j, none⟩) hbw).trans (HC.out j hlt)
              rw [nls_getD] at hcell
              have hgw := HO.out.blk
              have hcj := HO.out.cell (i := j) (by rw [ints_length, nls_length, partN_length]; exact hlt)
              rw [ints_getD _ _ (by rw [nls_length, partN_length]; exact hlt)] at hcj
              have hfj := HO.out.free j
              have HCS := Lib.hid (count_take_succ L j k hlt)
              have HSK := Lib.hid (partN_skip L k j)
              have HSET := Lib.hid (partN_set L k j hk1)
              have HST := Lib.hid (HO.out.store j (.int .i64 (firstN L k + (L.take j).count k : Nat)))
              have hle : (L.take j).count k ≤ L.count k := List.Sublist.count_le _ (List.take_sublist _ _)
              have HLE := Lib.hid hle; clear hle
              have hbw2 : b < wr.heap.size := by omega
              generalize hyy : L.getD j 0 = y at *
              generalize (nls (partN L k j)).getD j 0 = z at *
              generalize hcc : firstN L k + (L.take j).count k = c at *
              have hc2 : c ≤ 32768 := by have := HCT.out; have := HLE.out; omega
              by_cases he : y = k
              · have he2 : ((y : Int) == (k : Int)) = true := by rw [he]; exact beq_self_eq_true _
                have HCC := Lib.hid hcc
                have HE := Lib.hid he
                clear hcc he
                have hj2 : j < 4294967296 := by omega
                go_wp2
                go_roundg (L.length - j)
                case measure => omega
                case rel =>
                  refine ⟨j + 1, by omega, by go_num, ?_, ?_, ?_, by omega⟩
                  · rw [HCS.out, if_pos HE.out]
                    rw [← Nat.add_assoc, HCC.out]
                    norm_cast
                  · have h1 := HST.out.1
                    rw [ints_set', nls_set, HSET.out HE.out] at h1
                    exact h1
                  · exact HB.out.grown HST.out.2 (by omega) (fun k hk => by cases hk; exact hgw.1)
              · have he2 : ((y : Int) == (k : Int)) = false := by
                  simp; omega
                go_wp2
                go_roundg (L.length - j)
                case measure => omega
                case rel =>
                  refine ⟨j + 1, by omega, by go_num, ?_, ?_, HB.out, by omega⟩
                  · rw [HCS.out, if_neg he, Nat.add_zero, hcc]
                  · rw [HSK.out he]; exact HO.out
            · obtain rfl : j = L.length := by omega
              have HNX := Lib.hid (partN_next L k)
              rw [List.take_length]
              have hc3 := HCT.out
              generalize hcc : firstN L k + L.count k = c at *
              have HCC := Lib.hid hcc
              clear hcc
              go_wp2
              go_roundg (16 - k)
              case measure => omega
              case rel =>
                refine ⟨k + 1, by omega, by omega, by go_num, ?_, ?_, HB.out, by omega⟩
                · rw [HFS.out]
                  norm_cast
                · rw [← HNX.out]; exact HO.out
        · obtain rfl : k = 16 := by omega
          go_wp2
          go_ret2
          refine ⟨.slice (some ⟨g, 0, none⟩) L.length L.length, rfl, ?_, HB.out⟩
          rw [← HPA.out]
          exact HO.out
  · have he := errI_of_wrong hw0
    have hne : ¬ (wrongI l : Int) = 0 := by omega
    have hne2 : ¬ errI l = 0 := by omega
    unfold RetCodes
    rw [if_neg hne2, he]
    clear h he hne2
    generalize wrongI l = n at *
    go_enter Tryz.func48, Tryz.ntmps48
    go_wp2_with (first | (go_at_call 73; refine (HWR.out _ (by repeat (first | exact Below.refl _ _ | assumption | refine b_drewN ?_ _ | refine Below.drew ?_ | refine b_ext' ?_ _ | refine b_alloc' ?_ _))).mono ?_; rintro e w1 ⟨rfl, x, rfl⟩))
    go_ret2
    exact ⟨.slice none 0 0, rfl, Own.nil _ _ _, (by repeat (first | exact Below.refl _ _ | assumption | refine b_drewN ?_ _ | refine Below.drew ?_ | refine b_ext' ?_ _ | refine b_alloc' ?_ _))⟩
end Go.Cm

/- A region that draws its order and ends in operations that must come last, which may change what the others look at. Conditions: none. -/
namespace Go.Cm
open Go.RowKit

section
variable {P : Program} {ops : Array Oper} {md : Region.Mode} {C : World → Prop} {o3 : List Nat}
def late (o3 : List Nat) (listed : Array Bool) : Bool := o3.any fun t => listed.getD t false
def wpAnyT (P : Program) (md : Region.Mode) (ops : Array Oper) (C : World → Prop) (o3 : List Nat) (Q : Act → World → Prop) : Nat → Array Bool → Act → World → Prop
  | 0, listed, a, w => (late o3 listed = false → C w) ∧ Region.ready md ops listed = [] ∧ Q a w
  | fuel + 1, listed, a, w => (late o3 listed = false → C w) ∧ (Region.ready md ops listed = [] → Q a w) ∧
    ∀ i ∈ Region.ready md ops listed, wpOp P ops noQ i (wpAnyT P md ops C o3 Q fuel (listed.setIfInBounds i true)) a w
theorem wpAny_of_T {Q : Act → World → Prop} {Q' : Exit → Act → World → Prop} (hQ : ∀ a w, Q a w → Q' .normal a w) : ∀ (fuel : Nat) (listed : Array Bool) (a : Act) (w : World),
    wpAnyT P md ops C o3 Q fuel listed a w → wpAny P md ops Q' fuel listed a w
  | 0, _, _, _, h => ⟨h.2.1, hQ _ _ h.2.2⟩
  | fuel + 1, listed, a, w, h => ⟨fun h0 => hQ _ _ (h.2.1 h0), fun i hi => by
      have h1 := wpOp_mono (fun a w => wpAny_of_T (Q' := Q') hQ fuel _ a w) (h.2.2 i hi)
      unfold wpOp at h1 ⊢
      split
      · rename_i ho; simpa [ho] using h1
      · rename_i o ho
        simp only [ho] at h1
        split
        · rename_i hw
          simp only [hw, if_true] at h1
          rcases h1 with h1 | ⟨-, h1⟩
          · exact .inl (wp_exits (fun _ _ _ h => h) noQ_out h1)
          · exact (noQ_out h1).elim
        · rename_i hw; simpa [hw] using h1⟩
/-- what has been done is closed: what it waits for has been done -/
def Closed (md : Region.Mode) (ops : Array Oper) (listed : Array Bool) : Prop := ∀ (j : Nat) (oj : Oper), ops[j]? = some oj → listed.getD j false = true → ∀ e ∈ oj.after, Region.binds md e = true → listed.getD e.on false = true
theorem Closed.set {listed : Array Bool} {j : Nat} (h : Closed md ops listed) (hj : j ∈ Region.ready md ops listed) : Closed md ops (listed.setIfInBounds j true) := by
  obtain ⟨_, oj, hoj, hall⟩ := mem_ready.1 hj
  intro k ok hok hl e he hb
  by_cases hjk : j = k
  · subst hjk
    have : ok = oj := Option.some.inj (hok.symm.trans hoj)
    subst this
    exact getD_set_true (hall e he hb)
  · rw [getD_set_ne false hjk] at hl
    exact getD_set_true (h k ok hok hl e he hb)
def anc (md : Region.Mode) (ops : Array Oper) : Nat → Nat → Nat → Bool
  | 0, _, _ => false
  | f + 1, i, t => match ops[t]? with
    | some o => o.after.any fun e => Region.binds md e && (e.on == i || anc md ops f i e.on)
    | none => false
theorem anc_listed {listed : Array Bool} (hc : Closed md ops listed) {i : Nat} : ∀ (f t : Nat), anc md ops f i t = true → listed.getD t false = true → listed.getD i false = true
  | 0, _, h, _ => by cases h
  | f + 1, t, h, ht => by
    unfold anc at h
    split at h
    · rename_i o ho
      obtain ⟨e, he, hb⟩ := Array.any_eq_true'.1 h
      simp only [Bool.and_eq_true, Bool.or_eq_true, beq_iff_eq] at hb
      have h1 := hc t o ho ht e he hb.1
      rcases hb.2 with h2 | h2
      · rw [← h2]; exact h1
      · exact anc_listed hc f e.on h2 h1
    · cases h
theorem late_set {listed : Array Bool} {i : Nat} (hi : i ∉ o3) : late o3 (listed.setIfInBounds i true) = late o3 listed := by
  unfold late
  induction o3 with
  | nil => rfl
  | cons t o3 ih =>
    simp only [List.mem_cons, not_or] at hi
    simp only [List.any_cons]
    rw [ih hi.2, getD_set_ne false hi.1]
theorem late_false {listed : Array Bool} {i f : Nat} (hc : Closed md ops listed) (ha : ∀ t ∈ o3, anc md ops f i t = true) (hu : listed.getD i false = false) : late o3 listed = false := by
  cases h : late o3 listed with
  | false => rfl
  | true =>
    obtain ⟨t, ht, hl⟩ := List.any_eq_true.1 h
    rw [anc_listed hc f t (ha t ht) hl] at hu
    cases hu
theorem getD_un {listed : Array Bool} {i : Nat} (h : listed.getD i true = false) : i < listed.size ∧ listed.getD i false = false := by
  rcases Nat.lt_or_ge i listed.size with h' | h'
  · exact ⟨h', by simp [h'] at h ⊢; exact h⟩
  · simp [Array.getElem?_eq_none h'] at h
theorem wpAnyT_first {Q : Act → World → Prop} {i f : Nat} {oi : Oper} {v : Value} (hi : ops[i]? = some oi) (hsel : ∀ (j : Nat) (o : Oper) cs b, ops[j]? = some o → o.op ≠ .select cs b) (hi3 : i ∉ o3) (ha : ∀ t ∈ o3, anc md ops f i t = true) :
    ∀ (fuel : Nat) (listed : Array Bool) (a : Act) (w : World), Closed md ops listed →
      (∀ j oj, ops[j]? = some oj → j ≠ i → listed.getD j true = false → (∀ e ∈ oj.after, Region.binds md e = true → e.on ≠ i) → oi.apart ops oj = true) →
      i ∈ Region.ready md ops listed → Yin P ops C oi v a →
      wpAnyT P md ops C o3 Q fuel (listed.setIfInBounds i true) (a.put oi.dst v) w → wpAnyT P md ops C o3 Q (fuel + 1) listed a w := by
  intro fuel
  induction fuel with
  | zero =>
    intro listed a w hcl _ hr hy H
    have hl := late_false hcl ha (getD_un (mem_ready.1 hr).1).2
    have h1 := H.1
    rw [late_set hi3] at h1
    refine ⟨h1, fun h => (by rw [h] at hr; cases hr), fun j hj => ?_⟩
    by_cases hji : j = i
    · subst hji; exact hy.wpOp (h1 hl) hi H
    · have := ready_mono hj hji
      rw [H.2.1] at this
      cases this
  | succ fuel ih =>
    intro listed a w hcl hfree hr hy H
    have hl := late_false hcl ha (getD_un (mem_ready.1 hr).1).2
    have h1 := H.1
    rw [late_set hi3] at h1
    refine ⟨h1, fun h => (by rw [h] at hr; cases hr), fun j hj => ?_⟩
    by_cases hji : j = i
    · subst hji; exact hy.wpOp (h1 hl) hi H
    · have h1 := H.2.2 j (ready_mono hj hji)
      obtain ⟨hjun, oj, hoj, hall⟩ := mem_ready.1 hj
      have hnot : ∀ e ∈ oj.after, Region.binds md e = true → e.on ≠ i := fun e he hb heq => by
        have h1 := hall e he hb
        have h0 := (mem_ready.1 hr).1
        rw [heq] at h1
        rw [(getD_un h0).2] at h1
        cases h1
      have h2 := mOp_put hoj (hfree j oj hoj hji hjun hnot) (fun cs b => hsel i oi cs b hi) (fun cs b => hsel j oj cs b hoj) hy h1
      have hfree' : ∀ k ok, ops[k]? = some ok → k ≠ i → (listed.setIfInBounds j true).getD k true = false →
          (∀ e ∈ ok.after, Region.binds md e = true → e.on ≠ i) → oi.apart ops ok = true := fun k ok hk hki hun hno => by
        refine hfree k ok hk hki ?_ hno
        by_cases hjk : j = k
        · subst hjk; exact hjun
        · rw [getD_set_ne true hjk] at hun; exact hun
      refine wpOp_mono (fun a' w' h3 => ih (listed.setIfInBounds j true) a' w' (hcl.set hj) hfree' (ready_mono hr (Ne.symm hji)) h3.1 ?_) h2
      rw [Array.setIfInBounds_comm _ _ hji]
      exact h3.2
theorem late_true {listed : Array Bool} {i : Nat} (hi : i ∈ o3) (hs : i < listed.size) : late o3 (listed.setIfInBounds i true) = true :=
  List.any_eq_true.2 ⟨i, hi, by simp [hs]⟩
/-- one operation that is the only one that may come up -/
theorem wpAnyT_one {Q K : Act → World → Prop} {C' : World → Prop} {i n : Nat} {listed : Array Bool} {a : Act} {w : World} (hr : Region.ready md ops listed = [i]) (hC : late o3 listed = false → C w)
    (hK : ∀ a' w', C' w' → K a' w' → wpAnyT P md ops C o3 Q n (listed.setIfInBounds i true) a' w') (h : wpList P ops (actQ C' K) [ops.toList.getD i default] a w) : wpAnyT P md ops C o3 Q (n + 1) listed a w := by
  have him : i ∈ Region.ready md ops listed := by rw [hr]; simp
  obtain ⟨_, o, ho, _⟩ := mem_ready.1 him
  have hol : ops.toList.getD i default = o := by rw [List.getD_eq_getElem?_getD, Array.getElem?_toList, ho]; rfl
  refine ⟨hC, fun h0 => (by rw [hr] at h0; cases h0), fun j hj => ?_⟩
  obtain rfl : j = i := by rw [hr] at hj; simpa using hj
  rw [hol] at h
  unfold wpList at h
  unfold wpOp
  simp only [ho]
  split
  · rename_i hw
    rw [if_pos hw] at h
    rcases h with h' | ⟨-, h'⟩
    · refine .inl (Oper.wp_mono ?_ (wp_exits (fun _ _ _ h => h) actQ_out h'))
      intro a' w' hh
      obtain ⟨hC', hk⟩ := (hh : actQ C' K .normal a' w')
      exact hK a' w' hC' hk
    · exact (actQ_out h').elim
  · rename_i hw
    rw [if_neg hw] at h
    obtain ⟨hC', hk⟩ := (h : actQ C' K .normal (a.put o.dst undef) w)
    exact hK _ _ hC' hk
theorem wpAnyT_tail {Q : Act → World → Prop} : ∀ (o : List Nat) (listed : Array Bool) (a : Act) (w : World), (∀ t ∈ o, t ∈ o3) → mixA md ops o listed = true → (late o3 listed = false → C w) →
    wpAct P ops (fun _ => True) Q (pick ops.toList o) a w → wpAnyT P md ops C o3 Q o.length listed a w
  | [], listed, a, w, _, hB, hC, h => ⟨hC, by simpa [mixA] using hB, h⟩
  | i :: r, listed, a, w, ho, hB, hC, h => by
    simp only [mixA, Bool.and_eq_true, beq_iff_eq] at hB
    have him : i ∈ Region.ready md ops listed := by rw [hB.1]; simp
    have hs := (getD_un (mem_ready.1 him).1).1
    refine wpAnyT_one (C' := fun _ => True) hB.1 hC (fun a' w' _ hk => wpAnyT_tail r _ a' w' (fun t ht => ho t (by simp [ht])) hB.2 (fun hl => by rw [late_true (ho i (by simp)) hs] at hl; cases hl) hk) ?_
    simp only [pick, List.map_cons] at h
    exact h
theorem wpAnyT_act {Q : Act → World → Prop} : ∀ (o2 : List Nat) (listed : Array Bool) (a : Act) (w : World), mixA md ops (o2 ++ o3) listed = true → C w →
    wpAct P ops C (wpAct P ops (fun _ => True) Q (pick ops.toList o3)) (pick ops.toList o2) a w → wpAnyT P md ops C o3 Q (o2.length + o3.length) listed a w
  | [], listed, a, w, hB, hC, h => by
    rw [List.length_nil, Nat.zero_add]
    exact wpAnyT_tail o3 listed a w (fun _ h => h) hB (fun _ => hC) h
  | i :: r, listed, a, w, hB, hC, h => by
    simp only [List.cons_append, mixA, Bool.and_eq_true, beq_iff_eq] at hB
    rw [List.length_cons, Nat.add_right_comm]
    refine wpAnyT_one (C' := C) hB.1 (fun _ => hC) (fun a' w' hC' hk => wpAnyT_act r _ a' w' hB.2 hC' hk) ?_
    simp only [pick, List.map_cons] at h
    exact h
def headB (md : Region.Mode) (ops : Array Oper) (o1 o3 : List Nat) : Bool := o1.all fun i => !o3.contains i && o3.all fun t => anc md ops ops.size i t
theorem wpAnyT_quiet {Q : Act → World → Prop} (hs : Region.noSelect ops = true) (o2 : List Nat) {w : World} (hC : C w) : ∀ (o1 : List Nat) (listed : Array Bool) (a : Act), headB md ops o1 o3 = true → Closed md ops listed → mixQ md ops (o2 ++ o3) o1 listed = true →
    wpQuiet P ops C (fun a' => wpAct P ops C (wpAct P ops (fun _ => True) Q (pick ops.toList o3)) (pick ops.toList o2) a' w) (pick ops.toList o1) a → wpAnyT P md ops C o3 Q (o1.length + (o2.length + o3.length)) listed a w
  | [], listed, a, _, _, hB, h => by
    rw [List.length_nil, Nat.zero_add]
    exact wpAnyT_act o2 listed a w (by simpa [mixQ] using hB) hC h
  | i :: r, listed, a, hh, hcl, hB, h => by
    simp only [mixQ, Bool.and_eq_true] at hB
    obtain ⟨⟨⟨hr, hf⟩, hn⟩, hB'⟩ := hB
    simp only [headB, List.all_cons, Bool.and_eq_true] at hh
    have him : i ∈ Region.ready md ops listed := by simpa using hr
    obtain ⟨_, o, ho, _⟩ := mem_ready.1 him
    have hol : ops.toList.getD i default = o := by rw [List.getD_eq_getElem?_getD, Array.getElem?_toList, ho]; rfl
    simp only [pick, List.map_cons, hol] at h
    have hn' : noCall o.op = true := by simpa [ho] using hn
    obtain ⟨v, hy, hK⟩ := yin_of_qOp (K := wpQuiet P ops C (fun a' => wpAct P ops C (wpAct P ops (fun _ => True) Q (pick ops.toList o3)) (pick ops.toList o2) a' w) (pick ops.toList r)) hn' h
    rw [List.length_cons, Nat.add_right_comm]
    exact wpAnyT_first ho (Region.noSelect_spec hs) (by simpa using hh.1.1) (fun t ht => (List.all_eq_true.1 hh.1.2) t ht) _ listed a w hcl (Region.free_spec ho hf) him hy
      (wpAnyT_quiet hs o2 hC r _ _ (by simpa [headB] using hh.2) (hcl.set him) hB' hK)
def tailB (md : Region.Mode) (ops : Array Oper) (o1 o2 o3 : List Nat) : Bool :=
  Region.noSelect ops && (o1.length + (o2.length + o3.length) == ops.size) && headB md ops o1 o3 && mixQ md ops (o2 ++ o3) o1 (Array.replicate ops.size false)
theorem none_listed (m j : Nat) : (Array.replicate m false).getD j false = false := by
  rcases Nat.lt_or_ge j m with h | h <;> simp [h]
/-- THE REGION: first 'o1' (they look alone, and all that comes in 'o3' waits for each of them), then 'o2', then 'o3' (each the only one that may come up then). -/
theorem wp_region_tail {id : Nat} {Q : Exit → Act → World → Prop} {a : Act} {w : World} {l : List Oper} (C : World → Prop) (o1 o2 o3 : List Nat) (hm : P.follows .mixedOrders = true) (hB : tailB .any l.toArray o1 o2 o3 = true) (hC : C w.drew)
    (h : wpQuiet P l.toArray C (fun a' => wpAct P l.toArray C (wpAct P l.toArray (fun _ => True) (fun a'' w'' => Q .normal a'' w'') (pick l o3)) (pick l o2) a' w.drew) (pick l o1) a) : (Code.region id l.toArray true).wp P Q a w := by
  simp only [tailB, Bool.and_eq_true, beq_iff_eq] at hB
  obtain ⟨⟨⟨hs, hlen⟩, hh⟩, hB⟩ := hB
  refine wp_region_any hm ?_
  have h1 := wpAnyT_quiet (Q := fun a'' w'' => Q .normal a'' w'') (md := .any) (w := w.drew) hs o2 hC o1 (Array.replicate l.toArray.size false) a hh (fun j oj _ hl => by rw [none_listed] at hl; cases hl) hB (by simpa using h)
  rw [hlen] at h1
  exact wpAny_of_T (fun a w hq => hq) _ _ _ _ h1
/-- .. where memory grows alone ahead of the tail -/
theorem wp_region_tailg {id : Nat} {Q : Exit → Act → World → Prop} {a : Act} {w : World} {l : List Oper} (o1 o2 o3 : List Nat) (hm : P.follows .mixedOrders = true) (hB : tailB .any l.toArray o1 o2 o3 = true)
    (h : wpQuiet P l.toArray (fun w' => ∃ x, w' = ext w x) (fun a' => wpAct P l.toArray (fun w' => ∃ x, w' = ext w x) (wpAct P l.toArray (fun _ => True) (fun a'' w'' => Q .normal a'' w'') (pick l o3)) (pick l o2) a' w.drew) (pick l o1) a) : (Code.region id l.toArray true).wp P Q a w :=
  wp_region_tail (C := fun w' => ∃ x, w' = ext w x) o1 o2 o3 hm hB (ex_ext (below_drewN w 1)) h
end
end Go.Cm

/- The walks of the program's codes of lengths. Conditions: the argument reads as a list. -/
namespace Go.Cm
open Go.RowKit Go.Proofs

def z16 : Array Value := (ints (List.replicate 16 0)).toArray
theorem zero_16 (W : World) : (zeroValue 133).run Tryz.prog W = .ok (.agg z16) W := by kernel_rfl
theorem z16_list : z16.toList = ints (nls (List.replicate 16 0)) := rfl
def cntsN (L : List Nat) : List Nat := (List.range 16).map fun n => L.count n
theorem cntsN_getD (L : List Nat) (n : Nat) (h : n < 16) : (cntsN L).getD n 0 = L.count n := by
  simp [cntsN, List.getD, h]
theorem box16 (w : World) (A : Array Value) (hA : A = z16) : BoxA (w.alloc (.cells A 133)) 133 16 w.heap.size (nls (List.replicate 16 0)) := by
  subst hA
  exact boxA_new w 133 z16 (nls (List.replicate 16 0)) z16_list (by decide)
/-- what 'counts' answers -/
def RetCounts (l : List Int) (w : World) (e : Ending) (w' : World) : Prop :=
  ∃ c : List Nat, c.length = 16 ∧ e = .returned (.tuple #[.agg (ints (nls c)).toArray, .int .i64 (wrongI l : Nat)]) ∧ (wrongI l = 0 → c = cntsN (l.map Int.toNat)) ∧ Below w.heap.size w w'
theorem store_box {P : Program} {ops : Array Oper} {rest : List Oper} {o : Oper} {a : Act} {w : World} {Q : Exit → Act → World → Prop} (hgd : o.guard = none) (T n : Nat) (x y : Operand) (ho : o.op = .store T x y)
    (g : Nat) (hx : a.eval x = .pointer (some ⟨g, 0, none⟩)) (cl c2 : List Int) (hy : a.eval y = .agg (ints c2).toArray) (h2 : c2.length = n) (hi : (P.info? T).map (·.size) = some n) (hown : BoxA w T n g cl)
    (h : ∀ w', BoxA w' T n g c2 → w.grownBy w' (some g) → wpList P ops Q rest (a.put o.dst undef) w') : wpList P ops Q (o :: rest) a w := by
  have hs : (ints c2).toArray.size = n := by simp [h2]
  have hl : (ints cl).length = n := by rw [ints_length, hown.len]
  refine wpList_store_agg hgd T x y ho g T g n n hx (ints c2).toArray hy (by rw [hs]; exact hi) (ints cl) hown.own (by omega) (fun u hu => ?_) fun w' hw hg => h w' ⟨?_, h2⟩ hg
  · simp only [ints, List.mem_map] at hu
    obtain ⟨z, -, rfl⟩ := hu; rfl
  · rw [List.drop_of_length_le (by omega), List.append_nil] at hw
    exact hw
theorem cnt_step {l : List Int} {k : Nat} (hk : k < l.length) {y : Nat} (hy : l.getD k 0 = (y : Int)) {c : List Nat} (hl : c.length = 16) (hy15 : y < 16) (hc : ∀ n, n < 16 → c.getD n 0 = ((l.take k).map Int.toNat).count n) :
    ∀ n, n < 16 → (c.set y (c.getD y 0 + 1)).getD n 0 = ((l.take (k + 1)).map Int.toNat).count n := by
  intro n hn
  rw [take_succ_getD l k 0 hk, List.map_append, List.count_append, hy]
  simp only [List.map_cons, List.map_nil, Int.toNat_natCast, List.count_singleton]
  by_cases h : y = n
  · subst h
    rw [getD_set_self' (by omega), hc _ hn, if_pos (beq_self_eq_true _)]
  · rw [getD_set_ne' h, hc _ hn, if_neg (by simpa using h)]; rfl
theorem cnts_end {l : List Int} {c : List Nat} (hl : c.length = 16) (hc : ∀ n, n < 16 → c.getD n 0 = (l.map Int.toNat).count n) : c = cntsN (l.map Int.toNat) := by
  refine List.ext_getElem (by simp [hl, cntsN]) fun n h1 h2 => ?_
  have := hc n (by omega)
  simp only [cntsN, List.getElem_map, List.getElem_range]
  rw [← this]
  simp [List.getD, h1]
set_option maxRecDepth 100000 in
theorem countsP (v : Value) (l : List Int) (w : World) (h : IntsAt w v l) : Calls Tryz.prog 88 #[v] w (RetCounts l w) := by
  obtain ⟨oa, cap, b, off, rfl, hd, hc⟩ := h.open
  have hix := index_any (P := Tryz.prog) 35 3 Tryz.underlying35 (by kernel_rfl) hd
  have hm := hd.len
  have hbk := hd.hblk
  have HC := Lib.hid hc; clear hc h hd
  have hz := zero_16
  obtain ⟨Z, hZ⟩ : ∃ Z, Z = z16 := ⟨_, rfl⟩
  rw [← hZ] at hz
  obtain ⟨O, hO⟩ : ∃ O, O = List.replicate 16 0 := ⟨_, rfl⟩
  have hb1 := box16 w Z hZ
  have hb2 := box16 (w.alloc (.cells Z 133)) Z hZ
  rw [show (w.alloc (.cells Z 133)).heap.size = w.heap.size + 1 by simp] at hb2
  rw [← hO] at hb1 hb2
  have HB2 := Lib.hid hb2
  have HB3 : Hid (BoxA ((w.alloc (.cells Z 133)).alloc (.cells Z 133)) 133 16 w.heap.size (nls O)) := Lib.hid (hb1.up (below_alloc _ _))
  have HBL : Hid (Below w.heap.size w ((w.alloc (.cells Z 133)).alloc (.cells Z 133))) := Lib.hid (by repeat (first | exact Below.refl _ _ | assumption | refine b_drewN ?_ _ | refine Below.drew ?_ | refine b_ext' ?_ _ | refine b_alloc' ?_ _))
  have HOL : Hid (O.length = 16) := Lib.hid (by rw [hO]; simp)
  have HOC : Hid (∀ n, n < 16 → O.getD n 0 = ((l.take 0).map Int.toNat).count n) := Lib.hid (fun n hn => by rw [hO, List.getD_eq_getElem?_getD, List.getElem?_replicate, if_pos hn]; simp)
  clear hZ hb1 hb2 hO
  by_cases hbig : 320 < l.length
  · have hb : (l.length : Int) > 320 := by omega
    have HE := Lib.hid (wrongI_big hbig)
    obtain ⟨A, hgA, hsA, hA⟩ := HB2.out.open
    have HA := Lib.hid (congrArg List.toArray hA)
    clear hA
    go_enter Tryz.func88, Tryz.ntmps88
    go_wp2_with (first | (refine load_box rfl 133 16 _ rfl (w.heap.size + 1) rfl A hsA hgA _ Tryz.underlying133 rfl (by kernel_rfl) ?_) | (refine store_box rfl 133 16 _ _ rfl w.heap.size rfl (nls O) (nls O) (congrArg Value.agg HA.out) (by rw [nls_length]; exact HOL.out) (by kernel_rfl) HB3.out ?_; intro w2 hB2 hg2; have HB4 := Lib.hid hB2; have HG2 := Lib.hid hg2; clear hB2 hg2))
    refine ret_cell_tmp (s := 2) (b := 3) (ad := ⟨w.heap.size, 0, none⟩) (x := .agg (ints (nls O)).toArray) (y := .int .i64 3) rfl rfl rfl rfl (HB4.out.load _ Tryz.underlying133 rfl (by kernel_rfl)) ?_
    refine ⟨O, HOL.out, by rw [HE.out]; rfl, fun h0 => (by rw [HE.out] at h0; cases h0), ?_⟩
    exact HBL.out.grown HG2.out HBL.out.size (fun k hk => by cases hk; exact Nat.le_refl _)
  · have hb : ¬ (l.length : Int) > 320 := by omega
    go_enter Tryz.func88, Tryz.ntmps88
    go_wp2
    go_loopg [13] (l.length + 1) (fun gk i wr => ∃ (k : Nat) (c : List Nat), k ≤ l.length ∧ i = .int .i64 k ∧ Hid (c.length = 16) ∧ BoxA wr 133 16 (w.heap.size + 1) (nls c) ∧ BoxA wr 133 16 w.heap.size (nls O) ∧ Hid (∀ q, q < k → 0 ≤ l.getD q 0 ∧ l.getD q 0 ≤ 15) ∧ Hid (∀ n, n < 16 → c.getD n 0 = ((l.take k).map Int.toNat).count n) ∧ Below w.heap.size w wr ∧ gk = l.length + 1 - k)
    case atStart => exact ⟨0, O, Nat.zero_le _, rfl, HOL, HB2.out, HB3.out, Lib.hid (fun j hj => absurd hj (Nat.not_lt_zero j)), HOC, HBL.out, rfl⟩
    case round =>
      clear HB2 HB3 HBL HOC
      obtain ⟨k, c, hk, rfl, HCL, hb2, hb3, HALL, HCN, hbel, rfl⟩ := hrel
      have HB2 := Lib.hid hb2
      have HB3 := Lib.hid hb3
      have HBL := Lib.hid hbel
      have hsz := hbel.size
      clear hb2 hb3 hbel
      by_cases hlt : k < l.length
      · have hbb := hbk (by omega)
        have hcell := (HBL.out.cell (p := ⟨b, off + k, none⟩) hbb).trans (HC.out k hlt)
        have HW : Hid ((0 ≤ l.getD k 0 ∧ l.getD k 0 ≤ 15) → ∀ q, q < k + 1 → 0 ≤ l.getD q 0 ∧ l.getD q 0 ≤ 15) := Lib.hid (fun h q hq => by
          rcases Nat.lt_succ_iff_lt_or_eq.1 hq with h1 | rfl
          · exact HALL.out q h1
          · exact h)
        have HF : Hid (¬ (0 ≤ l.getD k 0 ∧ l.getD k 0 ≤ 15) → wrongI l = 1) := Lib.hid (wrongI_bad hbig hlt)
        have HST : Hid (∀ y : Nat, l.getD k 0 = (y : Int) → y < 16 → ∀ n, n < 16 → (c.set y (c.getD y 0 + 1)).getD n 0 = ((l.take (k + 1)).map Int.toNat).count n) := Lib.hid (fun y hy hy15 => cnt_step hlt hy HCL.out hy15 HCN.out)
        have HCB : Hid (∀ n, n < 16 → c.getD n 0 ≤ 320) := Lib.hid (fun n hn => by
          rw [HCN.out n hn]
          have := List.count_le_length (a := n) (l := (l.take k).map Int.toNat)
          simp only [List.length_map, List.length_take] at this
          omega)
        have hbb2 : b < wr.heap.size := by omega
        generalize l.getD k 0 = y at *
        by_cases hok : 0 ≤ y ∧ y ≤ 15
        · obtain ⟨h0, h1⟩ := hok
          obtain ⟨n, rfl⟩ : ∃ n : Nat, y = (n : Int) := ⟨y.toNat, by omega⟩
          have hn : n < 16 := by omega
          have hcn := HB2.out.cell hn
          rw [nls_getD] at hcn
          have hcb := HCB.out n hn
          have hfn := HB2.out.free n
          have hbg := HB2.out.lt
          have hset := HB2.out.set n ((c.getD n 0 : Nat) + 1)
          have HST2 := Lib.hid (HST.out n rfl hn)
          have HSET := Lib.hid hset
          clear hset
          have hns : nls c = nls c := rfl
          have HNS : Hid ((nls c).set n (((c.getD n 0 : Nat) : Int) + 1) = nls (c.set n (c.getD n 0 + 1))) := Lib.hid (by rw [← nls_set]; norm_cast)
          generalize c.getD n 0 = m at *
          go_wp2
          go_roundg (l.length - k)
          case measure => omega
          case rel =>
            refine ⟨k + 1, c.set n (m + 1), by omega, by go_num, Lib.hid (by rw [List.length_set]; exact HCL.out), ?_, ?_, Lib.hid (HW.out ⟨h0, h1⟩), Lib.hid HST2.out, ?_, by omega⟩
            · have := HSET.out.1
              rw [HNS.out] at this
              exact this
            · exact HB3.out.keep HSET.out.2 (by simp)
            · exact HBL.out.grown HSET.out.2 (by omega) (fun k hk => by cases hk; omega)
        · have HE := HF.out hok
          have HE2 := Lib.hid HE
          clear HE
          obtain ⟨A, hgA, hsA, hA⟩ := HB2.out.open
          have HA := Lib.hid (congrArg List.toArray hA)
          clear hA
          by_cases h0 : y < 0
          · go_wp2_with (first | (refine load_box rfl 133 16 _ rfl (w.heap.size + 1) rfl A hsA hgA _ Tryz.underlying133 rfl (by kernel_rfl) ?_) | (refine store_box rfl 133 16 _ _ rfl w.heap.size rfl (nls O) (nls c) (congrArg Value.agg HA.out) (by rw [nls_length]; exact HCL.out) (by kernel_rfl) HB3.out ?_; intro w2 hB2 hg2; have HB4 := Lib.hid hB2; have HG2 := Lib.hid hg2; clear hB2 hg2))
            refine ret_cell_tmp (s := 2) (b := 3) (ad := ⟨w.heap.size, 0, none⟩) (x := .agg (ints (nls c)).toArray) (y := .int .i64 1) rfl rfl rfl rfl (HB4.out.load _ Tryz.underlying133 rfl (by kernel_rfl)) ?_
            refine ⟨c, HCL.out, by rw [HE2.out]; rfl, fun h0 => (by rw [HE2.out] at h0; cases h0), ?_⟩
            exact HBL.out.grown HG2.out (by omega) (fun k hk => by cases hk; exact Nat.le_refl _)
          · have h1 : y > 15 := by omega
            go_wp2_with (first | (refine load_box rfl 133 16 _ rfl (w.heap.size + 1) rfl A hsA hgA _ Tryz.underlying133 rfl (by kernel_rfl) ?_) | (refine store_box rfl 133 16 _ _ rfl w.heap.size rfl (nls O) (nls c) (congrArg Value.agg HA.out) (by rw [nls_length]; exact HCL.out) (by kernel_rfl) HB3.out ?_; intro w2 hB2 hg2; have HB4 := Lib.hid hB2; have HG2 := Lib.hid hg2; clear hB2 hg2))
            refine ret_cell_tmp (s := 2) (b := 3) (ad := ⟨w.heap.size, 0, none⟩) (x := .agg (ints (nls c)).toArray) (y := .int .i64 1) rfl rfl rfl rfl (HB4.out.load _ Tryz.underlying133 rfl (by kernel_rfl)) ?_
            refine ⟨c, HCL.out, by rw [HE2.out]; rfl, fun h0 => (by rw [HE2.out] at h0; cases h0), ?_⟩
            exact HBL.out.grown HG2.out (by omega) (fun k hk => by cases hk; exact Nat.le_refl _)
      · obtain rfl : k = l.length := by omega
        have HE := Lib.hid (wrongI_ok hbig HALL.out)
        have hcn := HCN.out
        rw [List.take_length] at hcn
        have HCE := Lib.hid (cnts_end HCL.out hcn)
        clear hcn
        obtain ⟨A, hgA, hsA, hA⟩ := HB2.out.open
        have HA := Lib.hid (congrArg List.toArray hA)
        clear hA
        go_wp2_with (first | (refine load_box rfl 133 16 _ rfl (w.heap.size + 1) rfl A hsA hgA _ Tryz.underlying133 rfl (by kernel_rfl) ?_) | (refine store_box rfl 133 16 _ _ rfl w.heap.size rfl (nls O) (nls c) (congrArg Value.agg HA.out) (by rw [nls_length]; exact HCL.out) (by kernel_rfl) HB3.out ?_; intro w2 hB2 hg2; have HB4 := Lib.hid hB2; have HG2 := Lib.hid hg2; clear hB2 hg2))
        refine ret_cell_tmp (s := 2) (b := 3) (ad := ⟨w.heap.size, 0, none⟩) (x := .agg (ints (nls c)).toArray) (y := .int .i64 0) rfl rfl rfl rfl (HB4.out.load _ Tryz.underlying133 rfl (by kernel_rfl)) ?_
        refine ⟨c, HCL.out, by rw [HE.out]; rfl, fun _ => HCE.out, ?_⟩
        exact HBL.out.grown HG2.out (by omega) (fun k hk => by cases hk; exact Nat.le_refl _)
theorem totN_step_le (L : List Nat) (hl : L.length ≤ 320) (k : Nat) (hk : k < 15) : totN L k + L.count (k + 1) * 2 ^ (14 - k) ≤ 10485760 := by
  have := totN_le L (k + 1) (by omega)
  have h2 : L.length * 32768 ≤ 320 * 32768 := Nat.mul_le_mul_right _ hl
  exact Nat.le_trans this h2
set_option maxRecDepth 100000 in
theorem totalP (L : List Nat) (hl : L.length ≤ 320) (w : World) : Calls Tryz.prog 89 #[.agg (ints (nls (cntsN L))).toArray] w fun e w' => e = .returned (.int .i64 (totN L 15 : Nat)) ∧ ∃ x, w' = ext w x := by
  have hlc : (nls (cntsN L)).length = 16 := by simp [nls, cntsN]
  have hb := boxA_new w 133 (ints (nls (cntsN L))).toArray (nls (cntsN L)) rfl (by omega)
  rw [hlc] at hb
  have HGT : Hid (∀ n, n < 16 → (nls (cntsN L)).getD n 0 = (L.count n : Nat)) := Lib.hid (fun n hn => by rw [nls_getD, cntsN_getD L n hn])
  obtain ⟨C, hC⟩ : ∃ C, C = nls (cntsN L) := ⟨_, rfl⟩
  rw [← hC] at hb HGT ⊢
  clear hC hlc
  have HB := Lib.hid hb
  clear hb
  go_enter Tryz.func89, Tryz.ntmps89
  go_wp2
  go_loop [3, 5] (fun n i => ∃ k : Nat, k ≤ 15 ∧ i = .int .i64 k ∧ n = .int .i64 (totN L k : Nat)) (fun _ i => 15 - (intOf i).toNat)
  case atStart => exact ⟨0, Nat.zero_le _, rfl, rfl⟩
  case round =>
    obtain ⟨k, hk, rfl, rfl⟩ := hrel
    by_cases hlt : k < 15
    · have hcell := HB.out.cell (c := k + 1) (by omega)
      rw [HGT.out (k + 1) (by omega)] at hcell
      have hlt2 := HB.out.lt
      have hst := totN_step_le L hl k hlt
      have HS : Hid (totN L (k + 1) = totN L k + L.count (k + 1) * 2 ^ (14 - k)) := Lib.hid rfl
      have hcb := List.count_le_length (a := k + 1) (l := L)
      have e1 : (15 : Int) - (k : Int) - 1 = ((14 - k : Nat) : Int) := by omega
      have hk2 : 14 - k ≤ 14 := by omega
      generalize hm : 14 - k = m at *
      have HST := Lib.hid hst
      generalize totN L k = s at *
      generalize L.count (k + 1) = c at *
      have HPW : Hid (2 ^ m ≤ 16384) := Lib.hid (Nat.le_trans (Nat.pow_le_pow_right (by decide) hk2) (by decide))
      clear hst
      have hs1 : s ≤ 10485760 := by have := HST.out; omega
      have hn0 : (0 : Int) ≤ (k : Int) + 1 := by omega
      go_wp2
      go_round
      case rel =>
        refine ⟨k + 1, by omega, by go_num, ?_⟩
        have h1 := HST.out
        have h2 : ((c : Int) * (2 : Int) ^ m) = ((c * 2 ^ m : Nat) : Int) := by norm_cast
        rw [HS.out, h2]
        generalize c * 2 ^ m = q at *
        rw [IntWalk.wrap64_in (q : Int) ⟨by omega, by omega⟩, IntWalk.wrap64_in _ ⟨by omega, by omega⟩]
        norm_cast
      case measure => simp [intOf]; omega
    · obtain rfl : k = 15 := by omega
      go_wp2
      go_ret
      exact ⟨rfl, (ex_ext (by repeat (first | exact Below.refl _ _ | assumption | refine b_drewN ?_ _ | refine Below.drew ?_ | refine b_ext' ?_ _ | refine b_alloc' ?_ _)))⟩
/-- the first codes up to length k -/
def nextN (L : List Nat) (k : Nat) : List Nat := (List.range 16).map fun j => if j ≤ k then firstN L j else 0
theorem nextN_getD (L : List Nat) (k j : Nat) (h : j < 16) : (nextN L k).getD j 0 = if j ≤ k then firstN L j else 0 := by simp [nextN, List.getD, h]
theorem nextN_zero (L : List Nat) : nextN L 0 = List.replicate 16 0 := by
  rw [List.eq_replicate_iff]
  refine ⟨by simp [nextN], fun x hx => ?_⟩
  obtain ⟨q, -, rfl⟩ := List.mem_map.1 hx
  split
  · rename_i h; rw [show q = 0 by omega]; rfl
  · rfl
theorem nextN_one (L : List Nat) : nextN L 1 = nextN L 0 := by
  unfold nextN
  refine List.map_congr_left fun j _ => ?_
  by_cases h : j ≤ 0
  · rw [if_pos h, if_pos (by omega)]
  · rw [if_neg h]
    split
    · rw [show j = 1 by omega]; rfl
    · rfl
theorem nextN_set (L : List Nat) (k : Nat) (hk : 1 ≤ k) : (nextN L k).set (k + 1) (2 * (firstN L k + L.count k)) = nextN L (k + 1) := by
  refine List.ext_getElem (by simp [nextN]) fun j h1 h2 => ?_
  rw [List.getElem_set]
  simp only [nextN, List.getElem_map, List.getElem_range]
  by_cases h : k + 1 = j
  · subst h
    rw [if_pos rfl, if_pos (Nat.le_refl _), first_succ L k hk]
  · rw [if_neg h]
    by_cases h2 : j ≤ k
    · rw [if_pos h2, if_pos (by omega)]
    · rw [if_neg h2, if_neg (by omega)]
/-- the next code of each length, behind i symbols -/
def nxtN (L : List Nat) (i : Nat) : List Nat := (List.range 16).map fun j => if j = 0 then 0 else firstN L j + (L.take i).count j
theorem nxtN_zero (L : List Nat) : nextN L 15 = nxtN L 0 := by
  unfold nextN nxtN
  refine List.map_congr_left fun j hj => ?_
  have := List.mem_range.1 hj
  rw [if_pos (by omega), List.take_zero, List.count_nil, Nat.add_zero]
  split
  · rename_i h; subst h; rfl
  · rfl
theorem nxtN_getD (L : List Nat) (i j : Nat) (h : j < 16) (h0 : 0 < j) : (nxtN L i).getD j 0 = firstN L j + (L.take i).count j := by
  simp [nxtN, List.getD, h]; omega
theorem nxtN_skip (L : List Nat) (i : Nat) (hi : i < L.length) (h : L.getD i 0 = 0) : nxtN L (i + 1) = nxtN L i := by
  unfold nxtN
  refine List.map_congr_left fun j _ => ?_
  split
  · rfl
  · rw [count_take_succ L i j hi, if_neg (by omega), Nat.add_zero]
theorem nxtN_set (L : List Nat) (i : Nat) (hi : i < L.length) (h : 0 < L.getD i 0) : (nxtN L i).set (L.getD i 0) (firstN L (L.getD i 0) + (L.take i).count (L.getD i 0) + 1) = nxtN L (i + 1) := by
  refine List.ext_getElem (by simp [nxtN]) fun j h1 h2 => ?_
  rw [List.getElem_set]
  simp only [nxtN, List.getElem_map, List.getElem_range]
  by_cases he : L.getD i 0 = j
  · subst he
    rw [if_pos rfl, if_neg (by omega), count_take_succ L i _ hi, if_pos rfl, Nat.add_assoc]
  · rw [if_neg he]
    split
    · rfl
    · rw [count_take_succ L i j hi, if_neg he, Nat.add_zero]
/-- the codes of the symbols below i -/
def outN (L : List Nat) (i : Nat) : List Nat := (List.range L.length).map fun q => if q < i then codeN L q else 0
theorem outN_length (L : List Nat) (i : Nat) : (outN L i).length = L.length := by simp [outN]
theorem outN_zero (L : List Nat) : outN L 0 = List.replicate L.length 0 := by
  rw [List.eq_replicate_iff]
  refine ⟨by simp [outN], fun x hx => ?_⟩
  obtain ⟨q, -, rfl⟩ := List.mem_map.1 hx
  rw [if_neg (by omega)]
theorem outN_all (L : List Nat) : outN L L.length = codesN L := by
  unfold outN codesN
  refine List.map_congr_left fun q hq => ?_
  rw [if_pos (List.mem_range.1 hq)]
theorem outN_set (L : List Nat) (i : Nat) : (outN L i).set i (codeN L i) = outN L (i + 1) := by
  refine List.ext_getElem (by simp [outN]) fun q h1 h2 => ?_
  rw [List.getElem_set]
  simp only [outN, List.getElem_map, List.getElem_range]
  by_cases he : i = q
  · subst he; rw [if_pos rfl, if_pos (by omega)]
  · rw [if_neg he]
    by_cases h3 : q < i
    · rw [if_pos h3, if_pos (by omega)]
    · rw [if_neg h3, if_neg (by omega)]
theorem outN_skip (L : List Nat) (i : Nat) (h : L.getD i 0 = 0) : outN L (i + 1) = outN L i := by
  unfold outN
  refine List.map_congr_left fun q _ => ?_
  by_cases he : q = i
  · subst he; rw [if_pos (by omega), if_neg (by omega)]; unfold codeN; rw [if_pos h]
  · by_cases h3 : q < i
    · rw [if_pos h3, if_pos (by omega)]
    · rw [if_neg h3, if_neg (by omega)]
theorem code_pos (L : List Nat) (i : Nat) (h : 0 < L.getD i 0) : codeN L i = firstN L (L.getD i 0) + (L.take i).count (L.getD i 0) := by
  unfold codeN rankN; rw [if_neg (by omega)]
set_option maxRecDepth 100000 in
set_option maxHeartbeats 1000000 in
theorem codesP (v : Value) (l : List Int) (w : World) (h : IntsAt w v l) : Calls Tryz.prog 63 #[v] w (RetCodes l w) := by
  have HWR : Hid (∀ w', Below w.heap.size w w' → Calls Tryz.prog 88 #[v] w' (RetCounts l w')) := Lib.hid (fun w' hb => countsP v l w' (h.up hb))
  have hz := zero_16
  obtain ⟨Z, hZ⟩ : ∃ Z, Z = z16 := ⟨_, rfl⟩
  rw [← hZ] at hz
  have HZ := Lib.hid hZ
  clear hZ
  by_cases hw0 : wrongI l = 0
  · obtain ⟨hlen, hall⟩ := wrongI_zero hw0
    obtain ⟨L, rfl, h15⟩ := nls_of hall
    rw [nls_length] at hlen
    have he := errI_nls hlen h15
    have HTP := Lib.hid (totalP L hlen)
    have HTA := Lib.hid (totN_all L h15)
    have HCE : Hid (∀ c : List Nat, c.length = 16 → c = cntsN L → ∀ n, n < 16 → (nls c).getD n 0 = (L.count n : Nat)) := Lib.hid (fun c _ hc n hn => by rw [hc, nls_getD, cntsN_getD L n hn])
    unfold RetCounts at HWR
    rw [hw0] at HWR
    obtain ⟨oa, cap, b, off, rfl, hd, hc⟩ := h.open
    rw [nls_length] at hd hc
    unfold RetCodes
    rw [nls_length] at HWR ⊢
    rw [nls_toNat] at HWR ⊢
    have hix := index_any (P := Tryz.prog) 35 3 Tryz.underlying35 (by kernel_rfl) hd
    have hm := hd.len
    have hbk := hd.hblk
    have HC := Lib.hid hc; clear hc h hd hw0 hall
    rw [HTA.out] at HTP
    by_cases hk : 32768 < kraftN L
    · rw [if_pos hk] at he
      have hk2 : (kraftN L : Int) > 32768 := by omega
      clear HTA
      generalize kraftN L = K at *
      go_enter Tryz.func63, Tryz.ntmps63
      go_wp2_with (first | (go_at_call 88; refine (HWR.out _ (by repeat (first | exact Below.refl _ _ | assumption | refine b_drewN ?_ _ | refine Below.drew ?_ | refine b_ext' ?_ _ | refine b_alloc' ?_ _))).mono ?_; rintro e w1 ⟨c, hc1, rfl, hc2, hc3⟩; have HC1 := Lib.hid hc1; have HC2 := Lib.hid hc2; have HC3 := Lib.hid hc3; clear hc1 hc2 hc3) | (refine store_box rfl 133 16 _ _ rfl w1.heap.size rfl (nls (List.replicate 16 0)) (nls c) rfl (by rw [nls_length]; exact HC1.out) (by kernel_rfl) (box16 w1 Z HZ.out) ?_; intro w2 hb2 hg2; (obtain ⟨A, hgA, hsA, hA⟩ := hb2.open; have HAE := Lib.hid (congrArg List.toArray hA); have HB2 := Lib.hid hb2; have HG2 := Lib.hid hg2; have HT2 := Lib.hid (HTP.out); rw [← HC2.out (by trivial), ← HAE.out] at HT2; clear hb2 hg2 hA)) | (refine load_box rfl 133 16 _ rfl w1.heap.size rfl A hsA hgA _ Tryz.underlying133 rfl (by kernel_rfl) ?_) | (go_at_call 89; refine (HT2.out _).mono ?_; rintro e w3 ⟨rfl, y, rfl⟩))
      go_ret2
      have hb2 : Below w.heap.size w w2 := (HC3.out.trans ((below_alloc w1 _).mono HC3.out.size)).grown HG2.out (Nat.le_trans HC3.out.size (by simp)) (fun k hk => by cases hk; exact HC3.out.size)
      exact ⟨.slice none 0 0, rfl, Own.nil _ _ _, (by repeat (first | exact Below.refl _ _ | assumption | refine b_drewN ?_ _ | refine Below.drew ?_ | refine b_ext' ?_ _ | refine b_alloc' ?_ _))⟩
    · rw [if_neg hk] at he
      have hk2 : ¬ (kraftN L : Int) > 32768 := by omega
      have HK : Hid (kraftN L ≤ 32768) := Lib.hid (by omega)
      have HFU := Lib.hid (full_le h15 HK.out)
      have HFL := Lib.hid (first_le h15 HK.out)
      have H15 : Hid (∀ i, i < L.length → L.getD i 0 ≤ 15) := Lib.hid (fun i hi => h15 _ (getD_mem L i 0 hi))
      rw [he]
      clear h15 he HTA
      generalize kraftN L = K at *
      have hmk := run_mk (P := Tryz.prog) 35 3 (.int .i64 0) 8 L.length Tryz.underlying35 (by kernel_rfl) rfl (by decide) (by omega)
      go_enter Tryz.func63, Tryz.ntmps63
      go_wp2_with (first | (go_at_call 88; refine (HWR.out _ (by repeat (first | exact Below.refl _ _ | assumption | refine b_drewN ?_ _ | refine Below.drew ?_ | refine b_ext' ?_ _ | refine b_alloc' ?_ _))).mono ?_; rintro e w1 ⟨c, hc1, rfl, hc2, hc3⟩; have HC1 := Lib.hid hc1; have HC2 := Lib.hid hc2; have HC3 := Lib.hid hc3; clear hc1 hc2 hc3) | (refine store_box rfl 133 16 _ _ rfl w1.heap.size rfl (nls (List.replicate 16 0)) (nls c) rfl (by rw [nls_length]; exact HC1.out) (by kernel_rfl) (box16 w1 Z HZ.out) ?_; intro w2 hb2 hg2; (obtain ⟨A, hgA, hsA, hA⟩ := hb2.open; have HAE := Lib.hid (congrArg List.toArray hA); have HB2 := Lib.hid hb2; have HG2 := Lib.hid hg2; have HT2 := Lib.hid (HTP.out); rw [← HC2.out (by trivial), ← HAE.out] at HT2; clear hb2 hg2 hA)) | (refine load_box rfl 133 16 _ rfl w1.heap.size rfl A hsA hgA _ Tryz.underlying133 rfl (by kernel_rfl) ?_) | (go_at_call 89; refine (HT2.out _).mono ?_; rintro e w3 ⟨rfl, y, rfl⟩))
      have hb2 : Below w.heap.size w w2 := (HC3.out.trans ((below_alloc w1 _).mono HC3.out.size)).grown HG2.out (Nat.le_trans HC3.out.size (by simp)) (fun k hk => by cases hk; exact HC3.out.size)
      have hb3 : Below w.heap.size w ((ext w2 y).alloc (.cells Z 133)) := (by repeat (first | exact Below.refl _ _ | assumption | refine b_drewN ?_ _ | refine Below.drew ?_ | refine b_ext' ?_ _ | refine b_alloc' ?_ _))
      have hn0 := box16 (ext w2 y) Z HZ.out
      rw [← nextN_zero L] at hn0
      have hc0 := (HB2.out.up (ext_below w2 y)).up (below_alloc (ext w2 y) (.cells Z 133))
      have hgc : w.heap.size ≤ w1.heap.size := HC3.out.size
      have hgn : w.heap.size ≤ (ext w2 y).heap.size := Nat.le_trans hb2.size (size_ext _ _)
      have hne : w1.heap.size ≠ (ext w2 y).heap.size := by have := HB2.out.lt; have := size_ext w2 y; omega
      have HN := Lib.hid hn0
      have HCC := Lib.hid hc0
      have HBL := Lib.hid hb3
      have HCE2 := Lib.hid (HCE.out c HC1.out (HC2.out (by trivial)))
      clear hb2 hb3 hn0 hc0 HB2 HG2 HC3 HT2 HAE hgA hsA HWR HTP HC1 HC2
      generalize (ext w2 y).alloc (.cells Z 133) = w4 at *
      generalize (ext w2 y).heap.size = gn at *
      generalize w1.heap.size = gc at *
      generalize nls c = C at *
      go_loopg [24] 15 (fun gk i wr => ∃ k : Nat, k ≤ 15 ∧ i = .int .i64 k ∧ BoxA wr 133 16 gn (nls (nextN L k)) ∧ BoxA wr 133 16 gc C ∧ Below w.heap.size w wr ∧ gk = 15 - k)
      case atStart => exact ⟨0, Nat.zero_le _, rfl, HN.out, HCC.out, HBL.out, rfl⟩
      case round =>
        clear HN HCC HBL
        obtain ⟨k, hk, rfl, hn0, hc0, hb0, rfl⟩ := hrel
        have HN := Lib.hid hn0
        have HCC := Lib.hid hc0
        have HBL := Lib.hid hb0
        have hszb := hb0.size
        clear hn0 hc0 hb0
        by_cases hlt : k < 15
        · by_cases h1 : 1 ≤ k
          · have hkp : (k : Int) > 0 := by omega
            have hcn := HN.out.cell (c := k) (by omega)
            rw [nls_getD, nextN_getD L k k (by omega), if_pos (Nat.le_refl _)] at hcn
            have hcc := HCC.out.cell (c := k) (by omega)
            rw [HCE2.out k (by omega)] at hcc
            have hfn := HN.out.free (k + 1)
            have hcn2 := HN.out.cell (c := k + 1) (by omega)
            generalize (nls (nextN L k)).getD (k + 1) 0 = z at *
            have hln := HN.out.lt
            have hlc := HCC.out.lt
            have HSET := Lib.hid (nextN_set L k h1)
            have hful : firstN L k + L.count k ≤ 32768 := Nat.le_trans (HFU.out k h1 (by omega)) (Nat.le_trans (Nat.pow_le_pow_right (by decide) (show k ≤ 15 by omega)) (by decide))
            have hst := HN.out.set (k + 1) (2 * (firstN L k + L.count k) : Nat)
            rw [nls_set, HSET.out] at hst
            have HST := Lib.hid hst
            clear hst
            generalize firstN L k = f at *
            generalize L.count k = m at *
            have e2 : ((2 * (f + m) : Nat) : Int) = ((f : Int) + (m : Int)) * 2 := by omega
            rw [e2] at HST
            clear e2
            go_wp2
            refine wp_region_tailg [0,1,2,3,4,5,6,7,8,9,10] [] [11] (by kernel_rfl) (by kernel_rfl) ?_
            simp only [pick, List.map_cons, List.map_nil, List.getD_cons_zero, List.getD_cons_succ]
            repeat (go_big_quiet_step (fail))
            refine wpQuiet_nil ?_
            unfold wpAct
            unfold wpAct
            go_wp2
            refine ⟨trivial, ?_⟩
            unfold wpAct
            go_wp2
            go_roundg (15 - (k + 1))
            case measure => omega
            case rel =>
              refine ⟨k + 1, by omega, by go_num, ?_, ?_, ?_, rfl⟩
              · have h5 := HST.out.1.up (below_drewN _ 1)
                rw [← World.drew_is_drewN] at h5
                exact h5
              · have h5 := (HCC.out.keep HST.out.2 (by simp; omega)).up (below_drewN _ 1)
                rw [← World.drew_is_drewN] at h5
                exact h5
              · have h5 := (HBL.out.grown HST.out.2 (by omega) (fun k hk => by cases hk; exact hgn)).trans ((below_drewN _ 1).mono (by have := HST.out.2.size; omega))
                rw [← World.drew_is_drewN] at h5
                exact h5
          · obtain rfl : k = 0 := by omega
            have HN1 := Lib.hid (nextN_one L)
            go_wp2
            go_roundg (15 - 1)
            case measure => omega
            case rel =>
              refine ⟨1, by omega, by go_num, ?_, HCC.out, HBL.out, rfl⟩
              rw [HN1.out]; exact HN.out
        · obtain rfl : k = 15 := by omega
          rw [nxtN_zero] at HN
          have hgw := HN.out.lt
          have hown := own_made wr w.heap.size 3 (.int .i64 0) L.length HBL.out.size (by omega)
          have e : ints (nls (outN L 0)) = List.replicate L.length (Value.int .i64 0) := by rw [outN_zero]; simp [ints, nls]
          rw [← e] at hown
          have HO := Lib.hid hown
          have HN5 := Lib.hid (HN.out.up (below_alloc wr (.cells (madeCells #[Value.int .i64 0] L.length) 3)))
          have HBL5 := Lib.hid (HBL.out.alloc HBL.out.size (.cells (madeCells #[Value.int .i64 0] L.length) 3))
          have hnew : gn ≠ wr.heap.size := by omega
          clear hown e hgw HN HCC HBL
          go_wp2
          generalize wr.alloc (.cells (madeCells #[Value.int .i64 0] L.length) 3) = w5 at *
          generalize wr.heap.size = g8 at *
          go_loopg [46] L.length (fun gk i wr => ∃ k : Nat, k ≤ L.length ∧ i = .int .i64 k ∧ BoxA wr 133 16 gn (nls (nxtN L k)) ∧ Own wr w.heap.size 3 (.slice (some ⟨g8, 0, none⟩) L.length L.length) (ints (nls (outN L k))) ∧ Below w.heap.size w wr ∧ gk = L.length - k)
          case atStart => exact ⟨0, Nat.zero_le _, rfl, HN5.out, HO.out, HBL5.out, rfl⟩
          case round =>
            clear HN5 HO HBL5
            obtain ⟨i, hi, rfl, hn0, ho0, hb0, rfl⟩ := hrel
            have HN := Lib.hid hn0
            have HO := Lib.hid ho0
            have HBL := Lib.hid hb0
            have hszb := hb0.size
            clear hn0 ho0 hb0
            by_cases hlt : i < L.length
            · have hbb := hbk (by omega)
              have hcell := (HBL.out.cell (p := ⟨b, off + i, none⟩) hbb).trans (HC.out i hlt)
              rw [nls_getD] at hcell
              have hbb2 : b < wr.heap.size := by omega
              have hx15 := H15.out i hlt
              have HSK := Lib.hid (nxtN_skip L i hlt)
              have HOSK := Lib.hid (outN_skip L i)
              have HSET := Lib.hid (nxtN_set L i hlt)
              have HGD := Lib.hid (nxtN_getD L i (L.getD i 0) (by omega))
              have HCP := Lib.hid (code_pos L i)
              have HOS := Lib.hid (outN_set L i)
              have HFX := Lib.hid (fun h => HFU.out (L.getD i 0) h hx15)
              have HLE : Hid ((L.take i).count (L.getD i 0) ≤ L.count (L.getD i 0)) := Lib.hid (List.Sublist.count_le _ (List.take_sublist _ _))
              generalize L.getD i 0 = x at *
              by_cases hx0 : 0 < x
              · have hxp : (x : Int) > 0 := by omega
                have hcn := HN.out.cell (c := x) (by omega)
                rw [nls_getD, HGD.out hx0] at hcn
                have hfn := HN.out.free x
                have hln := HN.out.lt
                have h2x : 2 ^ x ≤ 32768 := Nat.le_trans (Nat.pow_le_pow_right (by decide) (show x ≤ 15 by omega)) (by decide)
                have hcb : firstN L x + (L.take i).count x ≤ 32768 := by have := HFX.out hx0; have := HLE.out; omega
                have hS := HSET.out hx0
                have hO := HOS.out
                rw [HCP.out hx0] at hO
                generalize firstN L x + (L.take i).count x = c at *
                have hoc := HO.out.cell (i := i) (by rw [ints_length, nls_length, outN_length]; exact hlt)
                rw [ints_getD _ _ (by rw [nls_length, outN_length]; exact hlt)] at hoc
                have hof := HO.out.free i
                have hob := HO.out.blk
                generalize (nls (outN L i)).getD i 0 = z at *
                have hst1 := HO.out.store i (.int .i64 (c : Nat))
                rw [ints_set', nls_set, hO] at hst1
                have hn1 := HN.out.keep hst1.2 (by simp; omega)
                have hst2 := hn1.set x ((c + 1 : Nat) : Int)
                rw [nls_set, hS] at hst2
                have HST1 := Lib.hid hst1
                have HST2 := Lib.hid hst2
                have hi2 : i < 4294967296 := by omega
                clear hS hO hst1 hst2 hn1 h2x
                go_wp2
                go_roundg (L.length - (i + 1))
                case measure => omega
                case rel =>
                  refine ⟨i + 1, by omega, by go_num, HST2.out.1, HST1.out.1.keep HST2.out.2 (.inr (by simp [Value.ownBlock]; omega)), ?_, rfl⟩
                  have h5 := HBL.out.grown HST1.out.2 (by omega) (fun k hk => by cases hk; exact hob.1)
                  exact h5.grown HST2.out.2 h5.size (fun k hk => by cases hk; exact hgn)
              · obtain rfl : x = 0 := by omega
                go_wp2
                go_roundg (L.length - (i + 1))
                case measure => omega
                case rel =>
                  refine ⟨i + 1, by omega, by go_num, ?_, ?_, HBL.out, rfl⟩
                  · rw [HSK.out (by trivial)]; exact HN.out
                  · rw [HOSK.out (by trivial)]; exact HO.out
            · obtain rfl : i = L.length := by omega
              have HOA := Lib.hid (outN_all L)
              go_wp2
              go_ret2
              refine ⟨.slice (some ⟨g8, 0, none⟩) L.length L.length, rfl, ?_, HBL.out⟩
              rw [← HOA.out]
              exact HO.out
  · have he := errI_of_wrong hw0
    have hne : ¬ (wrongI l : Int) = 0 := by omega
    have hne2 : ¬ errI l = 0 := by omega
    unfold RetCodes
    rw [if_neg hne2, he]
    clear h he hne2
    unfold RetCounts at HWR
    generalize wrongI l = n at *
    go_enter Tryz.func63, Tryz.ntmps63
    go_wp2_with (first | (go_at_call 88; refine (HWR.out _ (by repeat (first | exact Below.refl _ _ | assumption | refine b_drewN ?_ _ | refine Below.drew ?_ | refine b_ext' ?_ _ | refine b_alloc' ?_ _))).mono ?_; rintro e w1 ⟨c, hc1, rfl, hc2, hc3⟩; have HC1 := Lib.hid hc1; have HC2 := Lib.hid hc2; have HC3 := Lib.hid hc3; clear hc1 hc2 hc3) | (refine store_box rfl 133 16 _ _ rfl w1.heap.size rfl (nls (List.replicate 16 0)) (nls c) rfl (by rw [nls_length]; exact HC1.out) (by kernel_rfl) (box16 w1 Z HZ.out) ?_; intro w2 hb2 hg2; have HB2 := Lib.hid hb2; have HG2 := Lib.hid hg2; clear hb2 hg2))
    go_ret2
    exact ⟨.slice none 0 0, rfl, Own.nil _ _ _, (HC3.out.trans ((below_alloc w1 _).mono HC3.out.size)).grown HG2.out (Nat.le_trans HC3.out.size (by simp)) (fun k hk => by cases hk; exact HC3.out.size)⟩
end Go.Cm

/- The walks of the functions that turn bits. Conditions: none. -/
namespace Go.Cm
open Go.RowKit Go.Proofs

theorem many (n : Int) (w : World) : Calls Tryz.prog 100 #[.int .i64 n] w fun e w' => e = .returned (.bool (decide (0 ≤ n ∧ n ≤ 32))) ∧ w' = w := by
  by_cases h1 : 0 ≤ n
  · by_cases h2 : n ≤ 32
    · go_enter Tryz.func100, Tryz.ntmps100
      go_wp2
      go_ret
      exact ⟨by simp [h1, h2], rfl⟩
    · go_enter Tryz.func100, Tryz.ntmps100
      go_wp2
      go_ret
      exact ⟨by simp [h2], rfl⟩
  · go_enter Tryz.func100, Tryz.ntmps100
    go_wp2
    go_ret
    exact ⟨by simp; omega, rfl⟩
theorem u32_bits (a b : Nat) (ha : a < 4294967296) (hb : b < 4294967296) : bits .and .u32 a b = ((a &&& b : Nat) : Int) ∧ bits .or .u32 a b = ((a ||| b : Nat) : Int) :=
  bits_nat .u32 32 (by decide) (fun n h0 h1 => by rw [IntKind.wrap_u32]; omega) a b ha hb
theorem step_val (x m s p : Nat) (hx : x < 4294967296) (hm : m < 4294967296) (hp : p = 2 ^ s) : bits .or .u32 (bits .and .u32 ((x : Int) / (p : Int)) (m : Int)) (bits .and .u32 (x : Int) (m : Int) * (p : Int) % 4294967296) = ((step1 m s x : Nat) : Int) := by
  have e1 : (x : Int) / (p : Int) = ((x / p : Nat) : Int) := (Int.natCast_ediv x p).symm
  have h1 : x / p < 4294967296 := Nat.lt_of_le_of_lt (Nat.div_le_self _ _) hx
  have h2 : x &&& m < 4294967296 := Nat.and_lt_two_pow (n := 32) _ hm
  have e2 : ((x &&& m : Nat) : Int) * (p : Int) % 4294967296 = (((x &&& m) * p % 4294967296 : Nat) : Int) := by rw [Int.natCast_emod, Int.natCast_mul]; rfl
  rw [e1, (u32_bits _ _ h1 hm).1, (u32_bits _ _ hx hm).1, e2, (u32_bits _ _ (Nat.and_lt_two_pow (n := 32) _ hm) (Nat.mod_lt _ (by decide))).2]
  unfold step1
  rw [Nat.shiftRight_eq_div_pow, Nat.shiftLeft_eq, hp]
theorem step1_lt (m s x : Nat) (hm : m < 4294967296) : step1 m s x < 4294967296 := by
  unfold step1
  exact Nat.or_lt_two_pow (n := 32) (Nat.and_lt_two_pow (n := 32) _ hm) (Nat.mod_lt _ (by decide))
def revB (x : Nat) : Nat := (step1 16711935 8 x >>> 16) ||| ((step1 16711935 8 x <<< 16) % 4294967296)
theorem halves_val (e : Nat) (he : e < 4294967296) : bits .or .u32 ((e : Int) / 65536) ((e : Int) * 65536 % 4294967296) = (((e >>> 16) ||| ((e <<< 16) % 4294967296) : Nat) : Int) := by
  have e1 : (e : Int) / 65536 = ((e / 65536 : Nat) : Int) := (Int.natCast_ediv e 65536).symm
  have e2 : (e : Int) * 65536 % 4294967296 = ((e * 65536 % 4294967296 : Nat) : Int) := by rw [Int.natCast_emod, Int.natCast_mul]; rfl
  rw [e1, e2, (u32_bits _ _ (by omega) (Nat.mod_lt _ (by decide))).2, Nat.shiftRight_eq_div_pow, Nat.shiftLeft_eq]
theorem revBytes (x : Nat) (hx : x < 4294967296) (w : World) : Calls Tryz.prog 105 #[.int .u32 x] w fun e w' => e = .returned (.int .u32 (revB x : Nat)) ∧ w' = w := by
  have h1 : bits .or .u32 (bits .and .u32 ((x : Int) / 256) 16711935) (bits .and .u32 (x : Int) 16711935 * 256 % 4294967296) = ((step1 16711935 8 x : Nat) : Int) := step_val x 16711935 8 256 hx (by decide) (by decide)
  have h2 := halves_val (step1 16711935 8 x) (step1_lt _ _ _ (by decide))
  have HR : Hid (revB x = (step1 16711935 8 x >>> 16) ||| ((step1 16711935 8 x <<< 16) % 4294967296)) := Lib.hid rfl
  rw [← HR.out] at h2
  generalize revB x = y at *
  have hl := step1_lt 16711935 8 x (by decide)
  generalize step1 16711935 8 x = e at *
  go_enter Tryz.func105, Tryz.ntmps105
  go_wp2
  go_ret
  exact ⟨rfl, rfl⟩
theorem rev (x : Nat) (hx : x < 4294967296) (w : World) : Calls Tryz.prog 101 #[.int .u32 x] w fun e w' => e = .returned (.int .u32 (rev32 x : Nat)) ∧ w' = w := by
  have h1 : bits .or .u32 (bits .and .u32 ((x : Int) / 2) 1431655765) (bits .and .u32 (x : Int) 1431655765 * 2 % 4294967296) = ((step1 1431655765 1 x : Nat) : Int) := step_val x 1431655765 1 2 hx (by decide) (by decide)
  have HR : Hid (revB (step1 252645135 4 (step1 858993459 2 (step1 1431655765 1 x))) = rev32 x) := Lib.hid rfl
  have l1 := step1_lt 1431655765 1 x (by decide)
  generalize step1 1431655765 1 x = a at *
  have h2 : bits .or .u32 (bits .and .u32 ((a : Int) / 4) 858993459) (bits .and .u32 (a : Int) 858993459 * 4 % 4294967296) = ((step1 858993459 2 a : Nat) : Int) := step_val a 858993459 2 4 l1 (by decide) (by decide)
  have l2 := step1_lt 858993459 2 a (by decide)
  generalize step1 858993459 2 a = b at *
  have h3 : bits .or .u32 (bits .and .u32 ((b : Int) / 16) 252645135) (bits .and .u32 (b : Int) 252645135 * 16 % 4294967296) = ((step1 252645135 4 b : Nat) : Int) := step_val b 252645135 4 16 l2 (by decide) (by decide)
  have l3 := step1_lt 252645135 4 b (by decide)
  generalize step1 252645135 4 b = c at *
  go_enter Tryz.func101, Tryz.ntmps101
  go_wp2_with (go_at_call 105; refine (revBytes c l3 _).mono ?_; rintro e w' ⟨rfl, rfl⟩; rw [HR.out])
  go_ret
  exact ⟨rfl, rfl⟩
theorem turnP (v n : Nat) (hn : n ≤ 32) (w : World) : Calls Tryz.prog 90 #[.int .i64 v, .int .i64 n] w fun e w' => e = .returned (.int .i64 (turnN v n : Nat)) ∧ w' = w := by
  by_cases h0 : n = 0
  · subst h0
    have hz : ((0 : Nat) : Int) = 0 := rfl
    go_enter Tryz.func90, Tryz.ntmps90
    go_wp2_with (go_at_call 100; refine (many _ _).mono ?_; rintro e w' ⟨rfl, rfl⟩)
    go_ret
    exact ⟨rfl, rfl⟩
  · have hd : decide (0 ≤ (n : Int) ∧ (n : Int) ≤ 32) = true := by simp; omega
    have hn0 : ¬ (n : Int) = 0 := by omega
    have hp : 1 ≤ n := by omega
    have HT := Lib.hid (rev32_turn v n hn)
    obtain ⟨y, hy⟩ : ∃ y, y = v % 4294967296 := ⟨_, rfl⟩
    have hyl : y < 4294967296 := by rw [hy]; exact Nat.mod_lt _ (by decide)
    have hcv : (v : Int) % 4294967296 = (y : Int) := by rw [hy]; exact (Int.natCast_emod v 4294967296).symm
    rw [show (2 ^ 32 : Nat) = 4294967296 from rfl, ← hy] at HT
    clear hy
    go_enter Tryz.func90, Tryz.ntmps90
    go_wp2_with (first | (go_at_call 100; refine (many _ _).mono ?_; rintro e w' ⟨rfl, rfl⟩; rw [hd]) | (go_at_call 101; refine (rev y hyl _).mono ?_; rintro e w' ⟨rfl, rfl⟩; generalize rev32 y = r at *))
    go_ret
    have hT := HT.out
    have e1 : (r : Int) / ((2 ^ (32 - n) : Nat) : Int) = ((turnN v n : Nat) : Int) := by
      rw [← hT, Nat.shiftRight_eq_div_pow]; exact (Int.natCast_ediv _ _).symm
    have hlt := turnN_lt v n
    have h32 : 2 ^ n ≤ 2 ^ 32 := Nat.pow_le_pow_right (by decide) hn
    refine ⟨?_, rfl⟩
    have e2 : (r : Int) / 2 ^ (32 - n) = ((turnN v n : Nat) : Int) := by rw [← e1]; norm_cast
    show Ending.returned (Value.int .i64 (wrap64 ((r : Int) / 2 ^ (32 - n)))) = _
    rw [e2, IntWalk.wrap64_in _ ⟨by omega, by omega⟩]
end Go.Cm

/- A bit writer's state as a number and a length, and the block it lies in. Conditions: none. -/
namespace Go.Cm
open Go.RowKit Go.Proofs

theorem pow256 (i : Nat) : 256 ^ i = 2 ^ (8 * i) := by rw [Nat.pow_mul]
theorem or_add (a v n : Nat) (ha : a < 2 ^ n) : a ||| v * 2 ^ n = a + v * 2 ^ n := by
  have h := Nat.two_pow_add_eq_or_of_lt ha v
  rw [Nat.or_comm, Nat.mul_comm v, ← h, Nat.add_comm]
section
variable {w : World} {g : Nat} {vb : Value} {rest n : Nat}
end
/-- what a writer in block g with the row vb leaves alone, and what its row is then -/
def Fr (g : Nat) (vb vb' : Value) (w w' : World) : Prop := (∀ k, k < w.heap.size → k ≠ g → vb.ownBlock ≠ some k → w'.heap[k]? = w.heap[k]?) ∧ (∀ k, vb'.ownBlock = some k → vb.ownBlock = some k ∨ w.heap.size ≤ k) ∧ w.heap.size ≤ w'.heap.size
theorem Fr.refl (g : Nat) (vb : Value) (w : World) : Fr g vb vb w w := ⟨fun _ _ _ _ => rfl, fun _ h => .inl h, Nat.le_refl _⟩
theorem Fr.step {g : Nat} {vb vb' : Value} {w w1 w2 : World} {row : Option Nat} (h : Fr g vb vb' w w1) (hg : w1.grownBy w2 row) (hr : ∀ k, row = some k → k = g ∨ vb'.ownBlock = some k) : Fr g vb vb' w w2 := by
  refine ⟨fun k hk h1 h2 => ?_, h.2.1, Nat.le_trans h.2.2 hg.size⟩
  rw [hg.block k (Nat.lt_of_lt_of_le hk h.2.2) ?_, h.1 k hk h1 h2]
  intro e
  rcases hr k e.symm with q | q
  · exact h1 q
  · rcases h.2.1 k q with z | z
    · exact h2 z
    · omega
theorem Fr.below {g : Nat} {vb vb' : Value} {w w1 w2 : World} (h : Fr g vb vb' w w1) (hb : Below w1.heap.size w1 w2) : Fr g vb vb' w w2 := h.step (row := none) (grown_below hb none) (fun k e => by cases e)
theorem Fr.trans {g : Nat} {vb vb' vc : Value} {w w1 w2 : World} (h : Fr g vb vb' w w1) (k : Fr g vb' vc w1 w2) : Fr g vb vc w w2 := by
  refine ⟨fun q hq h1 h2 => ?_, fun q hq => ?_, Nat.le_trans h.2.2 k.2.2⟩
  · rw [k.1 q (Nat.lt_of_lt_of_le hq h.2.2) h1 ?_, h.1 q hq h1 h2]
    intro e
    rcases h.2.1 q e with z | z
    · exact h2 z
    · omega
  · rcases k.2.1 q hq with z | z
    · exact h.2.1 q z
    · exact .inr (Nat.le_trans h.2.2 z)
end Go.Cm

/- The walks of the writing of symbols, of the program and of the document. Conditions: the writer is there. -/
namespace Go.Cm
open Go.RowKit Go.Proofs

theorem errI_zero {l : List Int} (h : errI l = 0) : ∃ L, l = nls L ∧ L.length ≤ 320 ∧ (∀ x ∈ L, x ≤ 15) ∧ kraftN L ≤ 32768 := by
  have h0 : wrongI l = 0 := by
    apply Classical.byContradiction; intro hn
    have := errI_of_wrong hn; omega
  obtain ⟨h1, h2⟩ := wrongI_zero h0
  obtain ⟨L, rfl, h3⟩ := nls_of h2
  rw [nls_length] at h1
  refine ⟨L, rfl, h1, h3, ?_⟩
  rw [errI_nls h1 h3] at h
  split at h
  · cases h
  · omega
theorem codesN_length (L : List Nat) : (codesN L).length = L.length := by simp [codesN]
theorem codesN_getD (L : List Nat) (i : Nat) (h : i < L.length) : (codesN L).getD i 0 = codeN L i := by simp [codesN, List.getD, h]
end Go.Cm

/- The walks of the bit reader. Conditions: none. -/
namespace Go.Cm
open Go.RowKit Go.Proofs

/-- the reader in block g: the text s, the next bit's number -/
structure BoxS (w : World) (g : Nat) (s : ByteArray) (p : Nat) : Prop where
  own : Own w g 86 (.slice (some ⟨g, 0, none⟩) 3 3) [.bool true, .string s, .int .i64 p]
section
variable {w : World} {g : Nat} {s : ByteArray} {p : Nat}
theorem BoxS.up {w' : World} (h : BoxS w g s p) (hb : Below w.heap.size w w') : BoxS w' g s p := ⟨h.own.up hb⟩
theorem BoxS.lt (h : BoxS w g s p) : g < w.heap.size := (h.own.lt g rfl).2
theorem BoxS.c0 (h : BoxS w g s p) : w.cell? ⟨g, 0, none⟩ = some (.bool true) := h.own.cell (by simp)
theorem BoxS.c1 (h : BoxS w g s p) : w.cell? ⟨g, 1, none⟩ = some (.string s) := h.own.cell (by simp)
theorem BoxS.c2 (h : BoxS w g s p) : w.cell? ⟨g, 2, none⟩ = some (.int .i64 p) := h.own.cell (by simp)
theorem BoxS.free (h : BoxS w g s p) (c : Nat) : w.frozen? ⟨g, c, none⟩ = false := h.own.free c
theorem BoxS.set2 (h : BoxS w g s p) (r : Nat) : BoxS (w.setCell ⟨g, 2, none⟩ (.int .i64 r)) g s r ∧ w.grownBy (w.setCell ⟨g, 2, none⟩ (.int .i64 r)) (some g) := ⟨⟨(h.own.store 2 _).1⟩, (h.own.store 2 _).2⟩
end
theorem thereS {w : World} {g : Nat} {s : ByteArray} {p : Nat} (h : BoxS w g s p) : Calls Tryz.prog 39 #[.pointer (some ⟨g, 0, none⟩)] w fun e w' => e = .returned (.bool true) ∧ w' = w := by
  have h0 := h.c0
  have hg := h.lt
  go_enter Tryz.func39, Tryz.ntmps39
  go_wp2
  go_ret
  exact ⟨rfl, rfl⟩
theorem atS {w : World} {g : Nat} {s : ByteArray} {p : Nat} (h : BoxS w g s p) : Calls Tryz.prog 29 #[.pointer (some ⟨g, 0, none⟩)] w fun e w' => e = .returned (.int .i64 p) ∧ w' = w := by
  have HB := Lib.hid h
  have c2 := h.c2
  have hg := h.lt
  clear h
  go_enter Tryz.func29, Tryz.ntmps29
  go_wp2_with (go_at_call 39; refine (thereS HB.out).mono ?_; rintro e w' ⟨rfl, hw'⟩; rw [hw']; clear hw')
  go_ret
  exact ⟨rfl, rfl⟩
theorem newS (s : ByteArray) (p : Nat) (hs : s.size ≤ 4294967296) (hp : p ≤ 8 * s.size) (w : World) : Calls Tryz.prog 22 #[.string s, .int .i64 p] w fun e w' => ∃ g, e = .returned (.tuple #[.pointer (some ⟨g, 0, none⟩), .int .i64 0]) ∧ BoxS w' g s p ∧ w.heap.size ≤ g ∧ Below w.heap.size w w' := by
  have h1 : ¬ (p : Int) < 0 := by omega
  have h2 : ¬ (p : Int) > 8 * (s.size : Int) := by omega
  have ho := own_lit w w.heap.size #[Value.bool true, Value.string s, Value.int .i64 p] 86 (by simp) (Nat.le_refl _)
  have HO := Lib.hid ho
  clear ho
  go_enter Tryz.func22, Tryz.ntmps22
  go_wp2
  go_ret2
  exact ⟨w.heap.size, rfl, ⟨HO.out⟩, Nat.le_refl _, below_alloc _ _⟩
theorem leftS {w : World} {g : Nat} {s : ByteArray} {p : Nat} (h : BoxS w g s p) (hs : s.size ≤ 4294967296) (hp : p ≤ 8 * s.size) : Calls Tryz.prog 84 #[.pointer (some ⟨g, 0, none⟩)] w fun e w' => e = .returned (.int .i64 ((8 * s.size - p : Nat) : Int)) ∧ ∃ x, w' = ext w x := by
  have HB := Lib.hid h
  have c1 := h.c1
  have c2 := h.c2
  have hg := h.lt
  clear h
  have e : ((8 * s.size - p : Nat) : Int) = 8 * (s.size : Int) - (p : Int) := by omega
  go_enter Tryz.func84, Tryz.ntmps84
  go_wp2_with (go_at_call 39; refine (thereS HB.out).mono ?_; rintro e w' ⟨rfl, hw'⟩; rw [hw']; clear hw')
  go_quiet (fail)
  go_wp2
  go_ret
  refine ⟨?_, (ex_ext (by repeat (first | exact Below.refl _ _ | assumption | refine b_drewN ?_ _ | refine Below.drew ?_ | refine b_ext' ?_ _ | refine b_alloc' ?_ _)))⟩
  show Ending.returned (Value.int .i64 (8 * (s.size : Int) - (p : Int))) = _
  rw [e]
end Go.Cm

/- The walk of the bit reader's Skip. Conditions: the bits are there. -/
namespace Go.Cm
open Go.RowKit Go.Proofs

theorem skipS {w : World} {g : Nat} {s : ByteArray} {p : Nat} (h : BoxS w g s p) (hs : s.size ≤ 4294967296) (n : Nat) (hn : n ≤ 32) (hp : p + n ≤ 8 * s.size) : Calls Tryz.prog 93 #[.pointer (some ⟨g, 0, none⟩), .int .i64 n] w fun e w' => e = .returned (.int .i64 0) ∧ BoxS w' g s (p + n) ∧ w.grownBy w' (some g) := by
  have hd : decide (0 ≤ (n : Int) ∧ (n : Int) ≤ 32) = true := by simp; omega
  have HB := Lib.hid h
  have HL := Lib.hid (leftS h hs (by omega))
  have hl : ¬ (n : Int) > ((8 * s.size - p : Nat) : Int) := by omega
  obtain ⟨q, hq⟩ : ∃ q : Nat, q = 8 * s.size - p := ⟨_, rfl⟩
  rw [← hq] at HL hl
  clear hq h
  go_enter Tryz.func93, Tryz.ntmps93
  go_wp2_with (first | (go_at_call 39; refine (thereS HB.out).mono ?_; rintro e w' ⟨rfl, hw'⟩; rw [hw']; clear hw') | (go_at_call 100; refine (many _ _).mono ?_; rintro e w' ⟨rfl, hw'⟩; rw [hw', hd]; clear hw') | (go_at_call 84; refine HL.out.mono ?_; rintro e w' ⟨rfl, x, rfl⟩; have HB2 := Lib.hid (HB.out.up (ext_below w x)); have c2 := HB2.out.c2; have f2 := HB2.out.free 2; have hg := HB2.out.lt; have HST := Lib.hid (HB2.out.set2 (p + n))))
  go_ret
  have hst := HST.out
  rw [Int.natCast_add] at hst
  exact ⟨rfl, hst.1, grown_trans (grown_below (ext_below w _) _) hst.2⟩
end Go.Cm

/- The walks of the document's bit reader. Conditions: none. -/
namespace Go.Cm
open Go.RowKit Go.Proofs

/-- the document's reader in block g -/
structure BoxT (w : World) (g : Nat) (s : ByteArray) (p : Nat) : Prop where
  own : Own w g 58 (.slice (some ⟨g, 0, none⟩) 2 2) [.string s, .int .i64 p]
section
variable {w : World} {g : Nat} {s : ByteArray} {p : Nat}
theorem BoxT.up {w' : World} (h : BoxT w g s p) (hb : Below w.heap.size w w') : BoxT w' g s p := ⟨h.own.up hb⟩
theorem BoxT.lt (h : BoxT w g s p) : g < w.heap.size := (h.own.lt g rfl).2
theorem BoxT.c0 (h : BoxT w g s p) : w.cell? ⟨g, 0, none⟩ = some (.string s) := h.own.cell (by simp)
theorem BoxT.c1 (h : BoxT w g s p) : w.cell? ⟨g, 1, none⟩ = some (.int .i64 p) := h.own.cell (by simp)
theorem BoxT.free (h : BoxT w g s p) (c : Nat) : w.frozen? ⟨g, c, none⟩ = false := h.own.free c
theorem BoxT.set1 (h : BoxT w g s p) (r : Nat) : BoxT (w.setCell ⟨g, 1, none⟩ (.int .i64 r)) g s r ∧ w.grownBy (w.setCell ⟨g, 1, none⟩ (.int .i64 r)) (some g) := ⟨⟨(h.own.store 1 _).1⟩, (h.own.store 1 _).2⟩
end
theorem newT (s : ByteArray) (p : Nat) (hs : s.size ≤ 4294967296) (hp : p ≤ 8 * s.size) (w : World) : Calls Tryz.prog 18 #[.string s, .int .i64 p] w fun e w' => ∃ g, e = .returned (.tuple #[.pointer (some ⟨g, 0, none⟩), .int .i64 0]) ∧ BoxT w' g s p ∧ w.heap.size ≤ g ∧ Below w.heap.size w w' := by
  have h1 : ¬ (p : Int) < 0 := by omega
  have h2 : ¬ (p : Int) > 8 * (s.size : Int) := by omega
  have ho := own_lit w w.heap.size #[Value.string s, Value.int .i64 p] 58 (by simp) (Nat.le_refl _)
  have HO := Lib.hid ho
  clear ho
  go_enter Tryz.func18, Tryz.ntmps18
  go_wp2
  go_ret2
  exact ⟨w.heap.size, rfl, ⟨HO.out⟩, Nat.le_refl _, below_alloc _ _⟩
theorem leftT {w : World} {g : Nat} {s : ByteArray} {p : Nat} (h : BoxT w g s p) (hs : s.size ≤ 4294967296) (hp : p ≤ 8 * s.size) : Calls Tryz.prog 49 #[.pointer (some ⟨g, 0, none⟩)] w fun e w' => e = .returned (.int .i64 ((8 * s.size - p : Nat) : Int)) ∧ ∃ x, w' = ext w x := by
  have c0 := h.c0
  have c1 := h.c1
  have hg := h.lt
  clear h
  have e : ((8 * s.size - p : Nat) : Int) = 8 * (s.size : Int) - (p : Int) := by omega
  go_enter Tryz.func49, Tryz.ntmps49
  go_wp2
  go_quiet (fail)
  go_wp2
  go_ret
  refine ⟨?_, (ex_ext (by repeat (first | exact Below.refl _ _ | assumption | refine b_drewN ?_ _ | refine Below.drew ?_ | refine b_ext' ?_ _ | refine b_alloc' ?_ _)))⟩
  show Ending.returned (Value.int .i64 (8 * (s.size : Int) - (p : Int))) = _
  rw [e]
end Go.Cm

/- A text's bits as a number; the walks of the reading of bits. Conditions: the reader is there. -/
namespace Go.Cm
open Go.RowKit Go.Proofs

def numL : List UInt8 → Nat
  | [] => 0
  | b :: r => b.toNat + 256 * numL r
/-- the bits of a text, as a number -/
def numS (s : ByteArray) : Nat := numL s.data.toList
theorem numL_div (l : List UInt8) (i : Nat) : numL l / 256 ^ i = numL (l.drop i) := by
  induction l generalizing i with
  | nil => simp [numL]
  | cons b r ih =>
    cases i with
    | zero => simp
    | succ i =>
      rw [List.drop_succ_cons, ← ih i, Nat.pow_succ, Nat.mul_comm, ← Nat.div_div_eq_div_mul]
      have : numL (b :: r) / 256 = numL r := by
        have := UInt8.toNat_lt b
        show (b.toNat + 256 * numL r) / 256 = numL r
        omega
      rw [this]
theorem numL_byte (l : List UInt8) (i : Nat) (h : i < l.length) : numL l / 256 ^ i % 256 = (l[i]).toNat := by
  rw [numL_div, List.drop_eq_getElem_cons h]
  have := UInt8.toNat_lt l[i]
  show ((l[i]).toNat + 256 * numL _) % 256 = _
  omega
theorem numL_zero (l : List UInt8) (i : Nat) (h : l.length ≤ i) : numL l / 256 ^ i = 0 := by
  rw [numL_div, List.drop_of_length_le h]; rfl
theorem numS_byte (s : ByteArray) (i : Nat) (h : i < s.size) : numS s / 256 ^ i % 256 = (s[i]).toNat := by
  have h' : i < s.data.toList.length := by simpa using h
  unfold numS
  rw [numL_byte _ i h']
  rfl
theorem numS_zero (s : ByteArray) (i : Nat) (h : s.size ≤ i) : numS s / 256 ^ i = 0 := numL_zero _ i (by simpa using h)
theorem testBit_byte (N i : Nat) : N.testBit i = (N / 256 ^ (i / 8) % 256).testBit (i % 8) := by
  rw [pow256, show (256 : Nat) = 2 ^ 8 by decide, Nat.testBit_mod_two_pow, Nat.testBit_div_two_pow, decide_eq_true (show i % 8 < 8 by omega), Bool.true_and, Nat.mod_add_div]
theorem numS_bit (s : ByteArray) (i : Nat) (h : i / 8 < s.size) : ((numS s).testBit i).toNat = (s[i / 8]).toNat / 2 ^ (i % 8) % 2 := by
  rw [testBit_byte, numS_byte s _ h, Nat.testBit_eq_decide_div_mod_eq]
  by_cases h2 : (s[i / 8]).toNat / 2 ^ (i % 8) % 2 = 1
  · simp [h2]
  · have h3 : (s[i / 8]).toNat / 2 ^ (i % 8) % 2 = 0 := by omega
    simp [h3]
theorem numS_bit_end (s : ByteArray) (i : Nat) (h : 8 * s.size ≤ i) : ((numS s).testBit i).toNat = 0 := by
  rw [testBit_byte, numS_zero s _ (by omega)]
  simp
theorem bitT (s : ByteArray) (i : Nat) (hs : s.size ≤ 4294967296) (w : World) : Calls Tryz.prog 50 #[.string s, .int .i64 i] w fun e w' => e = .returned (.int .i64 (((numS s).testBit i).toNat : Nat)) ∧ ∃ x, w' = ext w x := by
  by_cases h : i < 8 * s.size
  · have h1 : ¬ (i : Int) ≥ 8 * (s.size : Int) := by omega
    have hi8 : i / 8 < s.size := by omega
    have HB := Lib.hid (numS_bit s i hi8)
    have e8 : (i : Int) / 8 = ((i / 8 : Nat) : Int) := by omega
    have em : (i : Int) % 8 = ((i % 8 : Nat) : Int) := by omega
    have hm8 : i % 8 < 8 := by omega
    generalize hq : i / 8 = q at *
    generalize hm : i % 8 = m at *
    have hby : (s[q]).toNat < 256 := UInt8.toNat_lt _
    go_enter Tryz.func50, Tryz.ntmps50
    go_wp2
    go_ret
    rw [HB.out]
    generalize (s[q]).toNat = y at *
    have e : ((y : Int) / 2 ^ m).tmod 2 = ((y / 2 ^ m % 2 : Nat) : Int) := by norm_cast
    refine ⟨?_, (ex_ext (by repeat (first | exact Below.refl _ _ | assumption | refine b_drewN ?_ _ | refine Below.drew ?_ | refine b_ext' ?_ _ | refine b_alloc' ?_ _)))⟩
    rw [← e]; rfl
  · have h1 : (i : Int) ≥ 8 * (s.size : Int) := by omega
    have HB := Lib.hid (numS_bit_end s i (by omega))
    go_enter Tryz.func50, Tryz.ntmps50
    go_wp2
    go_ret
    exact ⟨by rw [HB.out]; rfl, (ex_ext (by repeat (first | exact Below.refl _ _ | assumption | refine b_drewN ?_ _ | refine Below.drew ?_ | refine b_ext' ?_ _ | refine b_alloc' ?_ _)))⟩
/-- the next n bits, from bit p on -/
def valN (N p n : Nat) : Nat := N / 2 ^ p % 2 ^ n
theorem peek_step (s : ByteArray) (f k : Nat) (h : f + k < s.size) : numS s / 256 ^ f % 256 ^ k + (s[f + k]).toNat * 2 ^ (8 * k) = numS s / 256 ^ f % 256 ^ (k + 1) := by
  have h1 := numS_byte s (f + k) h
  rw [← h1, ← pow256, Nat.pow_add, ← Nat.div_div_eq_div_mul, Nat.pow_succ, Nat.mod_mul, Nat.mul_comm]
theorem valN_cut (N f m k n : Nat) (h : m + n ≤ 8 * k) : N / 256 ^ f % 256 ^ k / 2 ^ m % 2 ^ n = valN N (8 * f + m) n := by
  unfold valN
  rw [pow256 k, Nat.pow_add, ← Nat.div_div_eq_div_mul, ← pow256 f]
  generalize N / 256 ^ f = D
  obtain ⟨q, hq⟩ : ∃ q, 8 * k = m + (n + q) := ⟨8 * k - m - n, by omega⟩
  rw [hq, Nat.pow_add, Nat.mod_mul_right_div_self, Nat.pow_add, Nat.mod_mul_right_mod]
theorem valN_end (s : ByteArray) (f m k n : Nat) (h : s.size ≤ f + k) : numS s / 256 ^ f % 256 ^ k / 2 ^ m % 2 ^ n = valN (numS s) (8 * f + m) n := by
  unfold valN
  rw [Nat.pow_add, ← Nat.div_div_eq_div_mul, ← pow256 f]
  have h0 : numS s / 256 ^ f / 256 ^ k = 0 := by
    rw [Nat.div_div_eq_div_mul, ← Nat.pow_add]; exact numS_zero s _ h
  have hl : numS s / 256 ^ f < 256 ^ k := by
    have := (Nat.div_eq_zero_iff_lt (Nat.pow_pos (n := k) (show 0 < 256 by decide))).1 h0
    exact this
  rw [Nat.mod_eq_of_lt hl]
theorem u64_or (a b k : Nat) (hk : k ≤ 4) (ha : a < 256 ^ k) (hb : b < 256) : bits .or .u64 (a : Int) (((b : Int) * 2 ^ (8 * k)) % 18446744073709551616) = ((a + b * 2 ^ (8 * k) : Nat) : Int) := by
  rw [pow256] at ha
  have ho := or_add a b (8 * k) ha
  have hp : 2 ^ (8 * k) ≤ 2 ^ 32 := Nat.pow_le_pow_right (by decide) (by omega)
  have hb2 : b * 2 ^ (8 * k) ≤ 255 * 2 ^ 32 := Nat.mul_le_mul (by omega) hp
  have hc : (b : Int) * 2 ^ (8 * k) = ((b * 2 ^ (8 * k) : Nat) : Int) := by rw [Int.natCast_mul, Int.natCast_pow]; rfl
  rw [hc]
  generalize 2 ^ (8 * k) = z at *
  generalize b * z = q at *
  have e : (q : Int) % 18446744073709551616 = (q : Int) := by omega
  rw [e, (bits_nat .u64 64 (by decide) (fun n h0 h1 => by rw [IntKind.wrap_u64]; omega) a q (by omega) (by omega)).2, ho]
theorem u64_mask (a m n : Nat) (hn : n ≤ 32) (ha : a < 2 ^ 40) : wrap64 (bits .and .u64 ((a : Int) / 2 ^ m) (IntKind.u64.wrap (IntKind.u64.wrap (2 ^ n) - 1))) = ((a / 2 ^ m % 2 ^ n : Nat) : Int) := by
  have hp : 2 ^ n ≤ 2 ^ 32 := Nat.pow_le_pow_right (by decide) hn
  have hp1 : 1 ≤ 2 ^ n := Nat.one_le_two_pow
  have e1 : (2 : Int) ^ n = ((2 ^ n : Nat) : Int) := by norm_cast
  have e2 : (a : Int) / 2 ^ m = ((a / 2 ^ m : Nat) : Int) := by norm_cast
  have e3 : IntKind.u64.wrap (IntKind.u64.wrap (2 ^ n) - 1) = ((2 ^ n - 1 : Nat) : Int) := by
    rw [IntKind.wrap_u64, IntKind.wrap_u64, e1]
    generalize 2 ^ n = q at *
    omega
  have hd : a / 2 ^ m ≤ a := Nat.div_le_self _ _
  have hb := (bits_nat .u64 64 (by decide) (fun n h0 h1 => by rw [IntKind.wrap_u64]; omega) (a / 2 ^ m) (2 ^ n - 1) (by omega) (by omega)).1
  rw [e2, e3, hb, Nat.and_two_pow_sub_one_eq_mod]
  have hm : a / 2 ^ m % 2 ^ n < 2 ^ n := Nat.mod_lt _ (by omega)
  rw [IntWalk.wrap64_in _ ⟨by omega, by omega⟩]
set_option maxRecDepth 100000 in
theorem peekS {w : World} {g : Nat} {s : ByteArray} {p : Nat} (h : BoxS w g s p) (hs : s.size ≤ 4294967296) (hp : p ≤ 8 * s.size) (n : Nat) (hn : n ≤ 32) :
    Calls Tryz.prog 92 #[.pointer (some ⟨g, 0, none⟩), .int .i64 n] w fun e w' => e = .returned (.int .i64 (valN (numS s) p n : Nat)) ∧ ∃ x, w' = ext w x := by
  have hd : decide (0 ≤ (n : Int) ∧ (n : Int) ≤ 32) = true := by simp; omega
  have HB := Lib.hid h
  have c1 := h.c1
  have c2 := h.c2
  have hg := h.lt
  have e8 : (p : Int) / 8 = ((p / 8 : Nat) : Int) := by omega
  have em : (p : Int) % 8 = ((p % 8 : Nat) : Int) := by omega
  have hpq : 8 * (p / 8) + p % 8 = p := by omega
  have hm8 : p % 8 < 8 := by omega
  clear h
  generalize p / 8 = f at *
  generalize p % 8 = m at *
  have hf : f ≤ 4294967296 := by omega
  have HPQ := Lib.hid hpq
  clear hpq
  go_enter Tryz.func92, Tryz.ntmps92
  go_wp2_with (first | (go_at_call 39; refine (thereS HB.out).mono ?_; rintro e w' ⟨rfl, hw'⟩; rw [hw']; clear hw') | (go_at_call 100; refine (many _ _).mono ?_; rintro e w' ⟨rfl, hw'⟩; rw [hw', hd]; clear hw'))
  rw [em]
  go_loop [7, 8] (fun a i => ∃ k : Nat, k ≤ 5 ∧ i = .int .i64 k ∧ a = .int .u64 (numS s / 256 ^ f % 256 ^ k : Nat)) (fun _ i => 6 - (intOf i).toNat)
  case atStart => exact ⟨0, by omega, rfl, by rw [Nat.pow_zero, Nat.mod_one]; rfl⟩
  case round =>
    obtain ⟨k, hk, rfl, rfl⟩ := hrel
    have hle : numS s / 256 ^ f % 256 ^ k < 256 ^ k := Nat.mod_lt _ (Nat.pow_pos (by decide))
    by_cases h1 : 8 * k < m + n
    · have h1i : (k : Int) * 8 < (m : Int) + (n : Int) := by omega
      by_cases h2 : f + k < s.size
      · have hst := peek_step s f k h2
        have hor := u64_or (numS s / 256 ^ f % 256 ^ k) (s[f + k]).toNat k (by omega) hle (UInt8.toNat_lt _)
        rw [hst] at hor
        rw [← IntKind.wrap_u64] at hor
        have hby : (s[f + k]).toNat < 256 := UInt8.toNat_lt _
        have hwy : IntKind.u64.wrap ((s[f + k]).toNat : Int) = ((s[f + k]).toNat : Int) := by rw [IntKind.wrap_u64]; omega
        have HOR := Lib.hid hor
        clear hor hst
        have h2i : (f : Int) + (k : Int) < (s.size : Int) := by omega
        generalize hz : numS s / 256 ^ f % 256 ^ (k + 1) = z at *
        have HZ := Lib.hid hz
        clear hz
        generalize numS s / 256 ^ f % 256 ^ k = a at *
        go_wp2
        go_round
        case rel =>
          refine ⟨k + 1, by omega, by go_num, ?_⟩
          rw [HOR.out, HZ.out]
        case measure => simp [intOf]; omega
      · have h2i : ¬ (f : Int) + (k : Int) < (s.size : Int) := by omega
        have HV := Lib.hid (valN_end s f m k n (by omega))
        rw [HPQ.out] at HV
        have h40 : 256 ^ k ≤ 256 ^ 5 := Nat.pow_le_pow_right (by decide) hk
        have ha : numS s / 256 ^ f % 256 ^ k < 2 ^ 40 := Nat.lt_of_lt_of_le hle h40
        generalize numS s / 256 ^ f % 256 ^ k = a at *
        go_wp2
        go_ret
        refine ⟨?_, (ex_ext (by repeat (first | exact Below.refl _ _ | assumption | refine b_drewN ?_ _ | refine Below.drew ?_ | refine b_ext' ?_ _ | refine b_alloc' ?_ _)))⟩
        rw [← HV.out, ← u64_mask a m n hn ha]; rfl
    · have h1i : ¬ (k : Int) * 8 < (m : Int) + (n : Int) := by omega
      have HV := Lib.hid (valN_cut (numS s) f m k n (by omega))
      rw [HPQ.out] at HV
      have h40 : 256 ^ k ≤ 256 ^ 5 := Nat.pow_le_pow_right (by decide) hk
      have ha : numS s / 256 ^ f % 256 ^ k < 2 ^ 40 := Nat.lt_of_lt_of_le hle h40
      generalize numS s / 256 ^ f % 256 ^ k = a at *
      go_wp2
      go_ret
      refine ⟨?_, (ex_ext (by repeat (first | exact Below.refl _ _ | assumption | refine b_drewN ?_ _ | refine Below.drew ?_ | refine b_ext' ?_ _ | refine b_alloc' ?_ _)))⟩
      rw [← HV.out, ← u64_mask a m n hn ha]; rfl
end Go.Cm
