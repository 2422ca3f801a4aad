/- Texts of this claim, joined: walks of small functions and plain facts about them. Conditions: as each says. -/
import Derived.Test.YtmophmeiemfikaaGreatBB
import Derived.Test.YtmophmeiemfikaaGreatRows
import Derived.WalkKit
import Derived.WalkSpells
import Derived.WalkLawsBesides
import Derived.Deep.QuietTactic
import Derived.BigQuiet
import Derived.Lib.Hide
import Derived.Deep.LoopGhost
/- The table of codes, in plain Lean: what its entries say, and that filling it symbol by symbol keeps that true. Conditions: none. -/
namespace Go.Cm

structure Ent where
  s : Nat
  b : Nat
  t : Nat
def Ent.zero : Ent := ⟨0, 0, 0⟩
/-- a further table: its block, how many bits it is asked with, its entries -/
structure Sub where
  g : Nat
  m : Nat
  F : Nat → Ent
theorem turnN_turnN (c n : Nat) (h : c < 2 ^ n) : turnN (turnN c n) n = c := by
  refine eq_of_bits n (turnN_lt _ _) h fun i hi => ?_
  rw [turnN_bit, turnN_bit, decide_eq_true hi, Bool.true_and, decide_eq_true (show n - 1 - i < n by omega), Bool.true_and]
  congr 1; omega
theorem turn_iff (x c n : Nat) (h : c < 2 ^ n) : x % 2 ^ n = turnN c n ↔ c = turnN x n := by
  constructor
  · intro he
    rw [← turnN_mod x n n (Nat.le_refl _), he, turnN_turnN c n h]
  · intro he
    rw [he, ← turnN_mod x n n (Nat.le_refl _), turnN_turnN _ n (Nat.mod_lt _ (Nat.pow_pos (by decide)))]
theorem turnN_add (V n r : Nat) : turnN V (n + r) = turnN V n * 2 ^ r + turnN (V / 2 ^ n) r := by
  induction r with
  | zero => simp [turnN]
  | succ r ih =>
    rw [← Nat.add_assoc, turnN_succ, ih, turnN_succ, Nat.testBit_div_two_pow, Nat.pow_succ, Nat.add_comm r n, Nat.mul_add, ← Nat.mul_assoc (turnN V n), Nat.mul_comm (turnN V n * 2 ^ r) 2]
    omega
/-- symbol j's code is longer than 9 bits, and its first 9 ones are x -/
def headN (L : List Nat) (j x : Nat) : Prop := 9 < L.getD j 0 ∧ codeN L j / 2 ^ (L.getD j 0 - 9) = turnN x 9
section
variable {L : List Nat}
theorem head_of_hit {V j : Nat} (h : hitN L V j) (h9 : 9 < L.getD j 0) : headN L j (V % 512) := by
  refine ⟨h9, ?_⟩
  rw [h.2]
  obtain ⟨d, hd⟩ : ∃ d, L.getD j 0 = 9 + d := ⟨L.getD j 0 - 9, by omega⟩
  rw [hd, Nat.add_sub_cancel_left, turnN_cut, show (512 : Nat) = 2 ^ 9 by decide, turnN_mod V 9 9 (Nat.le_refl _)]
theorem head_apart {i j x : Nat} (hi : i < L.length) (hj : j < L.length) (h : headN L j x) (hh : hitN L x i) (h9 : L.getD i 0 ≤ 9) : False := by
  have : i = j := by
    refine code_apart i j hi hj hh.1 (by have := h.1; omega) ?_
    obtain ⟨d, hd⟩ : ∃ d, 9 = L.getD i 0 + d := ⟨9 - L.getD i 0, by omega⟩
    have h1 := h.1
    have e : L.getD j 0 - L.getD i 0 = (L.getD j 0 - 9) + d := by omega
    rw [e, Nat.pow_add, ← Nat.div_div_eq_div_mul, h.2, hh.2, hd, turnN_cut]
  subst this
  have := h.1; omega
theorem head_inj {j x y : Nat} (hx : x < 512) (hy : y < 512) (h : headN L j x) (k : headN L j y) : x = y := by
  have e := h.2.symm.trans k.2
  have h1 := turnN_turnN x 9 (by simpa using hx)
  have h2 := turnN_turnN y 9 (by simpa using hy)
  rw [← h1, ← h2, e]
/-- the table behind i symbols -/
structure TabOk (L : List Nat) (i : Nat) (E : Nat → Ent) (fs : List Sub) : Prop where
  low : ∀ x, x < 512 → (E x).t = 0 → (∀ j, j < i → hitN L x j → L.getD j 0 ≤ 9 → E x = ⟨j, L.getD j 0, 0⟩) ∧ ((E x).b ≠ 0 → ∃ j, j < i ∧ hitN L x j ∧ L.getD j 0 ≤ 9)
  far : ∀ x k, x < 512 → (E x).t = k + 1 → ∃ f, fs[k]? = some f ∧ f.m ≤ 6 ∧ (∀ j, j < L.length → headN L j x → L.getD j 0 ≤ 9 + f.m) ∧ (∃ j, j < i ∧ headN L j x) ∧
    ∀ y, y < 2 ^ f.m → (∀ j, j < i → 9 < L.getD j 0 → hitN L (x + 512 * y) j → f.F y = ⟨j, L.getD j 0, 0⟩) ∧ ((f.F y).b ≠ 0 → ∃ j, j < i ∧ 9 < L.getD j 0 ∧ hitN L (x + 512 * y) j)
  one : ∀ x y, x < 512 → y < 512 → (E x).t = (E y).t → (E x).t ≠ 0 → x = y
  all : ∀ j, j < i → ∀ x, x < 512 → headN L j x → (E x).t ≠ 0
theorem TabOk.start (L : List Nat) : TabOk L 0 (fun _ => Ent.zero) [] :=
  ⟨fun x _ _ => ⟨fun j hj => absurd hj (Nat.not_lt_zero j), fun h => absurd rfl h⟩, fun x k _ h => (by cases h), fun x y _ _ _ h => absurd rfl h, fun j hj => absurd hj (Nat.not_lt_zero j)⟩
variable {i : Nat} {E : Nat → Ent} {fs : List Sub}
/-- entries for a code's last bits -/
def fillN (E : Nat → Ent) (c n : Nat) (e : Ent) : Nat → Ent := fun x => if x % 2 ^ n = turnN c n then e else E x
theorem TabOk.none (h : TabOk L i E fs) (h0 : L.getD i 0 = 0) : TabOk L (i + 1) E fs := by
  have hno : ∀ V, ¬ hitN L V i := fun V hh => hh.1 h0
  have hnh : ∀ x, ¬ headN L i x := fun x hh => by have := hh.1; omega
  refine ⟨fun x hx ht => ?_, fun x k hx ht => ?_, h.one, fun j hj x hx hh => ?_⟩
  · obtain ⟨h1, h2⟩ := h.low x hx ht
    refine ⟨fun j hj hh => ?_, fun hb => ?_⟩
    · rcases Nat.lt_succ_iff_lt_or_eq.1 hj with hj | rfl
      · exact h1 j hj hh
      · exact absurd hh (hno _)
    · obtain ⟨j, hj, hr⟩ := h2 hb; exact ⟨j, by omega, hr⟩
  · obtain ⟨f, hf, hm, hl, ⟨j0, hj0, hh0⟩, hy⟩ := h.far x k hx ht
    refine ⟨f, hf, hm, hl, ⟨j0, by omega, hh0⟩, fun y hym => ?_⟩
    obtain ⟨h1, h2⟩ := hy y hym
    refine ⟨fun j hj h9 hh => ?_, fun hb => ?_⟩
    · rcases Nat.lt_succ_iff_lt_or_eq.1 hj with hj | rfl
      · exact h1 j hj h9 hh
      · exact absurd hh (hno _)
    · obtain ⟨j, hj, hr⟩ := h2 hb; exact ⟨j, by omega, hr⟩
  · rcases Nat.lt_succ_iff_lt_or_eq.1 hj with hj | rfl
    · exact h.all j hj x hx hh
    · exact absurd hh (hnh _)
theorem TabOk.short (h : TabOk L i E fs) (hi : i < L.length) (h15 : ∀ x ∈ L, x ≤ 15) (hk : kraftN L ≤ 32768) (h0 : L.getD i 0 ≠ 0) (h9 : L.getD i 0 ≤ 9) :
    TabOk L (i + 1) (fillN E (codeN L i) (L.getD i 0) ⟨i, L.getD i 0, 0⟩) fs := by
  have hc := code_lt h15 hk i hi
  have hE : ∀ x, fillN E (codeN L i) (L.getD i 0) ⟨i, L.getD i 0, 0⟩ x = if codeN L i = turnN x (L.getD i 0) then ⟨i, L.getD i 0, 0⟩ else E x := fun x => by
    unfold fillN
    by_cases h : x % 2 ^ L.getD i 0 = turnN (codeN L i) (L.getD i 0)
    · rw [if_pos h, if_pos ((turn_iff _ _ _ hc).1 h)]
    · rw [if_neg h, if_neg (fun q => h ((turn_iff _ _ _ hc).2 q))]
  have hnh : ∀ x, ¬ headN L i x := fun x hh => by have := hh.1; omega
  refine ⟨fun x hx ht => ?_, fun x k hx ht => ?_, fun x y hx hy he hne => ?_, fun j hj x hx hh => ?_⟩
  · rw [hE] at ht ⊢
    by_cases hx0 : codeN L i = turnN x (L.getD i 0)
    · rw [if_pos hx0] at ht ⊢
      have hhit : hitN L x i := ⟨h0, hx0⟩
      refine ⟨fun j hj hh h9' => ?_, fun _ => ⟨i, by omega, hhit, h9⟩⟩
      have : i = j := hit_one hi (by omega) hhit hh
      subst this; rfl
    · rw [if_neg hx0] at ht ⊢
      obtain ⟨h1, h2⟩ := h.low x hx ht
      refine ⟨fun j hj hh => ?_, fun hb => ?_⟩
      · rcases Nat.lt_succ_iff_lt_or_eq.1 hj with hj | rfl
        · exact h1 j hj hh
        · exact absurd hh.2 hx0
      · obtain ⟨j, hj, hr⟩ := h2 hb; exact ⟨j, by omega, hr⟩
  · rw [hE] at ht
    split at ht
    · cases ht
    · obtain ⟨f, hf, hm, hl, ⟨j0, hj0, hh0⟩, hy⟩ := h.far x k hx ht
      refine ⟨f, hf, hm, hl, ⟨j0, by omega, hh0⟩, fun y hym => ?_⟩
      obtain ⟨h1, h2⟩ := hy y hym
      refine ⟨fun j hj h9' hh => ?_, fun hb => ?_⟩
      · rcases Nat.lt_succ_iff_lt_or_eq.1 hj with hj | rfl
        · exact h1 j hj h9' hh
        · omega
      · obtain ⟨j, hj, hr⟩ := h2 hb; exact ⟨j, by omega, hr⟩
  · rw [hE, hE] at he
    rw [hE] at hne
    split at hne
    · exact absurd rfl hne
    · rename_i hx0
      rw [if_neg hx0] at he
      split at he
      · exact absurd he hne
      · exact h.one x y hx hy he hne
  · rcases Nat.lt_succ_iff_lt_or_eq.1 hj with hj | rfl
    · rw [hE]
      split
      · rename_i hx0
        exact (head_apart hi (by omega) hh ⟨h0, hx0⟩ h9).elim
      · exact h.all j hj x hx hh
    · exact absurd hh (hnh _)
def updN (E : Nat → Ent) (x : Nat) (e : Ent) : Nat → Ent := fun z => if z = x then e else E z
theorem hit_long (_hc : ∀ j, j < L.length → codeN L j < 2 ^ L.getD j 0) {i x y r : Nat} (_hi : i < L.length) (hx : x < 512) (hr : L.getD i 0 = 9 + r) (hh : codeN L i / 2 ^ r = turnN x 9) :
    (y % 2 ^ r = turnN (codeN L i % 2 ^ r) r ↔ codeN L i = turnN (x + 512 * y) (L.getD i 0)) := by
  have hm : codeN L i % 2 ^ r < 2 ^ r := Nat.mod_lt _ (Nat.pow_pos (by decide))
  rw [turn_iff _ _ _ hm, hr, turnN_add]
  have h1 : (x + 512 * y) / 2 ^ 9 = y := by rw [show (2 : Nat) ^ 9 = 512 by decide]; omega
  have h2 : turnN (x + 512 * y) 9 = turnN x 9 := by
    rw [← turnN_mod (x + 512 * y) 9 9 (Nat.le_refl _), ← turnN_mod x 9 9 (Nat.le_refl _), show (2 : Nat) ^ 9 = 512 by decide]
    congr 1; omega
  rw [h1, h2, ← hh]
  have h3 := Nat.div_add_mod (codeN L i) (2 ^ r)
  rw [Nat.mul_comm] at h3
  constructor
  · intro h; rw [← h]; omega
  · intro h; omega
/-- a code of more than 9 bits, whose further table is there (step A done) -/
theorem TabOk.long (h : TabOk L i E fs) (hi : i < L.length) (h15 : ∀ x ∈ L, x ≤ 15) (hk : kraftN L ≤ 32768) (h9 : 9 < L.getD i 0) {x k : Nat} (hx : x < 512) (hh : headN L i x) (ht : (E x).t = k + 1) {f : Sub} (hf : fs[k]? = some f) :
    TabOk L (i + 1) E (fs.set k ⟨f.g, f.m, fillN f.F (codeN L i % 2 ^ (L.getD i 0 - 9)) (L.getD i 0 - 9) ⟨i, L.getD i 0, 0⟩⟩) := by
  have hc := fun j hj => code_lt h15 hk j hj
  have hlk : k < fs.length := (List.getElem?_eq_some_iff.1 hf).1
  have hr : L.getD i 0 = 9 + (L.getD i 0 - 9) := by omega
  refine ⟨fun z hz htz => ?_, fun z q hz htz => ?_, h.one, fun j hj z hz hhz => ?_⟩
  · obtain ⟨h1, h2⟩ := h.low z hz htz
    refine ⟨fun j hj hhj hj9 => ?_, fun hb => ?_⟩
    · rcases Nat.lt_succ_iff_lt_or_eq.1 hj with hj | rfl
      · exact h1 j hj hhj hj9
      · omega
    · obtain ⟨j, hj, hr⟩ := h2 hb; exact ⟨j, by omega, hr⟩
  · obtain ⟨f', hf', hm, hl, ⟨j0, hj0, hh0⟩, hy⟩ := h.far z q hz htz
    by_cases hq : k = q
    · subst hq
      obtain rfl : f = f' := Option.some.inj (hf.symm.trans hf')
      have hzx : z = x := h.one z x hz hx (by rw [htz, ht]) (by omega)
      subst hzx
      refine ⟨⟨f.g, f.m, fillN f.F (codeN L i % 2 ^ (L.getD i 0 - 9)) (L.getD i 0 - 9) ⟨i, L.getD i 0, 0⟩⟩, by rw [List.getElem?_set_self hlk], hm, hl, ⟨j0, by omega, hh0⟩, fun y hym => ?_⟩
      obtain ⟨h1, h2⟩ := hy y hym
      have hkey := hit_long hc (i := i) (x := z) (y := y) hi hz hr hh.2
      simp only [fillN]
      by_cases hmt : y % 2 ^ (L.getD i 0 - 9) = turnN (codeN L i % 2 ^ (L.getD i 0 - 9)) (L.getD i 0 - 9)
      · rw [if_pos hmt]
        have hhit : hitN L (z + 512 * y) i := ⟨by omega, hkey.1 hmt⟩
        refine ⟨fun j hj hj9 hhj => ?_, fun _ => ⟨i, by omega, h9, hhit⟩⟩
        have : i = j := hit_one hi (by omega) hhit hhj
        subst this; rfl
      · rw [if_neg hmt]
        refine ⟨fun j hj hj9 hhj => ?_, fun hb => ?_⟩
        · rcases Nat.lt_succ_iff_lt_or_eq.1 hj with hj | rfl
          · exact h1 j hj hj9 hhj
          · exact absurd (hkey.2 hhj.2) hmt
        · obtain ⟨j, hj, hr⟩ := h2 hb; exact ⟨j, by omega, hr⟩
    · refine ⟨f', by rw [List.getElem?_set_ne hq]; exact hf', hm, hl, ⟨j0, by omega, hh0⟩, fun y hym => ?_⟩
      obtain ⟨h1, h2⟩ := hy y hym
      refine ⟨fun j hj hj9 hhj => ?_, fun hb => ?_⟩
      · rcases Nat.lt_succ_iff_lt_or_eq.1 hj with hj | rfl
        · exact h1 j hj hj9 hhj
        · have hz2 := head_of_hit hhj hj9
          rw [show (z + 512 * y) % 512 = z by omega] at hz2
          have := head_inj hz hx hz2 hh
          subst this
          omega
      · obtain ⟨j, hj, hr⟩ := h2 hb; exact ⟨j, by omega, hr⟩
  · rcases Nat.lt_succ_iff_lt_or_eq.1 hj with hj | rfl
    · exact h.all j hj z hz hhz
    · have := head_inj hz hx hhz hh
      subst this; omega
/-- .. and whose further table is new -/
theorem TabOk.fresh (h : TabOk L i E fs) (hi : i < L.length) (h15 : ∀ x ∈ L, x ≤ 15) (hk : kraftN L ≤ 32768) (h9 : 9 < L.getD i 0) {x : Nat} (hx : x < 512) (hh : headN L i x) (ht : (E x).t = 0) {g m : Nat} (hm : m ≤ 6) (hml : ∀ j, j < L.length → headN L j x → L.getD j 0 ≤ 9 + m) {b : Nat} :
    TabOk L (i + 1) (updN E x ⟨0, b, fs.length + 1⟩) (fs ++ [⟨g, m, fillN (fun _ => Ent.zero) (codeN L i % 2 ^ (L.getD i 0 - 9)) (L.getD i 0 - 9) ⟨i, L.getD i 0, 0⟩⟩]) := by
  have hc := fun j hj => code_lt h15 hk j hj
  have hr : L.getD i 0 = 9 + (L.getD i 0 - 9) := by omega
  have hEx : updN E x ⟨0, b, fs.length + 1⟩ x = ⟨0, b, fs.length + 1⟩ := by unfold updN; rw [if_pos rfl]
  have hEz : ∀ z, z ≠ x → updN E x ⟨0, b, fs.length + 1⟩ z = E z := fun z hz => by unfold updN; rw [if_neg hz]
  have hle : ∀ z k, z < 512 → (E z).t = k + 1 → k < fs.length := fun z k hz htz => by
    obtain ⟨f, hf, _⟩ := h.far z k hz htz
    exact (List.getElem?_eq_some_iff.1 hf).1
  have hlt : ∀ z, z < 512 → (E z).t ≤ fs.length := fun z hz => by
    cases hq : (E z).t with
    | zero => omega
    | succ k => exact hle z k hz hq
  refine ⟨fun z hz htz => ?_, fun z q hz htz => ?_, fun y z hy hz he hne => ?_, fun j hj z hz hhz => ?_⟩
  · by_cases hzx : z = x
    · subst hzx; rw [hEx] at htz; cases htz
    · rw [hEz z hzx] at htz ⊢
      obtain ⟨h1, h2⟩ := h.low z hz htz
      refine ⟨fun j hj hhj hj9 => ?_, fun hb => ?_⟩
      · rcases Nat.lt_succ_iff_lt_or_eq.1 hj with hj | rfl
        · exact h1 j hj hhj hj9
        · omega
      · obtain ⟨j, hj, hr⟩ := h2 hb; exact ⟨j, by omega, hr⟩
  · by_cases hzx : z = x
    · subst hzx
      rw [hEx] at htz
      obtain rfl : fs.length = q := by simpa using htz
      refine ⟨_, by rw [List.getElem?_append_right (Nat.le_refl _), Nat.sub_self]; rfl, hm, hml, ⟨i, by omega, hh⟩, fun y hym => ?_⟩
      have hkey := hit_long hc (i := i) (x := z) (y := y) hi hz hr hh.2
      simp only [fillN]
      by_cases hmt : y % 2 ^ (L.getD i 0 - 9) = turnN (codeN L i % 2 ^ (L.getD i 0 - 9)) (L.getD i 0 - 9)
      · rw [if_pos hmt]
        have hhit : hitN L (z + 512 * y) i := ⟨by omega, hkey.1 hmt⟩
        refine ⟨fun j hj hj9 hhj => ?_, fun _ => ⟨i, by omega, h9, hhit⟩⟩
        have : i = j := hit_one hi (by omega) hhit hhj
        subst this; rfl
      · rw [if_neg hmt]
        refine ⟨fun j hj hj9 hhj => ?_, fun hb => absurd rfl hb⟩
        rcases Nat.lt_succ_iff_lt_or_eq.1 hj with hj | rfl
        · have hz2 := head_of_hit hhj hj9
          rw [show (z + 512 * y) % 512 = z by omega] at hz2
          exact absurd ht (h.all j hj z hz hz2)
        · exact absurd (hkey.2 hhj.2) hmt
    · rw [hEz z hzx] at htz
      obtain ⟨f', hf', hm', hl, ⟨j0, hj0, hh0⟩, hy⟩ := h.far z q hz htz
      refine ⟨f', by rw [List.getElem?_append_left (hle z q hz htz)]; exact hf', hm', hl, ⟨j0, by omega, hh0⟩, fun y hym => ?_⟩
      obtain ⟨h1, h2⟩ := hy y hym
      refine ⟨fun j hj hj9 hhj => ?_, fun hb => ?_⟩
      · rcases Nat.lt_succ_iff_lt_or_eq.1 hj with hj | rfl
        · exact h1 j hj hj9 hhj
        · have hz2 := head_of_hit hhj hj9
          rw [show (z + 512 * y) % 512 = z by omega] at hz2
          exact absurd (head_inj hz hx hz2 hh) hzx
      · obtain ⟨j, hj, hr⟩ := h2 hb; exact ⟨j, by omega, hr⟩
  · by_cases hyx : y = x
    · by_cases hzx : z = x
      · rw [hyx, hzx]
      · rw [hyx, hEx, hEz z hzx] at he
        have := hlt z hz
        simp only at he; omega
    · by_cases hzx : z = x
      · rw [hEz y hyx, hzx, hEx] at he
        have := hlt y hy
        simp only at he; omega
      · rw [hEz y hyx, hEz z hzx] at he
        rw [hEz y hyx] at hne
        exact h.one y z hy hz he hne
  · by_cases hzx : z = x
    · subst hzx; rw [hEx]; simp
    · rw [hEz z hzx]
      rcases Nat.lt_succ_iff_lt_or_eq.1 hj with hj | rfl
      · exact h.all j hj z hz hhz
      · exact absurd (head_inj hz hx hhz hh) hzx
/-- what bits lead to -/
def lookN (E : Nat → Ent) (fs : List Sub) (V : Nat) : Ent :=
  match (E (V % 512)).t with
  | 0 => E (V % 512)
  | k + 1 => match fs[k]? with
    | some f => f.F (V / 512 % 2 ^ f.m)
    | none => Ent.zero
theorem TabOk.look (h : TabOk L L.length E fs) (_h15 : ∀ x ∈ L, x ≤ 15) (V : Nat) :
    (∀ j, j < L.length → hitN L V j → lookN E fs V = ⟨j, L.getD j 0, 0⟩) ∧ ((lookN E fs V).b ≠ 0 → ∃ j, j < L.length ∧ hitN L V j) := by
  have hx : V % 512 < 512 := by omega
  have h512 : (512 : Nat) = 2 ^ 9 := by decide
  unfold lookN
  cases ht : (E (V % 512)).t with
  | zero =>
    obtain ⟨h1, h2⟩ := h.low _ hx ht
    refine ⟨fun j hj hh => ?_, fun hb => ?_⟩
    · by_cases h9 : L.getD j 0 ≤ 9
      · exact h1 j hj (by rw [h512, hit_mod h9]; exact hh) h9
      · exact absurd ht (h.all j hj _ hx (head_of_hit hh (by omega)))
    · obtain ⟨j, hj, hh, h9⟩ := h2 hb
      rw [h512, hit_mod h9] at hh
      exact ⟨j, hj, hh⟩
  | succ k =>
    obtain ⟨f, hf, hm, hl, ⟨j0, hj0, hh0⟩, hy⟩ := h.far _ k hx ht
    simp only [hf]
    obtain ⟨h1, h2⟩ := hy (V / 512 % 2 ^ f.m) (Nat.mod_lt _ (Nat.pow_pos (by decide)))
    have hV : V % 512 + 512 * (V / 512 % 2 ^ f.m) = V % 2 ^ (9 + f.m) := by
      rw [Nat.pow_add, h512, Nat.mod_mul]
    rw [hV] at h1 h2
    refine ⟨fun j hj hh => ?_, fun hb => ?_⟩
    · by_cases h9 : L.getD j 0 ≤ 9
      · exact (head_apart hj hj0 hh0 (by rw [h512, hit_mod h9]; exact hh) h9).elim
      · have := hl j hj (head_of_hit hh (by omega))
        exact h1 j hj (by omega) (by rw [hit_mod this]; exact hh)
    · obtain ⟨j, hj, h9, hh⟩ := h2 hb
      have hhd := head_of_hit hh h9
      rw [show V % 2 ^ (9 + f.m) % 512 = V % 512 by rw [Nat.pow_add, ← h512, Nat.mod_mul_right_mod]] at hhd
      rw [hit_mod (hl j hj hhd)] at hh
      exact ⟨j, hj, hh⟩
end
end Go.Cm

/- The walks of the document's codes of lengths. Conditions: the argument reads as a list. -/
namespace Go.Cm
open Go.RowKit Go.Proofs

theorem wrongI_big {l : List Int} (h : 320 < l.length) : wrongI l = 3 := by unfold wrongI; rw [if_pos h]
theorem wrongI_bad {l : List Int} (h : ¬ 320 < l.length) {i : Nat} (hi : i < l.length) (hb : ¬ (0 ≤ l.getD i 0 ∧ l.getD i 0 ≤ 15)) : wrongI l = 1 := by
  unfold wrongI; rw [if_neg h, if_neg]
  exact fun hall => hb (hall _ (getD_mem l i 0 hi))
theorem wrongI_ok {l : List Int} (h : ¬ 320 < l.length) (hall : ∀ i, i < l.length → 0 ≤ l.getD i 0 ∧ l.getD i 0 ≤ 15) : wrongI l = 0 := by
  unfold wrongI; rw [if_neg h, if_pos]
  intro x hx
  obtain ⟨i, hi, rfl⟩ := List.mem_iff_getElem.1 hx
  have := hall i hi
  simpa [List.getD, hi] using this
theorem ints_set' (l : List Int) (i : Nat) (x : Int) : (ints l).set i (.int .i64 x) = ints (l.set i x) := by simp [ints, List.map_set]
theorem wrongR (v : Value) (l : List Int) (w : World) (h : IntsAt w v l) : Calls Tryz.prog 73 #[v] w fun e w' => e = .returned (.int .i64 (wrongI l : Nat)) ∧ ∃ x, w' = ext w x := by
  obtain ⟨oa, cap, b, off, rfl, hd, hc⟩ := h.open
  have hix := index_any (P := Tryz.prog) 35 3 Tryz.underlying35 (by kernel_rfl) hd
  have hm := hd.len
  have hbk := hd.hblk
  have HC := Lib.hid hc; clear hc h hd
  by_cases hbig : 320 < l.length
  · have hb : (l.length : Int) > 320 := by omega
    have HE := Lib.hid (wrongI_big hbig)
    go_enter Tryz.func73, Tryz.ntmps73
    go_wp2
    go_ret
    exact ⟨by rw [HE.out]; rfl, (ex_ext (by repeat (first | exact Below.refl _ _ | assumption | refine b_drewN ?_ _ | refine Below.drew ?_ | refine b_ext' ?_ _ | refine b_alloc' ?_ _)))⟩
  · have hb : ¬ (l.length : Int) > 320 := by omega
    go_enter Tryz.func73, Tryz.ntmps73
    go_wp2
    go_loop [3] (fun i => ∃ k : Nat, k ≤ l.length ∧ i = .int .i64 k ∧ ∀ q, q < k → 0 ≤ l.getD q 0 ∧ l.getD q 0 ≤ 15) (fun i => l.length - (intOf i).toNat)
    case atStart => exact ⟨0, Nat.zero_le _, rfl, fun j hj => absurd hj (Nat.not_lt_zero j)⟩
    case round =>
      obtain ⟨k, hk, rfl, hall⟩ := hrel
      have HA := Lib.hid hall; clear hall
      by_cases hlt : k < l.length
      · have hcell := HC.out k hlt
        have hbb := hbk (by omega)
        have HW : Hid ((0 ≤ l.getD k 0 ∧ l.getD k 0 ≤ 15) → ∀ q, q < k + 1 → 0 ≤ l.getD q 0 ∧ l.getD q 0 ≤ 15) := Lib.hid (fun h q hq => by
          rcases Nat.lt_succ_iff_lt_or_eq.1 hq with h1 | rfl
          · exact HA.out q h1
          · exact h)
        have HF : Hid (¬ (0 ≤ l.getD k 0 ∧ l.getD k 0 ≤ 15) → wrongI l = 1) := Lib.hid (wrongI_bad hbig hlt)
        generalize l.getD k 0 = y at *
        by_cases h0 : y < 0
        · go_wp2
          go_ret
          exact ⟨by rw [HF.out (by omega)]; rfl, (ex_ext (by repeat (first | exact Below.refl _ _ | assumption | refine b_drewN ?_ _ | refine Below.drew ?_ | refine b_ext' ?_ _ | refine b_alloc' ?_ _)))⟩
        · by_cases h1 : y > 15
          · go_wp2
            go_ret
            exact ⟨by rw [HF.out (by omega)]; rfl, (ex_ext (by repeat (first | exact Below.refl _ _ | assumption | refine b_drewN ?_ _ | refine Below.drew ?_ | refine b_ext' ?_ _ | refine b_alloc' ?_ _)))⟩
          · go_wp2
            go_round
            case rel => exact ⟨k + 1, by omega, by go_num, HW.out (by omega)⟩
            case measure => simp [intOf]; omega
      · have hk' : k = l.length := by omega
        subst hk'
        have HE := Lib.hid (wrongI_ok hbig HA.out)
        go_wp2
        go_ret
        exact ⟨by rw [HE.out]; rfl, (ex_ext (by repeat (first | exact Below.refl _ _ | assumption | refine b_drewN ?_ _ | refine Below.drew ?_ | refine b_ext' ?_ _ | refine b_alloc' ?_ _)))⟩
theorem kraft_take_succ (L : List Nat) (k : Nat) (hk : k < L.length) : kraftN (L.take (k + 1)) = kraftN (L.take k) + kw (L.getD k 0) := by
  unfold kraftN
  rw [take_succ_getD L k 0 hk, List.map_append, List.sum_append]
  simp
theorem kw_le (x : Nat) : kw x ≤ 32768 := by
  unfold kw
  split
  · exact Nat.le_trans (Nat.pow_le_pow_right (by decide) (show 15 - x ≤ 15 by omega)) (by decide)
  · exact Nat.zero_le _
theorem kraft_take_le (L : List Nat) (k : Nat) : kraftN (L.take k) ≤ k * 32768 := by
  induction k with
  | zero => simp [kraftN]
  | succ k ih =>
    rw [Nat.add_mul, Nat.one_mul]
    by_cases hk : k < L.length
    · rw [kraft_take_succ L k hk]
      exact Nat.add_le_add ih (kw_le _)
    · rw [List.take_of_length_le (by omega)]
      rw [List.take_of_length_le (by omega)] at ih
      exact Nat.le_trans ih (Nat.le_add_right _ _)
theorem kraftR (v : Value) (L : List Nat) (w : World) (h : IntsAt w v (nls L)) (h1 : L.length ≤ 320) (h15 : ∀ x ∈ L, x ≤ 15) : Calls Tryz.prog 74 #[v] w fun e w' => e = .returned (.int .i64 (kraftN L : Nat)) ∧ ∃ x, w' = ext w x := by
  have HWR : Hid (∀ w', Below w.heap.size w w' → Calls Tryz.prog 73 #[v] w' fun e w'' => e = .returned (.int .i64 0) ∧ ∃ x, w'' = ext w' x) := Lib.hid (fun w' hb => by
    have := wrongR v (nls L) w' (h.up hb)
    rw [wrongI_nls h1 h15] at this
    exact this)
  obtain ⟨oa, cap, b, off, rfl, hd, hc⟩ := h.open
  rw [nls_length] at hd hc
  rw [nls_length] at HWR ⊢
  have hix := index_any (P := Tryz.prog) 35 3 Tryz.underlying35 (by kernel_rfl) hd
  have hm := hd.len
  have hbk := hd.hblk
  have HC := Lib.hid hc; clear hc h hd
  have H15 : Hid (∀ k, k < L.length → L.getD k 0 ≤ 15) := Lib.hid (fun k hk => h15 _ (getD_mem L k 0 hk))
  go_enter Tryz.func74, Tryz.ntmps74
  go_wp2_with (go_at_call 73; refine (HWR.out _ (by repeat (first | exact Below.refl _ _ | assumption | refine b_drewN ?_ _ | refine Below.drew ?_ | refine b_ext' ?_ _ | refine b_alloc' ?_ _))).mono ?_; rintro e w1 ⟨rfl, x, rfl⟩)
  clear HWR h15
  go_loop [3, 4] (fun n i => ∃ k : Nat, k ≤ L.length ∧ i = .int .i64 k ∧ n = .int .i64 (kraftN (L.take k) : Nat)) (fun _ i => L.length - (intOf i).toNat)
  case atStart => exact ⟨0, Nat.zero_le _, rfl, rfl⟩
  case round =>
    obtain ⟨k, hk, rfl, rfl⟩ := hrel
    by_cases hlt : k < L.length
    · have hcell := HC.out k hlt
      rw [nls_getD] at hcell
      have hbb := hbk (by omega)
      have HS := Lib.hid (kraft_take_succ L k hlt)
      have hle := kraft_take_le L k
      have hx := H15.out k hlt
      generalize kraftN (L.take k) = s at *
      generalize L.getD k 0 = y at *
      by_cases h0 : 0 < y
      · have hy : (y : Int) > 0 := by omega
        have hy2 : (15 : Int) - (y : Int) = ((15 - y : Nat) : Int) := by omega
        have hp : 2 ^ (15 - y) ≤ 32768 := Nat.le_trans (Nat.pow_le_pow_right (by decide) (show 15 - y ≤ 15 by omega)) (by decide)
        have hkw : kw y = 2 ^ (15 - y) := by unfold kw; rw [if_pos h0]
        have HKW := Lib.hid hkw; clear hkw
        have hs2 : s ≤ 320 * 32768 := Nat.le_trans hle (Nat.mul_le_mul_right _ (by omega))
        clear hle
        generalize hn : 15 - y = n at *
        have HP : Hid ((2 ^ n : Nat) ≤ 32768) := Lib.hid hp
        have hn15 : n ≤ 15 := by omega
        go_wp2
        go_round
        case rel =>
          refine ⟨k + 1, by omega, by go_num, ?_⟩
          have hq := HP.out
          have h2 : ((2 : Int) ^ n) = ((2 ^ n : Nat) : Int) := by norm_cast
          rw [HS.out, HKW.out, h2]
          generalize 2 ^ n = q at *
          rw [IntWalk.wrap64_in (q : Int) ⟨by omega, by omega⟩, IntWalk.wrap64_in _ ⟨by omega, by omega⟩]
          norm_cast
        case measure => simp [intOf]; omega
      · have hy : ¬ (y : Int) > 0 := by omega
        have hkw : kw y = 0 := by unfold kw; rw [if_neg h0]
        rw [hkw] at HS
        go_wp2
        go_round
        case rel => exact ⟨k + 1, by omega, by go_num, by rw [HS.out, Nat.add_zero]⟩
        case measure => simp [intOf]; omega
    · go_wp2
      go_ret
      rw [List.take_of_length_le (by omega)]
      exact ⟨rfl, (ex_ext (by repeat (first | exact Below.refl _ _ | assumption | refine b_drewN ?_ _ | refine Below.drew ?_ | refine b_ext' ?_ _ | refine b_alloc' ?_ _)))⟩
theorem errI_of_wrong {l : List Int} (h : wrongI l ≠ 0) : errI l = wrongI l := by unfold errI; rw [if_pos h]
theorem errI_nls {L : List Nat} (h1 : L.length ≤ 320) (h15 : ∀ x ∈ L, x ≤ 15) : errI (nls L) = if 32768 < kraftN L then 7 else 0 := by
  unfold errI; rw [wrongI_nls h1 h15, if_neg (by omega), nls_toNat]
/-- the codes that were given so far: those of lengths below n, and of length n below symbol i -/
def partN (L : List Nat) (n i : Nat) : List Nat := (List.range L.length).map fun q => if L.getD q 0 < n ∨ (L.getD q 0 = n ∧ q < i) then codeN L q else 0
theorem partN_length (L : List Nat) (n i : Nat) : (partN L n i).length = L.length := by simp [partN]
theorem partN_start (L : List Nat) : partN L 1 0 = List.replicate L.length 0 := by
  unfold partN
  rw [List.eq_replicate_iff]
  refine ⟨by simp, fun x hx => ?_⟩
  obtain ⟨q, -, rfl⟩ := List.mem_map.1 hx
  split
  · rename_i h; unfold codeN; rw [if_pos (by omega)]
  · rfl
theorem partN_skip (L : List Nat) (n i : Nat) (h : L.getD i 0 ≠ n) : partN L n (i + 1) = partN L n i := by
  unfold partN
  refine List.map_congr_left fun q _ => ?_
  by_cases e : q = i
  · subst e
    by_cases h2 : L.getD q 0 < n
    · rw [if_pos (.inl h2), if_pos (.inl h2)]
    · rw [if_neg (by omega), if_neg (by omega)]
  · by_cases h2 : L.getD q 0 < n ∨ (L.getD q 0 = n ∧ q < i)
    · rw [if_pos h2, if_pos (by omega)]
    · rw [if_neg h2, if_neg (by omega)]
theorem partN_set (L : List Nat) (n i : Nat) (h0 : 1 ≤ n) (h : L.getD i 0 = n) : (partN L n i).set i (firstN L n + (L.take i).count n) = partN L n (i + 1) := by
  refine List.ext_getElem (by simp [partN]) fun q h1 h2 => ?_
  rw [List.getElem_set]
  simp only [partN, List.getElem_map, List.getElem_range]
  by_cases e : i = q
  · subst e
    rw [if_pos rfl, if_pos (.inr ⟨h, by omega⟩)]
    unfold codeN rankN
    rw [if_neg (by omega), h]
  · rw [if_neg e]
    by_cases h2 : L.getD q 0 < n ∨ (L.getD q 0 = n ∧ q < i)
    · rw [if_pos h2, if_pos (by omega)]
    · rw [if_neg h2, if_neg (by omega)]
theorem partN_next (L : List Nat) (n : Nat) : partN L n L.length = partN L (n + 1) 0 := by
  unfold partN
  refine List.map_congr_left fun q hq => ?_
  have := List.mem_range.1 hq
  by_cases h2 : L.getD q 0 < n ∨ (L.getD q 0 = n ∧ q < L.length)
  · rw [if_pos h2, if_pos (by omega)]
  · rw [if_neg h2, if_neg (by omega)]
theorem partN_all (L : List Nat) (h15 : ∀ x ∈ L, x ≤ 15) : partN L 16 0 = codesN L := by
  unfold partN codesN
  refine List.map_congr_left fun q hq => ?_
  have := h15 _ (getD_mem L q 0 (List.mem_range.1 hq))
  rw [if_pos (by omega)]
/-- what a call that gives codes answers -/
def RetCodes (l : List Int) (w : World) (e : Ending) (w' : World) : Prop :=
  ∃ v, e = .returned (.tuple #[v, .int .i64 (errI l : Nat)]) ∧ Own w' w.heap.size 3 v (if errI l = 0 then ints (nls (codesN (l.map Int.toNat))) else []) ∧ Below w.heap.size w w'
set_option maxRecDepth 100000 in
theorem codesR (v : Value) (l : List Int) (w : World) (h : IntsAt w v l) : Calls Tryz.prog 48 #[v] w (RetCodes l w) := by
  have HWR : Hid (∀ w', Below w.heap.size w w' → Calls Tryz.prog 73 #[v] w' fun e w'' => e = .returned (.int .i64 (wrongI l : Nat)) ∧ ∃ x, w'' = ext w' x) := Lib.hid (fun w' hb => wrongR v l w' (h.up hb))
  by_cases hw0 : wrongI l = 0
  · obtain ⟨hlen, hall⟩ := wrongI_zero hw0
    obtain ⟨L, rfl, h15⟩ := nls_of hall
    rw [nls_length] at hlen
    rw [hw0] at HWR
    have he := errI_nls hlen h15
    have HKR : Hid (∀ w', Below w.heap.size w w' → Calls Tryz.prog 74 #[v] w' fun e w'' => e = .returned (.int .i64 (kraftN L : Nat)) ∧ ∃ x, w'' = ext w' x) := Lib.hid (fun w' hb => kraftR v L w' (h.up hb) hlen h15)
    obtain ⟨oa, cap, b, off, rfl, hd, hc⟩ := h.open
    rw [nls_length] at hd hc
    unfold RetCodes
    rw [nls_length] at HWR HKR ⊢
    rw [nls_toNat]
    have hix := index_any (P := Tryz.prog) 35 3 Tryz.underlying35 (by kernel_rfl) hd
    have hm := hd.len
    have hbk := hd.hblk
    have HC := Lib.hid hc; clear hc h hd hw0 hall
    by_cases hk : 32768 < kraftN L
    · rw [if_pos hk] at he
      have hk2 : (kraftN L : Int) > 32768 := by omega
      generalize kraftN L = K at *
      go_enter Tryz.func48, Tryz.ntmps48
      go_wp2_with (first | (go_at_call 73; refine (HWR.out _ (by repeat (first | exact Below.refl _ _ | assumption | refine b_drewN ?_ _ | refine Below.drew ?_ | refine b_ext' ?_ _ | refine b_alloc' ?_ _))).mono ?_; rintro e w1 ⟨rfl, x, rfl⟩) | (go_at_call 74; refine (HKR.out _ (by repeat (first | exact Below.refl _ _ | assumption | refine b_drewN ?_ _ | refine Below.drew ?_ | refine b_ext' ?_ _ | refine b_alloc' ?_ _))).mono ?_; rintro e w2 ⟨rfl, y, rfl⟩))
      go_ret2
      exact ⟨.slice none 0 0, rfl, Own.nil _ _ _, (by repeat (first | exact Below.refl _ _ | assumption | refine b_drewN ?_ _ | refine Below.drew ?_ | refine b_ext' ?_ _ | refine b_alloc' ?_ _))⟩
    · rw [if_neg hk] at he
      have hk2 : ¬ (kraftN L : Int) > 32768 := by omega
      have HK : Hid (kraftN L ≤ 32768) := Lib.hid (by omega)
      have HFU := Lib.hid (full_le h15 HK.out)
      have HFL := Lib.hid (first_le h15 HK.out)
      have HPA := Lib.hid (partN_all L h15)
      have HPS := Lib.hid (partN_start L)
      rw [he]
      clear h15 he
      generalize kraftN L = K at *
      have hmk := run_mk (P := Tryz.prog) 35 3 (.int .i64 0) 8 L.length Tryz.underlying35 (by kernel_rfl) rfl (by decide) (by omega)
      go_enter Tryz.func48, Tryz.ntmps48
      go_wp2_with (first | (go_at_call 73; refine (HWR.out _ (by repeat (first | exact Below.refl _ _ | assumption | refine b_drewN ?_ _ | refine Below.drew ?_ | refine b_ext' ?_ _ | refine b_alloc' ?_ _))).mono ?_; rintro e w1 ⟨rfl, x, rfl⟩) | (go_at_call 74; refine (HKR.out _ (by repeat (first | exact Below.refl _ _ | assumption | refine b_drewN ?_ _ | refine Below.drew ?_ | refine b_ext' ?_ _ | refine b_alloc' ?_ _))).mono ?_; rintro e w2 ⟨rfl, y, rfl⟩))
      have hbel : Below w.heap.size w (ext (ext w x) y) := (by repeat (first | exact Below.refl _ _ | assumption | refine b_drewN ?_ _ | refine Below.drew ?_ | refine b_ext' ?_ _ | refine b_alloc' ?_ _))
      have hown := own_made (ext (ext w x) y) w.heap.size 3 (.int .i64 0) L.length hbel.size (by omega)
      have hbel2 := hbel.alloc hbel.size (.cells (madeCells #[Value.int .i64 0] L.length) 3)
      have hown2 : Own ((ext (ext w x) y).alloc (.cells (madeCells #[Value.int .i64 0] L.length) 3)) w.heap.size 3 (.slice (some ⟨(ext (ext w x) y).heap.size, 0, none⟩) L.length L.length) (ints (nls (partN L 1 0))) := by
        rw [HPS.out]; simpa [ints, nls] using hown
      have HO := Lib.hid hown2
      have HB := Lib.hid hbel2
      have hgs := hbel.size
      clear hown hown2 hbel hbel2 hmk HWR HKR HPS
      generalize (ext (ext w x) y).heap.size = g at *
      generalize (ext (ext w x) y).alloc (.cells (madeCells #[Value.int .i64 0] L.length) 3) = w3 at *
      go_loopg [6, 7] 16 (fun gk c n wr => ∃ k : Nat, 1 ≤ k ∧ k ≤ 16 ∧ n = .int .i64 k ∧ c = .int .i64 (firstN L k : Nat) ∧ Own wr w.heap.size 3 (.slice (some ⟨g, 0, none⟩) L.length L.length) (ints (nls (partN L k 0))) ∧ Below w.heap.size w wr ∧ gk = 17 - k)
      case atStart => exact ⟨1, by omega, by omega, rfl, rfl, HO.out, HB.out, rfl⟩
      case round =>
        clear HO HB
        obtain ⟨k, hk1, hk16, rfl, rfl, hown, hbel, rfl⟩ := hrel
        have HO := Lib.hid hown
        have HB := Lib.hid hbel
        clear hown hbel
        by_cases hk : k ≤ 15
        · have HFS := Lib.hid (first_succ L k hk1)
          have HFK := Lib.hid (HFU.out k hk1 hk)
          have h2k : 2 ^ k ≤ 32768 := Nat.le_trans (Nat.pow_le_pow_right (by decide) hk) (by decide)
          have HCT : Hid (firstN L k + L.count k ≤ 32768) := Lib.hid (Nat.le_trans HFK.out h2k)
          clear h2k
          go_wp2
          obtain ⟨wo, rfl⟩ : ∃ wo : World, wo = wr := ⟨_, rfl⟩
          go_loopg [6, 8] (L.length + 1) (fun gk c i wr => ∃ j : Nat, j ≤ L.length ∧ i = .int .i64 j ∧ c = .int .i64 (firstN L k + (L.take j).count k : Nat) ∧ Own wr w.heap.size 3 (.slice (some ⟨g, 0, none⟩) L.length L.length) (ints (nls (partN L k j))) ∧ Below w.heap.size w wr ∧ gk = L.length + 1 - j)
          case atStart => exact ⟨0, Nat.zero_le _, rfl, by simp, HO.out, HB.out, rfl⟩
          case round =>
            clear HO HB
            obtain ⟨j, hj, rfl, rfl, hown, hbel, rfl⟩ := hrel
            have HO := Lib.hid hown
            have HB := Lib.hid hbel
            clear hown hbel
            by_cases hlt : j < L.length
            · have hbw := hbk (by omega)
              have hsz := HB.out.size
              have hcell := (HB.out.cell (p := ⟨b, off + j, none⟩) hbw).trans (HC.out j hlt)
              rw [nls_getD] at hcell
              have hgw := HO.out.blk
              have hcj := HO.out.cell (i := j) (by rw [ints_length, nls_length, partN_length]; exact hlt)
              rw [ints_getD _ _ (by rw [nls_length, partN_length]; exact hlt)] at hcj
              have hfj := HO.out.free j
              have HCS := Lib.hid (count_take_succ L j k hlt)
              have HSK := Lib.hid (partN_skip L k j)
              have HSET := Lib.hid (partN_set L k j hk1)
              have HST := Lib.hid (HO.out.store j (.int .i64 (firstN L k + (L.take j).count k : Nat)))
              have hle : (L.take j).count k ≤ L.count k := List.Sublist.count_le _ (List.take_sublist _ _)
              have HLE := Lib.hid hle; clear hle
              have hbw2 : b < wr.heap.size := by omega
              generalize hyy : L.getD j 0 = y at *
              generalize (nls (partN L k j)).getD j 0 = z at *
              generalize hcc : firstN L k + (L.take j).count k = c at *
              have hc2 : c ≤ 32768 := by have := HCT.out; have := HLE.out; omega
              by_cases he : y = k
              · have he2 : ((y : Int) == (k : Int)) = true := by rw [he]; exact beq_self_eq_true _
                have HCC := Lib.hid hcc
                have HE := Lib.hid he
                clear hcc he
                have hj2 : j < 4294967296 := by omega
                go_wp2
                go_roundg (L.length - j)
                case measure => omega
                case rel =>
                  refine ⟨j + 1, by omega, by go_num, ?_, ?_, ?_, by omega⟩
                  · rw [HCS.out, if_pos HE.out]
                    rw [← Nat.add_assoc, HCC.out]
                    norm_cast
                  · have h1 := HST.out.1
                    rw [ints_set', nls_set, HSET.out HE.out] at h1
                    exact h1
                  · exact HB.out.grown HST.out.2 (by omega) (fun k hk => by cases hk; exact hgw.1)
              · have he2 : ((y : Int) == (k : Int)) = false := by
                  simp; omega
                go_wp2
                go_roundg (L.length - j)
                case measure => omega
                case rel =>
                  refine ⟨j + 1, by omega, by go_num, ?_, ?_, HB.out, by omega⟩
                  · rw [HCS.out, if_neg he, Nat.add_zero, hcc]
                  · rw [HSK.out he]; exact HO.out
            · obtain rfl : j = L.length := by omega
              have HNX := Lib.hid (partN_next L k)
              rw [List.take_length]
              have hc3 := HCT.out
              generalize hcc : firstN L k + L.count k = c at *
              have HCC := Lib.hid hcc
              clear hcc
              go_wp2
              go_roundg (16 - k)
              case measure => omega
              case rel =>
                refine ⟨k + 1, by omega, by omega, by go_num, ?_, ?_, HB.out, by omega⟩
                · rw [HFS.out]
                  norm_cast
                · rw [← HNX.out]; exact HO.out
        · obtain rfl : k = 16 := by omega
          go_wp2
          go_ret2
          refine ⟨.slice (some ⟨g, 0, none⟩) L.length L.length, rfl, ?_, HB.out⟩
          rw [← HPA.out]
          exact HO.out
  · have he := errI_of_wrong hw0
    have hne : ¬ (wrongI l : Int) = 0 := by omega
    have hne2 : ¬ errI l = 0 := by omega
    unfold RetCodes
    rw [if_neg hne2, he]
    clear h he hne2
    generalize wrongI l = n at *
    go_enter Tryz.func48, Tryz.ntmps48
    go_wp2_with (first | (go_at_call 73; refine (HWR.out _ (by repeat (first | exact Below.refl _ _ | assumption | refine b_drewN ?_ _ | refine Below.drew ?_ | refine b_ext' ?_ _ | refine b_alloc' ?_ _))).mono ?_; rintro e w1 ⟨rfl, x, rfl⟩))
    go_ret2
    exact ⟨.slice none 0 0, rfl, Own.nil _ _ _, (by repeat (first | exact Below.refl _ _ | assumption | refine b_drewN ?_ _ | refine Below.drew ?_ | refine b_ext' ?_ _ | refine b_alloc' ?_ _))⟩
end Go.Cm

/- A region that draws its order and ends in operations that must come last, which may change what the others look at. Conditions: none. -/
namespace Go.Cm
open Go.RowKit

section
variable {P : Program} {ops : Array Oper} {md : Region.Mode} {C : World → Prop} {o3 : List Nat}
def late (o3 : List Nat) (listed : Array Bool) : Bool := o3.any fun t => listed.getD t false
def wpAnyT (P : Program) (md : Region.Mode) (ops : Array Oper) (C : World → Prop) (o3 : List Nat) (Q : Act → World → Prop) : Nat → Array Bool → Act → World → Prop
  | 0, listed, a, w => (late o3 listed = false → C w) ∧ Region.ready md ops listed = [] ∧ Q a w
  | fuel + 1, listed, a, w => (late o3 listed = false → C w) ∧ (Region.ready md ops listed = [] → Q a w) ∧
    ∀ i ∈ Region.ready md ops listed, wpOp P ops noQ i (wpAnyT P md ops C o3 Q fuel (listed.setIfInBounds i true)) a w
theorem wpAny_of_T {Q : Act → World → Prop} {Q' : Exit → Act → World → Prop} (hQ : ∀ a w, Q a w → Q' .normal a w) : ∀ (fuel : Nat) (listed : Array Bool) (a : Act) (w : World),
    wpAnyT P md ops C o3 Q fuel listed a w → wpAny P md ops Q' fuel listed a w
  | 0, _, _, _, h => ⟨h.2.1, hQ _ _ h.2.2⟩
  | fuel + 1, listed, a, w, h => ⟨fun h0 => hQ _ _ (h.2.1 h0), fun i hi => by
      have h1 := wpOp_mono (fun a w => wpAny_of_T (Q' := Q') hQ fuel _ a w) (h.2.2 i hi)
      unfold wpOp at h1 ⊢
      split
      · rename_i ho; simpa [ho] using h1
      · rename_i o ho
        simp only [ho] at h1
        split
        · rename_i hw
          simp only [hw, if_true] at h1
          rcases h1 with h1 | ⟨-, h1⟩
          · exact .inl (wp_exits (fun _ _ _ h => h) noQ_out h1)
          · exact (noQ_out h1).elim
        · rename_i hw; simpa [hw] using h1⟩
/-- what has been done is closed: what it waits for has been done -/
def Closed (md : Region.Mode) (ops : Array Oper) (listed : Array Bool) : Prop := ∀ (j : Nat) (oj : Oper), ops[j]? = some oj → listed.getD j false = true → ∀ e ∈ oj.after, Region.binds md e = true → listed.getD e.on false = true
theorem Closed.set {listed : Array Bool} {j : Nat} (h : Closed md ops listed) (hj : j ∈ Region.ready md ops listed) : Closed md ops (listed.setIfInBounds j true) := by
  obtain ⟨_, oj, hoj, hall⟩ := mem_ready.1 hj
  intro k ok hok hl e he hb
  by_cases hjk : j = k
  · subst hjk
    have : ok = oj := Option.some.inj (hok.symm.trans hoj)
    subst this
    exact getD_set_true (hall e he hb)
  · rw [getD_set_ne false hjk] at hl
    exact getD_set_true (h k ok hok hl e he hb)
def anc (md : Region.Mode) (ops : Array Oper) : Nat → Nat → Nat → Bool
  | 0, _, _ => false
  | f + 1, i, t => match ops[t]? with
    | some o => o.after.any fun e => Region.binds md e && (e.on == i || anc md ops f i e.on)
    | none => false
theorem anc_listed {listed : Array Bool} (hc : Closed md ops listed) {i : Nat} : ∀ (f t : Nat), anc md ops f i t = true → listed.getD t false = true → listed.getD i false = true
  | 0, _, h, _ => by cases h
  | f + 1, t, h, ht => by
    unfold anc at h
    split at h
    · rename_i o ho
      obtain ⟨e, he, hb⟩ := Array.any_eq_true'.1 h
      simp only [Bool.and_eq_true, Bool.or_eq_true, beq_iff_eq] at hb
      have h1 := hc t o ho ht e he hb.1
      rcases hb.2 with h2 | h2
      · rw [← h2]; exact h1
      · exact anc_listed hc f e.on h2 h1
    · cases h
theorem late_set {listed : Array Bool} {i : Nat} (hi : i ∉ o3) : late o3 (listed.setIfInBounds i true) = late o3 listed := by
  unfold late
  induction o3 with
  | nil => rfl
  | cons t o3 ih =>
    simp only [List.mem_cons, not_or] at hi
    simp only [List.any_cons]
    rw [ih hi.2, getD_set_ne false hi.1]
theorem late_false {listed : Array Bool} {i f : Nat} (hc : Closed md ops listed) (ha : ∀ t ∈ o3, anc md ops f i t = true) (hu : listed.getD i false = false) : late o3 listed = false := by
  cases h : late o3 listed with
  | false => rfl
  | true =>
    obtain ⟨t, ht, hl⟩ := List.any_eq_true.1 h
    rw [anc_listed hc f t (ha t ht) hl] at hu
    cases hu
theorem getD_un {listed : Array Bool} {i : Nat} (h : listed.getD i true = false) : i < listed.size ∧ listed.getD i false = false := by
  rcases Nat.lt_or_ge i listed.size with h' | h'
  · exact ⟨h', by simp [h'] at h ⊢; exact h⟩
  · simp [Array.getElem?_eq_none h'] at h
theorem wpAnyT_first {Q : Act → World → Prop} {i f : Nat} {oi : Oper} {v : Value} (hi : ops[i]? = some oi) (hsel : ∀ (j : Nat) (o : Oper) cs b, ops[j]? = some o → o.op ≠ .select cs b) (hi3 : i ∉ o3) (ha : ∀ t ∈ o3, anc md ops f i t = true) :
    ∀ (fuel : Nat) (listed : Array Bool) (a : Act) (w : World), Closed md ops listed →
      (∀ j oj, ops[j]? = some oj → j ≠ i → listed.getD j true = false → (∀ e ∈ oj.after, Region.binds md e = true → e.on ≠ i) → oi.apart ops oj = true) →
      i ∈ Region.ready md ops listed → Yin P ops C oi v a →
      wpAnyT P md ops C o3 Q fuel (listed.setIfInBounds i true) (a.put oi.dst v) w → wpAnyT P md ops C o3 Q (fuel + 1) listed a w := by
  intro fuel
  induction fuel with
  | zero =>
    intro listed a w hcl _ hr hy H
    have hl := late_false hcl ha (getD_un (mem_ready.1 hr).1).2
    have h1 := H.1
    rw [late_set hi3] at h1
    refine ⟨h1, fun h => (by rw [h] at hr; cases hr), fun j hj => ?_⟩
    by_cases hji : j = i
    · subst hji; exact hy.wpOp (h1 hl) hi H
    · have := ready_mono hj hji
      rw [H.2.1] at this
      cases this
  | succ fuel ih =>
    intro listed a w hcl hfree hr hy H
    have hl := late_false hcl ha (getD_un (mem_ready.1 hr).1).2
    have h1 := H.1
    rw [late_set hi3] at h1
    refine ⟨h1, fun h => (by rw [h] at hr; cases hr), fun j hj => ?_⟩
    by_cases hji : j = i
    · subst hji; exact hy.wpOp (h1 hl) hi H
    · have h1 := H.2.2 j (ready_mono hj hji)
      obtain ⟨hjun, oj, hoj, hall⟩ := mem_ready.1 hj
      have hnot : ∀ e ∈ oj.after, Region.binds md e = true → e.on ≠ i := fun e he hb heq => by
        have h1 := hall e he hb
        have h0 := (mem_ready.1 hr).1
        rw [heq] at h1
        rw [(getD_un h0).2] at h1
        cases h1
      have h2 := mOp_put hoj (hfree j oj hoj hji hjun hnot) (fun cs b => hsel i oi cs b hi) (fun cs b => hsel j oj cs b hoj) hy h1
      have hfree' : ∀ k ok, ops[k]? = some ok → k ≠ i → (listed.setIfInBounds j true).getD k true = false →
          (∀ e ∈ ok.after, Region.binds md e = true → e.on ≠ i) → oi.apart ops ok = true := fun k ok hk hki hun hno => by
        refine hfree k ok hk hki ?_ hno
        by_cases hjk : j = k
        · subst hjk; exact hjun
        · rw [getD_set_ne true hjk] at hun; exact hun
      refine wpOp_mono (fun a' w' h3 => ih (listed.setIfInBounds j true) a' w' (hcl.set hj) hfree' (ready_mono hr (Ne.symm hji)) h3.1 ?_) h2
      rw [Array.setIfInBounds_comm _ _ hji]
      exact h3.2
theorem late_true {listed : Array Bool} {i : Nat} (hi : i ∈ o3) (hs : i < listed.size) : late o3 (listed.setIfInBounds i true) = true :=
  List.any_eq_true.2 ⟨i, hi, by simp [hs]⟩
/-- one operation that is the only one that may come up -/
theorem wpAnyT_one {Q K : Act → World → Prop} {C' : World → Prop} {i n : Nat} {listed : Array Bool} {a : Act} {w : World} (hr : Region.ready md ops listed = [i]) (hC : late o3 listed = false → C w)
    (hK : ∀ a' w', C' w' → K a' w' → wpAnyT P md ops C o3 Q n (listed.setIfInBounds i true) a' w') (h : wpList P ops (actQ C' K) [ops.toList.getD i default] a w) : wpAnyT P md ops C o3 Q (n + 1) listed a w := by
  have him : i ∈ Region.ready md ops listed := by rw [hr]; simp
  obtain ⟨_, o, ho, _⟩ := mem_ready.1 him
  have hol : ops.toList.getD i default = o := by rw [List.getD_eq_getElem?_getD, Array.getElem?_toList, ho]; rfl
  refine ⟨hC, fun h0 => (by rw [hr] at h0; cases h0), fun j hj => ?_⟩
  obtain rfl : j = i := by rw [hr] at hj; simpa using hj
  rw [hol] at h
  unfold wpList at h
  unfold wpOp
  simp only [ho]
  split
  · rename_i hw
    rw [if_pos hw] at h
    rcases h with h' | ⟨-, h'⟩
    · refine .inl (Oper.wp_mono ?_ (wp_exits (fun _ _ _ h => h) actQ_out h'))
      intro a' w' hh
      obtain ⟨hC', hk⟩ := (hh : actQ C' K .normal a' w')
      exact hK a' w' hC' hk
    · exact (actQ_out h').elim
  · rename_i hw
    rw [if_neg hw] at h
    obtain ⟨hC', hk⟩ := (h : actQ C' K .normal (a.put o.dst undef) w)
    exact hK _ _ hC' hk
theorem wpAnyT_tail {Q : Act → World → Prop} : ∀ (o : List Nat) (listed : Array Bool) (a : Act) (w : World), (∀ t ∈ o, t ∈ o3) → mixA md ops o listed = true → (late o3 listed = false → C w) →
    wpAct P ops (fun _ => True) Q (pick ops.toList o) a w → wpAnyT P md ops C o3 Q o.length listed a w
  | [], listed, a, w, _, hB, hC, h => ⟨hC, by simpa [mixA] using hB, h⟩
  | i :: r, listed, a, w, ho, hB, hC, h => by
    simp only [mixA, Bool.and_eq_true, beq_iff_eq] at hB
    have him : i ∈ Region.ready md ops listed := by rw [hB.1]; simp
    have hs := (getD_un (mem_ready.1 him).1).1
    refine wpAnyT_one (C' := fun _ => True) hB.1 hC (fun a' w' _ hk => wpAnyT_tail r _ a' w' (fun t ht => ho t (by simp [ht])) hB.2 (fun hl => by rw [late_true (ho i (by simp)) hs] at hl; cases hl) hk) ?_
    simp only [pick, List.map_cons] at h
    exact h
theorem wpAnyT_act {Q : Act → World → Prop} : ∀ (o2 : List Nat) (listed : Array Bool) (a : Act) (w : World), mixA md ops (o2 ++ o3) listed = true → C w →
    wpAct P ops C (wpAct P ops (fun _ => True) Q (pick ops.toList o3)) (pick ops.toList o2) a w → wpAnyT P md ops C o3 Q (o2.length + o3.length) listed a w
  | [], listed, a, w, hB, hC, h => by
    rw [List.length_nil, Nat.zero_add]
    exact wpAnyT_tail o3 listed a w (fun _ h => h) hB (fun _ => hC) h
  | i :: r, listed, a, w, hB, hC, h => by
    simp only [List.cons_append, mixA, Bool.and_eq_true, beq_iff_eq] at hB
    rw [List.length_cons, Nat.add_right_comm]
    refine wpAnyT_one (C' := C) hB.1 (fun _ => hC) (fun a' w' hC' hk => wpAnyT_act r _ a' w' hB.2 hC' hk) ?_
    simp only [pick, List.map_cons] at h
    exact h
def headB (md : Region.Mode) (ops : Array Oper) (o1 o3 : List Nat) : Bool := o1.all fun i => !o3.contains i && o3.all fun t => anc md ops ops.size i t
theorem wpAnyT_quiet {Q : Act → World → Prop} (hs : Region.noSelect ops = true) (o2 : List Nat) {w : World} (hC : C w) : ∀ (o1 : List Nat) (listed : Array Bool) (a : Act), headB md ops o1 o3 = true → Closed md ops listed → mixQ md ops (o2 ++ o3) o1 listed = true →
    wpQuiet P ops C (fun a' => wpAct P ops C (wpAct P ops (fun _ => True) Q (pick ops.toList o3)) (pick ops.toList o2) a' w) (pick ops.toList o1) a → wpAnyT P md ops C o3 Q (o1.length + (o2.length + o3.length)) listed a w
  | [], listed, a, _, _, hB, h => by
    rw [List.length_nil, Nat.zero_add]
    exact wpAnyT_act o2 listed a w (by simpa [mixQ] using hB) hC h
  | i :: r, listed, a, hh, hcl, hB, h => by
    simp only [mixQ, Bool.and_eq_true] at hB
    obtain ⟨⟨⟨hr, hf⟩, hn⟩, hB'⟩ := hB
    simp only [headB, List.all_cons, Bool.and_eq_true] at hh
    have him : i ∈ Region.ready md ops listed := by simpa using hr
    obtain ⟨_, o, ho, _⟩ := mem_ready.1 him
    have hol : ops.toList.getD i default = o := by rw [List.getD_eq_getElem?_getD, Array.getElem?_toList, ho]; rfl
    simp only [pick, List.map_cons, hol] at h
    have hn' : noCall o.op = true := by simpa [ho] using hn
    obtain ⟨v, hy, hK⟩ := yin_of_qOp (K := wpQuiet P ops C (fun a' => wpAct P ops C (wpAct P ops (fun _ => True) Q (pick ops.toList o3)) (pick ops.toList o2) a' w) (pick ops.toList r)) hn' h
    rw [List.length_cons, Nat.add_right_comm]
    exact wpAnyT_first ho (Region.noSelect_spec hs) (by simpa using hh.1.1) (fun t ht => (List.all_eq_true.1 hh.1.2) t ht) _ listed a w hcl (Region.free_spec ho hf) him hy
      (wpAnyT_quiet hs o2 hC r _ _ (by simpa [headB] using hh.2) (hcl.set him) hB' hK)
def tailB (md : Region.Mode) (ops : Array Oper) (o1 o2 o3 : List Nat) : Bool :=
  Region.noSelect ops && (o1.length + (o2.length + o3.length) == ops.size) && headB md ops o1 o3 && mixQ md ops (o2 ++ o3) o1 (Array.replicate ops.size false)
theorem none_listed (m j : Nat) : (Array.replicate m false).getD j false = false := by
  rcases Nat.lt_or_ge j m with h | h <;> simp [h]
/-- THE REGION: first 'o1' (they look alone, and all that comes in 'o3' waits for each of them), then 'o2', then 'o3' (each the only one that may come up then). -/
theorem wp_region_tail {id : Nat} {Q : Exit → Act → World → Prop} {a : Act} {w : World} {l : List Oper} (C : World → Prop) (o1 o2 o3 : List Nat) (hm : P.follows .mixedOrders = true) (hB : tailB .any l.toArray o1 o2 o3 = true) (hC : C w.drew)
    (h : wpQuiet P l.toArray C (fun a' => wpAct P l.toArray C (wpAct P l.toArray (fun _ => True) (fun a'' w'' => Q .normal a'' w'') (pick l o3)) (pick l o2) a' w.drew) (pick l o1) a) : (Code.region id l.toArray true).wp P Q a w := by
  simp only [tailB, Bool.and_eq_true, beq_iff_eq] at hB
  obtain ⟨⟨⟨hs, hlen⟩, hh⟩, hB⟩ := hB
  refine wp_region_any hm ?_
  have h1 := wpAnyT_quiet (Q := fun a'' w'' => Q .normal a'' w'') (md := .any) (w := w.drew) hs o2 hC o1 (Array.replicate l.toArray.size false) a hh (fun j oj _ hl => by rw [none_listed] at hl; cases hl) hB (by simpa using h)
  rw [hlen] at h1
  exact wpAny_of_T (fun a w hq => hq) _ _ _ _ h1
/-- .. where memory grows alone ahead of the tail -/
theorem wp_region_tailg {id : Nat} {Q : Exit → Act → World → Prop} {a : Act} {w : World} {l : List Oper} (o1 o2 o3 : List Nat) (hm : P.follows .mixedOrders = true) (hB : tailB .any l.toArray o1 o2 o3 = true)
    (h : wpQuiet P l.toArray (fun w' => ∃ x, w' = ext w x) (fun a' => wpAct P l.toArray (fun w' => ∃ x, w' = ext w x) (wpAct P l.toArray (fun _ => True) (fun a'' w'' => Q .normal a'' w'') (pick l o3)) (pick l o2) a' w.drew) (pick l o1) a) : (Code.region id l.toArray true).wp P Q a w :=
  wp_region_tail (C := fun w' => ∃ x, w' = ext w x) o1 o2 o3 hm hB (ex_ext (below_drewN w 1)) h
end
end Go.Cm
