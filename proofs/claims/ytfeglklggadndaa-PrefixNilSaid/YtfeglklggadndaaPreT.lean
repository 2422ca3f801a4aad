/- The table of codes, in plain Lean: what its entries say, and that filling it symbol by symbol keeps that true. Conditions: none. -/
import Derived.Test.YtfeglklggadndaaPreM
namespace Go.Cm

structure Ent where
  s : Nat
  b : Nat
  t : Nat
def Ent.zero : Ent := ⟨0, 0, 0⟩
/-- a further table: its block, how many bits it is asked with, its entries -/
structure Sub where
  g : Nat
  m : Nat
  F : Nat → Ent
theorem turnN_turnN (c n : Nat) (h : c < 2 ^ n) : turnN (turnN c n) n = c := by
  refine eq_of_bits n (turnN_lt _ _) h fun i hi => ?_
  rw [turnN_bit, turnN_bit, decide_eq_true hi, Bool.true_and, decide_eq_true (show n - 1 - i < n by omega), Bool.true_and]
  congr 1; omega
theorem turn_iff (x c n : Nat) (h : c < 2 ^ n) : x % 2 ^ n = turnN c n ↔ c = turnN x n := by
  constructor
  · intro he
    rw [← turnN_mod x n n (Nat.le_refl _), he, turnN_turnN c n h]
  · intro he
    rw [he, ← turnN_mod x n n (Nat.le_refl _), turnN_turnN _ n (Nat.mod_lt _ (Nat.pow_pos (by decide)))]
theorem turnN_add (V n r : Nat) : turnN V (n + r) = turnN V n * 2 ^ r + turnN (V / 2 ^ n) r := by
  induction r with
  | zero => simp [turnN]
  | succ r ih =>
    rw [← Nat.add_assoc, turnN_succ, ih, turnN_succ, Nat.testBit_div_two_pow, Nat.pow_succ, Nat.add_comm r n, Nat.mul_add, ← Nat.mul_assoc (turnN V n), Nat.mul_comm (turnN V n * 2 ^ r) 2]
    omega
/-- symbol j's code is longer than 9 bits, and its first 9 ones are x -/
def headN (L : List Nat) (j x : Nat) : Prop := 9 < L.getD j 0 ∧ codeN L j / 2 ^ (L.getD j 0 - 9) = turnN x 9
section
variable {L : List Nat}
theorem head_of_hit {V j : Nat} (h : hitN L V j) (h9 : 9 < L.getD j 0) : headN L j (V % 512) := by
  refine ⟨h9, ?_⟩
  rw [h.2]
  obtain ⟨d, hd⟩ : ∃ d, L.getD j 0 = 9 + d := ⟨L.getD j 0 - 9, by omega⟩
  rw [hd, Nat.add_sub_cancel_left, turnN_cut, show (512 : Nat) = 2 ^ 9 by decide, turnN_mod V 9 9 (Nat.le_refl _)]
theorem head_apart {i j x : Nat} (hi : i < L.length) (hj : j < L.length) (h : headN L j x) (hh : hitN L x i) (h9 : L.getD i 0 ≤ 9) : False := by
  have : i = j := by
    refine code_apart i j hi hj hh.1 (by have := h.1; omega) ?_
    obtain ⟨d, hd⟩ : ∃ d, 9 = L.getD i 0 + d := ⟨9 - L.getD i 0, by omega⟩
    have h1 := h.1
    have e : L.getD j 0 - L.getD i 0 = (L.getD j 0 - 9) + d := by omega
    rw [e, Nat.pow_add, ← Nat.div_div_eq_div_mul, h.2, hh.2, hd, turnN_cut]
  subst this
  have := h.1; omega
theorem head_inj {j x y : Nat} (hx : x < 512) (hy : y < 512) (h : headN L j x) (k : headN L j y) : x = y := by
  have e := h.2.symm.trans k.2
  have h1 := turnN_turnN x 9 (by simpa using hx)
  have h2 := turnN_turnN y 9 (by simpa using hy)
  rw [← h1, ← h2, e]
/-- the table behind i symbols -/
structure TabOk (L : List Nat) (i : Nat) (E : Nat → Ent) (fs : List Sub) : Prop where
  low : ∀ x, x < 512 → (E x).t = 0 → (∀ j, j < i → hitN L x j → L.getD j 0 ≤ 9 → E x = ⟨j, L.getD j 0, 0⟩) ∧ ((E x).b ≠ 0 → ∃ j, j < i ∧ hitN L x j ∧ L.getD j 0 ≤ 9)
  far : ∀ x k, x < 512 → (E x).t = k + 1 → ∃ f, fs[k]? = some f ∧ f.m ≤ 6 ∧ (∀ j, j < L.length → headN L j x → L.getD j 0 ≤ 9 + f.m) ∧ (∃ j, j < i ∧ headN L j x) ∧
    ∀ y, y < 2 ^ f.m → (∀ j, j < i → 9 < L.getD j 0 → hitN L (x + 512 * y) j → f.F y = ⟨j, L.getD j 0, 0⟩) ∧ ((f.F y).b ≠ 0 → ∃ j, j < i ∧ 9 < L.getD j 0 ∧ hitN L (x + 512 * y) j)
  one : ∀ x y, x < 512 → y < 512 → (E x).t = (E y).t → (E x).t ≠ 0 → x = y
  all : ∀ j, j < i → ∀ x, x < 512 → headN L j x → (E x).t ≠ 0
theorem TabOk.start (L : List Nat) : TabOk L 0 (fun _ => Ent.zero) [] :=
  ⟨fun x _ _ => ⟨fun j hj => absurd hj (Nat.not_lt_zero j), fun h => absurd rfl h⟩, fun x k _ h => (by cases h), fun x y _ _ _ h => absurd rfl h, fun j hj => absurd hj (Nat.not_lt_zero j)⟩
variable {i : Nat} {E : Nat → Ent} {fs : List Sub}
/-- entries for a code's last bits -/
def fillN (E : Nat → Ent) (c n : Nat) (e : Ent) : Nat → Ent := fun x => if x % 2 ^ n = turnN c n then e else E x
theorem TabOk.none (h : TabOk L i E fs) (h0 : L.getD i 0 = 0) : TabOk L (i + 1) E fs := by
  have hno : ∀ V, ¬ hitN L V i := fun V hh => hh.1 h0
  have hnh : ∀ x, ¬ headN L i x := fun x hh => by have := hh.1; omega
  refine ⟨fun x hx ht => ?_, fun x k hx ht => ?_, h.one, fun j hj x hx hh => ?_⟩
  · obtain ⟨h1, h2⟩ := h.low x hx ht
    refine ⟨fun j hj hh => ?_, fun hb => ?_⟩
    · rcases Nat.lt_succ_iff_lt_or_eq.1 hj with hj | rfl
      · exact h1 j hj hh
      · exact absurd hh (hno _)
    · obtain ⟨j, hj, hr⟩ := h2 hb; exact ⟨j, by omega, hr⟩
  · obtain ⟨f, hf, hm, hl, ⟨j0, hj0, hh0⟩, hy⟩ := h.far x k hx ht
    refine ⟨f, hf, hm, hl, ⟨j0, by omega, hh0⟩, fun y hym => ?_⟩
    obtain ⟨h1, h2⟩ := hy y hym
    refine ⟨fun j hj h9 hh => ?_, fun hb => ?_⟩
    · rcases Nat.lt_succ_iff_lt_or_eq.1 hj with hj | rfl
      · exact h1 j hj h9 hh
      · exact absurd hh (hno _)
    · obtain ⟨j, hj, hr⟩ := h2 hb; exact ⟨j, by omega, hr⟩
  · rcases Nat.lt_succ_iff_lt_or_eq.1 hj with hj | rfl
    · exact h.all j hj x hx hh
    · exact absurd hh (hnh _)
theorem TabOk.short (h : TabOk L i E fs) (hi : i < L.length) (h15 : ∀ x ∈ L, x ≤ 15) (hk : kraftN L ≤ 32768) (h0 : L.getD i 0 ≠ 0) (h9 : L.getD i 0 ≤ 9) :
    TabOk L (i + 1) (fillN E (codeN L i) (L.getD i 0) ⟨i, L.getD i 0, 0⟩) fs := by
  have hc := code_lt h15 hk i hi
  have hE : ∀ x, fillN E (codeN L i) (L.getD i 0) ⟨i, L.getD i 0, 0⟩ x = if codeN L i = turnN x (L.getD i 0) then ⟨i, L.getD i 0, 0⟩ else E x := fun x => by
    unfold fillN
    by_cases h : x % 2 ^ L.getD i 0 = turnN (codeN L i) (L.getD i 0)
    · rw [if_pos h, if_pos ((turn_iff _ _ _ hc).1 h)]
    · rw [if_neg h, if_neg (fun q => h ((turn_iff _ _ _ hc).2 q))]
  have hnh : ∀ x, ¬ headN L i x := fun x hh => by have := hh.1; omega
  refine ⟨fun x hx ht => ?_, fun x k hx ht => ?_, fun x y hx hy he hne => ?_, fun j hj x hx hh => ?_⟩
  · rw [hE] at ht ⊢
    by_cases hx0 : codeN L i = turnN x (L.getD i 0)
    · rw [if_pos hx0] at ht ⊢
      have hhit : hitN L x i := ⟨h0, hx0⟩
      refine ⟨fun j hj hh h9' => ?_, fun _ => ⟨i, by omega, hhit, h9⟩⟩
      have : i = j := hit_one hi (by omega) hhit hh
      subst this; rfl
    · rw [if_neg hx0] at ht ⊢
      obtain ⟨h1, h2⟩ := h.low x hx ht
      refine ⟨fun j hj hh => ?_, fun hb => ?_⟩
      · rcases Nat.lt_succ_iff_lt_or_eq.1 hj with hj | rfl
        · exact h1 j hj hh
        · exact absurd hh.2 hx0
      · obtain ⟨j, hj, hr⟩ := h2 hb; exact ⟨j, by omega, hr⟩
  · rw [hE] at ht
    split at ht
    · cases ht
    · obtain ⟨f, hf, hm, hl, ⟨j0, hj0, hh0⟩, hy⟩ := h.far x k hx ht
      refine ⟨f, hf, hm, hl, ⟨j0, by omega, hh0⟩, fun y hym => ?_⟩
      obtain ⟨h1, h2⟩ := hy y hym
      refine ⟨fun j hj h9' hh => ?_, fun hb => ?_⟩
      · rcases Nat.lt_succ_iff_lt_or_eq.1 hj with hj | rfl
        · exact h1 j hj h9' hh
        · omega
      · obtain ⟨j, hj, hr⟩ := h2 hb; exact ⟨j, by omega, hr⟩
  · rw [hE, hE] at he
    rw [hE] at hne
    split at hne
    · exact absurd rfl hne
    · rename_i hx0
      rw [if_neg hx0] at he
      split at he
      · exact absurd he hne
      · exact h.one x y hx hy he hne
  · rcases Nat.lt_succ_iff_lt_or_eq.1 hj with hj | rfl
    · rw [hE]
      split
      · rename_i hx0
        exact (head_apart hi (by omega) hh ⟨h0, hx0⟩ h9).elim
      · exact h.all j hj x hx hh
    · exact absurd hh (hnh _)
def updN (E : Nat → Ent) (x : Nat) (e : Ent) : Nat → Ent := fun z => if z = x then e else E z
theorem hit_long (hc : ∀ j, j < L.length → codeN L j < 2 ^ L.getD j 0) {i x y r : Nat} (hi : i < L.length) (hx : x < 512) (hr : L.getD i 0 = 9 + r) (hh : codeN L i / 2 ^ r = turnN x 9) :
    (y % 2 ^ r = turnN (codeN L i % 2 ^ r) r ↔ codeN L i = turnN (x + 512 * y) (L.getD i 0)) := by
  have hm : codeN L i % 2 ^ r < 2 ^ r := Nat.mod_lt _ (Nat.pow_pos (by decide))
  rw [turn_iff _ _ _ hm, hr, turnN_add]
  have h1 : (x + 512 * y) / 2 ^ 9 = y := by rw [show (2 : Nat) ^ 9 = 512 by decide]; omega
  have h2 : turnN (x + 512 * y) 9 = turnN x 9 := by
    rw [← turnN_mod (x + 512 * y) 9 9 (Nat.le_refl _), ← turnN_mod x 9 9 (Nat.le_refl _), show (2 : Nat) ^ 9 = 512 by decide]
    congr 1; omega
  rw [h1, h2, ← hh]
  have h3 := Nat.div_add_mod (codeN L i) (2 ^ r)
  rw [Nat.mul_comm] at h3
  constructor
  · intro h; rw [← h]; omega
  · intro h; omega
/-- a code of more than 9 bits, whose further table is there (step A done) -/
theorem TabOk.long (h : TabOk L i E fs) (hi : i < L.length) (h15 : ∀ x ∈ L, x ≤ 15) (hk : kraftN L ≤ 32768) (h9 : 9 < L.getD i 0) {x k : Nat} (hx : x < 512) (hh : headN L i x) (ht : (E x).t = k + 1) {f : Sub} (hf : fs[k]? = some f) :
    TabOk L (i + 1) E (fs.set k ⟨f.g, f.m, fillN f.F (codeN L i % 2 ^ (L.getD i 0 - 9)) (L.getD i 0 - 9) ⟨i, L.getD i 0, 0⟩⟩) := by
  have hc := fun j hj => code_lt h15 hk j hj
  have hlk : k < fs.length := (List.getElem?_eq_some_iff.1 hf).1
  have hr : L.getD i 0 = 9 + (L.getD i 0 - 9) := by omega
  refine ⟨fun z hz htz => ?_, fun z q hz htz => ?_, h.one, fun j hj z hz hhz => ?_⟩
  · obtain ⟨h1, h2⟩ := h.low z hz htz
    refine ⟨fun j hj hhj hj9 => ?_, fun hb => ?_⟩
    · rcases Nat.lt_succ_iff_lt_or_eq.1 hj with hj | rfl
      · exact h1 j hj hhj hj9
      · omega
    · obtain ⟨j, hj, hr⟩ := h2 hb; exact ⟨j, by omega, hr⟩
  · obtain ⟨f', hf', hm, hl, ⟨j0, hj0, hh0⟩, hy⟩ := h.far z q hz htz
    by_cases hq : k = q
    · subst hq
      obtain rfl : f = f' := Option.some.inj (hf.symm.trans hf')
      have hzx : z = x := h.one z x hz hx (by rw [htz, ht]) (by omega)
      subst hzx
      refine ⟨⟨f.g, f.m, fillN f.F (codeN L i % 2 ^ (L.getD i 0 - 9)) (L.getD i 0 - 9) ⟨i, L.getD i 0, 0⟩⟩, by rw [List.getElem?_set_self hlk], hm, hl, ⟨j0, by omega, hh0⟩, fun y hym => ?_⟩
      obtain ⟨h1, h2⟩ := hy y hym
      have hkey := hit_long hc (i := i) (x := z) (y := y) hi hz hr hh.2
      simp only [fillN]
      by_cases hmt : y % 2 ^ (L.getD i 0 - 9) = turnN (codeN L i % 2 ^ (L.getD i 0 - 9)) (L.getD i 0 - 9)
      · rw [if_pos hmt]
        have hhit : hitN L (z + 512 * y) i := ⟨by omega, hkey.1 hmt⟩
        refine ⟨fun j hj hj9 hhj => ?_, fun _ => ⟨i, by omega, h9, hhit⟩⟩
        have : i = j := hit_one hi (by omega) hhit hhj
        subst this; rfl
      · rw [if_neg hmt]
        refine ⟨fun j hj hj9 hhj => ?_, fun hb => ?_⟩
        · rcases Nat.lt_succ_iff_lt_or_eq.1 hj with hj | rfl
          · exact h1 j hj hj9 hhj
          · exact absurd (hkey.2 hhj.2) hmt
        · obtain ⟨j, hj, hr⟩ := h2 hb; exact ⟨j, by omega, hr⟩
    · refine ⟨f', by rw [List.getElem?_set_ne hq]; exact hf', hm, hl, ⟨j0, by omega, hh0⟩, fun y hym => ?_⟩
      obtain ⟨h1, h2⟩ := hy y hym
      refine ⟨fun j hj hj9 hhj => ?_, fun hb => ?_⟩
      · rcases Nat.lt_succ_iff_lt_or_eq.1 hj with hj | rfl
        · exact h1 j hj hj9 hhj
        · have hz2 := head_of_hit hhj hj9
          rw [show (z + 512 * y) % 512 = z by omega] at hz2
          have := head_inj hz hx hz2 hh
          subst this
          omega
      · obtain ⟨j, hj, hr⟩ := h2 hb; exact ⟨j, by omega, hr⟩
  · rcases Nat.lt_succ_iff_lt_or_eq.1 hj with hj | rfl
    · exact h.all j hj z hz hhz
    · have := head_inj hz hx hhz hh
      subst this; omega
/-- .. and whose further table is new -/
theorem TabOk.fresh (h : TabOk L i E fs) (hi : i < L.length) (h15 : ∀ x ∈ L, x ≤ 15) (hk : kraftN L ≤ 32768) (h9 : 9 < L.getD i 0) {x : Nat} (hx : x < 512) (hh : headN L i x) (ht : (E x).t = 0) {g m : Nat} (hm : m ≤ 6) (hml : ∀ j, j < L.length → headN L j x → L.getD j 0 ≤ 9 + m) {b : Nat} :
    TabOk L (i + 1) (updN E x ⟨0, b, fs.length + 1⟩) (fs ++ [⟨g, m, fillN (fun _ => Ent.zero) (codeN L i % 2 ^ (L.getD i 0 - 9)) (L.getD i 0 - 9) ⟨i, L.getD i 0, 0⟩⟩]) := by
  have hc := fun j hj => code_lt h15 hk j hj
  have hr : L.getD i 0 = 9 + (L.getD i 0 - 9) := by omega
  have hEx : updN E x ⟨0, b, fs.length + 1⟩ x = ⟨0, b, fs.length + 1⟩ := by unfold updN; rw [if_pos rfl]
  have hEz : ∀ z, z ≠ x → updN E x ⟨0, b, fs.length + 1⟩ z = E z := fun z hz => by unfold updN; rw [if_neg hz]
  have hle : ∀ z k, z < 512 → (E z).t = k + 1 → k < fs.length := fun z k hz htz => by
    obtain ⟨f, hf, _⟩ := h.far z k hz htz
    exact (List.getElem?_eq_some_iff.1 hf).1
  have hlt : ∀ z, z < 512 → (E z).t ≤ fs.length := fun z hz => by
    cases hq : (E z).t with
    | zero => omega
    | succ k => exact hle z k hz hq
  refine ⟨fun z hz htz => ?_, fun z q hz htz => ?_, fun y z hy hz he hne => ?_, fun j hj z hz hhz => ?_⟩
  · by_cases hzx : z = x
    · subst hzx; rw [hEx] at htz; cases htz
    · rw [hEz z hzx] at htz ⊢
      obtain ⟨h1, h2⟩ := h.low z hz htz
      refine ⟨fun j hj hhj hj9 => ?_, fun hb => ?_⟩
      · rcases Nat.lt_succ_iff_lt_or_eq.1 hj with hj | rfl
        · exact h1 j hj hhj hj9
        · omega
      · obtain ⟨j, hj, hr⟩ := h2 hb; exact ⟨j, by omega, hr⟩
  · by_cases hzx : z = x
    · subst hzx
      rw [hEx] at htz
      obtain rfl : fs.length = q := by simpa using htz
      refine ⟨_, by rw [List.getElem?_append_right (Nat.le_refl _), Nat.sub_self]; rfl, hm, hml, ⟨i, by omega, hh⟩, fun y hym => ?_⟩
      have hkey := hit_long hc (i := i) (x := z) (y := y) hi hz hr hh.2
      simp only [fillN]
      by_cases hmt : y % 2 ^ (L.getD i 0 - 9) = turnN (codeN L i % 2 ^ (L.getD i 0 - 9)) (L.getD i 0 - 9)
      · rw [if_pos hmt]
        have hhit : hitN L (z + 512 * y) i := ⟨by omega, hkey.1 hmt⟩
        refine ⟨fun j hj hj9 hhj => ?_, fun _ => ⟨i, by omega, h9, hhit⟩⟩
        have : i = j := hit_one hi (by omega) hhit hhj
        subst this; rfl
      · rw [if_neg hmt]
        refine ⟨fun j hj hj9 hhj => ?_, fun hb => absurd rfl hb⟩
        rcases Nat.lt_succ_iff_lt_or_eq.1 hj with hj | rfl
        · have hz2 := head_of_hit hhj hj9
          rw [show (z + 512 * y) % 512 = z by omega] at hz2
          exact absurd ht (h.all j hj z hz hz2)
        · exact absurd (hkey.2 hhj.2) hmt
    · rw [hEz z hzx] at htz
      obtain ⟨f', hf', hm', hl, ⟨j0, hj0, hh0⟩, hy⟩ := h.far z q hz htz
      refine ⟨f', by rw [List.getElem?_append_left (hle z q hz htz)]; exact hf', hm', hl, ⟨j0, by omega, hh0⟩, fun y hym => ?_⟩
      obtain ⟨h1, h2⟩ := hy y hym
      refine ⟨fun j hj hj9 hhj => ?_, fun hb => ?_⟩
      · rcases Nat.lt_succ_iff_lt_or_eq.1 hj with hj | rfl
        · exact h1 j hj hj9 hhj
        · have hz2 := head_of_hit hhj hj9
          rw [show (z + 512 * y) % 512 = z by omega] at hz2
          exact absurd (head_inj hz hx hz2 hh) hzx
      · obtain ⟨j, hj, hr⟩ := h2 hb; exact ⟨j, by omega, hr⟩
  · by_cases hyx : y = x
    · by_cases hzx : z = x
      · rw [hyx, hzx]
      · rw [hyx, hEx, hEz z hzx] at he
        have := hlt z hz
        simp only at he; omega
    · by_cases hzx : z = x
      · rw [hEz y hyx, hzx, hEx] at he
        have := hlt y hy
        simp only at he; omega
      · rw [hEz y hyx, hEz z hzx] at he
        rw [hEz y hyx] at hne
        exact h.one y z hy hz he hne
  · by_cases hzx : z = x
    · subst hzx; rw [hEx]; simp
    · rw [hEz z hzx]
      rcases Nat.lt_succ_iff_lt_or_eq.1 hj with hj | rfl
      · exact h.all j hj z hz hhz
      · exact absurd (head_inj hz hx hhz hh) hzx

/-- what bits lead to -/
def lookN (E : Nat → Ent) (fs : List Sub) (V : Nat) : Ent :=
  match (E (V % 512)).t with
  | 0 => E (V % 512)
  | k + 1 => match fs[k]? with
    | some f => f.F (V / 512 % 2 ^ f.m)
    | none => Ent.zero
theorem TabOk.look (h : TabOk L L.length E fs) (h15 : ∀ x ∈ L, x ≤ 15) (V : Nat) :
    (∀ j, j < L.length → hitN L V j → lookN E fs V = ⟨j, L.getD j 0, 0⟩) ∧ ((lookN E fs V).b ≠ 0 → ∃ j, j < L.length ∧ hitN L V j) := by
  have hx : V % 512 < 512 := by omega
  have h512 : (512 : Nat) = 2 ^ 9 := by decide
  unfold lookN
  cases ht : (E (V % 512)).t with
  | zero =>
    obtain ⟨h1, h2⟩ := h.low _ hx ht
    refine ⟨fun j hj hh => ?_, fun hb => ?_⟩
    · by_cases h9 : L.getD j 0 ≤ 9
      · exact h1 j hj (by rw [h512, hit_mod h9]; exact hh) h9
      · exact absurd ht (h.all j hj _ hx (head_of_hit hh (by omega)))
    · obtain ⟨j, hj, hh, h9⟩ := h2 hb
      rw [h512, hit_mod h9] at hh
      exact ⟨j, hj, hh⟩
  | succ k =>
    obtain ⟨f, hf, hm, hl, ⟨j0, hj0, hh0⟩, hy⟩ := h.far _ k hx ht
    simp only [hf]
    obtain ⟨h1, h2⟩ := hy (V / 512 % 2 ^ f.m) (Nat.mod_lt _ (Nat.pow_pos (by decide)))
    have hV : V % 512 + 512 * (V / 512 % 2 ^ f.m) = V % 2 ^ (9 + f.m) := by
      rw [Nat.pow_add, h512, Nat.mod_mul]
    rw [hV] at h1 h2
    refine ⟨fun j hj hh => ?_, fun hb => ?_⟩
    · by_cases h9 : L.getD j 0 ≤ 9
      · exact (head_apart hj hj0 hh0 (by rw [h512, hit_mod h9]; exact hh) h9).elim
      · have := hl j hj (head_of_hit hh (by omega))
        exact h1 j hj (by omega) (by rw [hit_mod this]; exact hh)
    · obtain ⟨j, hj, h9, hh⟩ := h2 hb
      have hhd := head_of_hit hh h9
      rw [show V % 2 ^ (9 + f.m) % 512 = V % 512 by rw [Nat.pow_add, ← h512, Nat.mod_mul_right_mod]] at hhd
      rw [hit_mod (hl j hj hhd)] at hh
      exact ⟨j, hj, hh⟩
end
end Go.Cm
