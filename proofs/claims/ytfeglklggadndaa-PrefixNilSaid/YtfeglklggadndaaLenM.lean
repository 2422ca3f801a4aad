/- Codes made of lengths, in plain Lean: counts, first codes, ranks, the sum of Kraft. Conditions: none. -/
import Derived.Test.YtfeglklggadndaaDfaM
import Derived.Test.YtfeglklggadndaaOwn
namespace Go.Cm

def nls (l : List Nat) : List Int := l.map fun n : Nat => (n : Int)
theorem nls_length (l : List Nat) : (nls l).length = l.length := by simp [nls]
theorem nls_getD (l : List Nat) (i : Nat) : (nls l).getD i 0 = (l.getD i 0 : Nat) := by
  simp only [nls, List.getD_eq_getElem?_getD, List.getElem?_map]
  cases l[i]? <;> simp
theorem nls_set (l : List Nat) (i n : Nat) : (nls l).set i (n : Int) = nls (l.set i n) := by simp [nls, List.map_set]
/-- what is wrong of lengths at first sight -/
def wrongI (l : List Int) : Nat := if 320 < l.length then 3 else if (∀ x ∈ l, 0 ≤ x ∧ x ≤ 15) then 0 else 1
theorem wrongI_zero {l : List Int} (h : wrongI l = 0) : l.length ≤ 320 ∧ ∀ x ∈ l, 0 ≤ x ∧ x ≤ 15 := by
  unfold wrongI at h
  split at h
  · cases h
  · split at h
    · exact ⟨by omega, by assumption⟩
    · cases h
theorem nls_of {l : List Int} (h : ∀ x ∈ l, 0 ≤ x ∧ x ≤ 15) : ∃ L : List Nat, l = nls L ∧ ∀ x ∈ L, x ≤ 15 := by
  refine ⟨l.map Int.toNat, ?_, fun x hx => ?_⟩
  · unfold nls
    rw [List.map_map]
    conv => lhs; rw [← List.map_id l]
    refine List.map_congr_left fun x hx => ?_
    have := h x hx
    show x = ((x.toNat : Nat) : Int)
    omega
  · obtain ⟨y, hy, rfl⟩ := List.mem_map.1 hx
    have := h y hy; omega
theorem wrongI_nls {L : List Nat} (h1 : L.length ≤ 320) (h : ∀ x ∈ L, x ≤ 15) : wrongI (nls L) = 0 := by
  unfold wrongI
  rw [nls_length, if_neg (by omega), if_pos]
  intro x hx
  obtain ⟨y, hy, rfl⟩ := List.mem_map.1 hx
  have := h y hy; omega

def kw (x : Nat) : Nat := if 0 < x then 2 ^ (15 - x) else 0
/-- the sum of Kraft, in parts of 32768 -/
def kraftN (L : List Nat) : Nat := (L.map kw).sum
/-- what is wrong of lengths -/
def errI (l : List Int) : Nat := if wrongI l ≠ 0 then wrongI l else if 32768 < kraftN (l.map Int.toNat) then 7 else 0
theorem nls_toNat (L : List Nat) : (nls L).map Int.toNat = L := by
  unfold nls
  rw [List.map_map]
  conv => rhs; rw [← List.map_id L]
  exact List.map_congr_left fun x _ => by simp
/-- the first code of each length -/
def firstN (L : List Nat) : Nat → Nat
  | 0 => 0
  | n + 1 => if n = 0 then 0 else 2 * (firstN L n + L.count n)
def rankN (L : List Nat) (i : Nat) : Nat := (L.take i).count (L.getD i 0)
/-- each symbol's code -/
def codeN (L : List Nat) (i : Nat) : Nat := if L.getD i 0 = 0 then 0 else firstN L (L.getD i 0) + rankN L i
def codesN (L : List Nat) : List Nat := (List.range L.length).map (codeN L)
/-- the sum over counts -/
def totN (L : List Nat) : Nat → Nat
  | 0 => 0
  | k + 1 => totN L k + L.count (k + 1) * 2 ^ (14 - k)
theorem totN_nil (k : Nat) : totN [] k = 0 := by induction k with
  | zero => rfl
  | succ k ih => simp [totN, ih]
theorem totN_cons (x : Nat) (L : List Nat) (k : Nat) (hk : k ≤ 15) : totN (x :: L) k = totN L k + if 0 < x ∧ x ≤ k then 2 ^ (15 - x) else 0 := by
  induction k with
  | zero => simp [totN]; omega
  | succ k ih =>
    simp only [totN]
    rw [ih (by omega), List.count_cons]
    by_cases h : x = k + 1
    · subst h
      rw [if_neg (show ¬ (0 < k + 1 ∧ k + 1 ≤ k) by omega), if_pos (show 0 < k + 1 ∧ k + 1 ≤ k + 1 by omega), if_pos (beq_self_eq_true _)]
      rw [Nat.add_mul, Nat.one_mul, show 15 - (k + 1) = 14 - k by omega]; omega
    · have : (x == k + 1) = false := by simpa using h
      simp only [this, Bool.false_eq_true, if_false, Nat.add_zero]
      by_cases h2 : 0 < x ∧ x ≤ k
      · rw [if_pos h2, if_pos (by omega)]; omega
      · rw [if_neg h2, if_neg (by omega)]; omega
theorem totN_all (L : List Nat) (h : ∀ x ∈ L, x ≤ 15) : totN L 15 = kraftN L := by
  induction L with
  | nil => rw [totN_nil]; rfl
  | cons x L ih =>
    rw [totN_cons x L 15 (by omega), ih (fun y hy => h y (by simp [hy]))]
    have hx := h x (by simp)
    unfold kraftN kw
    simp only [List.map_cons, List.sum_cons]
    by_cases h2 : 0 < x
    · rw [if_pos ⟨h2, hx⟩, if_pos h2]; omega
    · rw [if_neg (by omega), if_neg h2]; omega
theorem totN_mono (L : List Nat) {j k : Nat} (h : j ≤ k) : totN L j ≤ totN L k := by
  induction k with
  | zero => have : j = 0 := by omega
            subst this; exact Nat.le_refl _
  | succ k ih =>
    by_cases e : j = k + 1
    · subst e; exact Nat.le_refl _
    · exact Nat.le_trans (ih (by omega)) (by simp [totN])
theorem totN_le' (c : Nat) (hc : 2 ^ 15 ≤ c) (L : List Nat) (k : Nat) (hk : k ≤ 15) : totN L k ≤ L.length * c := by
  induction L with
  | nil => rw [totN_nil]; exact Nat.zero_le _
  | cons x L ih =>
    rw [totN_cons x L k hk, List.length_cons, Nat.add_mul, Nat.one_mul]
    refine Nat.add_le_add ih ?_
    split
    · exact Nat.le_trans (Nat.pow_le_pow_right (by decide) (by omega)) hc
    · exact Nat.zero_le _
theorem totN_le (L : List Nat) (k : Nat) (hk : k ≤ 15) : totN L k ≤ L.length * 32768 := totN_le' 32768 (by decide) L k hk
theorem first_tot (L : List Nat) (n : Nat) (hn : n ≤ 14) : firstN L (n + 1) * 2 ^ (14 - n) = totN L n := by
  induction n with
  | zero => simp [firstN, totN]
  | succ n ih =>
    have h := ih (by omega)
    show (if n + 1 = 0 then 0 else 2 * (firstN L (n + 1) + L.count (n + 1))) * 2 ^ (14 - (n + 1)) = totN L n + L.count (n + 1) * 2 ^ (14 - n)
    rw [if_neg (by omega), ← h]
    obtain ⟨q, hq⟩ : ∃ q, 14 - n = q + 1 := ⟨13 - n, by omega⟩
    rw [hq, show 14 - (n + 1) = q by omega, Nat.pow_succ, ← Nat.add_mul]
    rw [Nat.mul_comm 2, Nat.mul_assoc, Nat.mul_comm 2]
theorem first_zero (L : List Nat) : firstN L 0 = 0 ∧ firstN L 1 = 0 := ⟨rfl, rfl⟩
theorem first_succ (L : List Nat) (n : Nat) (hn : 1 ≤ n) : firstN L (n + 1) = 2 * (firstN L n + L.count n) := by
  show (if n = 0 then 0 else 2 * (firstN L n + L.count n)) = _
  rw [if_neg (by omega)]
section
variable {L : List Nat} (hL : ∀ x ∈ L, x ≤ 15) (hK : kraftN L ≤ 32768)
include hL hK
/-- the codes of a length are none too many -/
theorem full_le (n : Nat) (h1 : 1 ≤ n) (h2 : n ≤ 15) : firstN L n + L.count n ≤ 2 ^ n := by
  obtain ⟨m, rfl⟩ : ∃ m, n = m + 1 := ⟨n - 1, by omega⟩
  have h := first_tot L m (by omega)
  have h3 : totN L (m + 1) ≤ totN L 15 := totN_mono L (by omega)
  rw [totN_all L hL] at h3
  have h4 : totN L (m + 1) = (firstN L (m + 1) + L.count (m + 1)) * 2 ^ (14 - m) := by
    show totN L m + L.count (m + 1) * 2 ^ (14 - m) = _
    rw [← h, Nat.add_mul]
  have h5 : (firstN L (m + 1) + L.count (m + 1)) * 2 ^ (14 - m) ≤ 2 ^ (m + 1) * 2 ^ (14 - m) := by
    rw [← h4, ← Nat.pow_add, show m + 1 + (14 - m) = 15 by omega]
    exact Nat.le_trans h3 hK
  exact Nat.le_of_mul_le_mul_right h5 (Nat.pow_pos (by decide))
theorem first_le (n : Nat) (h2 : n ≤ 15) : firstN L n ≤ 32768 := by
  rcases Nat.eq_zero_or_pos n with rfl | h
  · simp [firstN]
  · have := full_le hL hK n h h2
    have h3 : 2 ^ n ≤ 2 ^ 15 := Nat.pow_le_pow_right (by decide) h2
    omega
end
/-- longer codes begin behind all shorter ones -/
theorem first_far (L : List Nat) (n d : Nat) (h1 : 1 ≤ n) : (firstN L n + L.count n) * 2 ^ (d + 1) ≤ firstN L (n + (d + 1)) := by
  induction d with
  | zero => rw [show n + (0 + 1) = n + 1 by omega, first_succ L n h1]; omega
  | succ d ih =>
    rw [show n + (d + 1 + 1) = (n + (d + 1)) + 1 by omega, first_succ L _ (by omega), Nat.pow_succ, ← Nat.mul_assoc]
    omega
theorem rank_lt (L : List Nat) (i : Nat) (hi : i < L.length) : rankN L i < L.count (L.getD i 0) := by
  unfold rankN
  have h := take_succ_getD L i 0 hi
  have h2 : (L.take (i + 1)).count (L.getD i 0) ≤ L.count (L.getD i 0) := List.Sublist.count_le _ (List.take_sublist _ _)
  rw [h, List.count_append] at h2
  simp only [List.count_cons_self, List.count_nil] at h2
  omega
theorem count_take_succ (L : List Nat) (i n : Nat) (hi : i < L.length) : (L.take (i + 1)).count n = (L.take i).count n + if L.getD i 0 = n then 1 else 0 := by
  rw [take_succ_getD L i 0 hi, List.count_append, List.count_singleton]
  by_cases h : L.getD i 0 = n
  · simp [h]
  · rw [if_neg h, if_neg (by simpa using h)]
theorem code_lt {L : List Nat} (hL : ∀ x ∈ L, x ≤ 15) (hK : kraftN L ≤ 32768) (i : Nat) (hi : i < L.length) : codeN L i < 2 ^ L.getD i 0 := by
  unfold codeN
  split
  · rename_i h; rw [h]; decide
  · have h15 := hL _ (getD_mem L i 0 hi)
    have := full_le hL hK (L.getD i 0) (by omega) h15
    have := rank_lt L i hi
    omega
theorem code_bounds {L : List Nat} (i : Nat) (hi : i < L.length) (h0 : L.getD i 0 ≠ 0) : firstN L (L.getD i 0) ≤ codeN L i ∧ codeN L i < firstN L (L.getD i 0) + L.count (L.getD i 0) := by
  unfold codeN
  rw [if_neg h0]
  have := rank_lt L i hi
  omega
/-- no code is another one's beginning -/
theorem code_apart {L : List Nat} (i j : Nat) (hi : i < L.length) (hj : j < L.length) (h0 : L.getD i 0 ≠ 0) (hle : L.getD i 0 ≤ L.getD j 0) (h : codeN L j / 2 ^ (L.getD j 0 - L.getD i 0) = codeN L i) : i = j := by
  by_cases he : L.getD i 0 = L.getD j 0
  · rw [he, Nat.sub_self, Nat.pow_zero, Nat.div_one] at h
    unfold codeN at h
    rw [if_neg (by omega), if_neg h0, he] at h
    have hr : rankN L i = rankN L j := by omega
    unfold rankN at hr
    rw [he] at hr
    rcases Nat.lt_trichotomy i j with hlt | rfl | hlt
    · have h1 := count_take_succ L i (L.getD j 0) hi
      rw [if_pos he] at h1
      have h2 : (L.take (i + 1)).count (L.getD j 0) ≤ (L.take j).count (L.getD j 0) := List.Sublist.count_le _ (List.take_sublist_take_left (by omega))
      omega
    · rfl
    · have h1 := count_take_succ L j (L.getD j 0) hj
      rw [if_pos rfl] at h1
      have h2 : (L.take (j + 1)).count (L.getD j 0) ≤ (L.take i).count (L.getD j 0) := List.Sublist.count_le _ (List.take_sublist_take_left (by omega))
      omega
  · exfalso
    have h1 := code_bounds i hi h0
    have h2 := code_bounds j hj (by omega)
    obtain ⟨d, hd⟩ : ∃ d, L.getD j 0 = L.getD i 0 + (d + 1) := ⟨L.getD j 0 - L.getD i 0 - 1, by omega⟩
    have h3 := first_far L (L.getD i 0) d (by omega)
    rw [← hd] at h3
    have h4 : (firstN L (L.getD i 0) + L.count (L.getD i 0)) * 2 ^ (d + 1) ≤ codeN L j := Nat.le_trans h3 h2.1
    rw [show L.getD j 0 - L.getD i 0 = d + 1 by omega] at h
    have h5 := (Nat.le_div_iff_mul_le (Nat.pow_pos (n := d + 1) (show 0 < 2 by decide))).2 h4
    omega
end Go.Cm
