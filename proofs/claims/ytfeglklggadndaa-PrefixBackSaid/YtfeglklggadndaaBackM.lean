/- Symbols that were written, in plain Lean: what their bits read as. Conditions: none. -/
import Derived.Test.YtfeglklggadndaaLawW
namespace Go.Cm

theorem add_div_mod (N v Ln p n : Nat) (h : p + n ≤ Ln) : (N + v * 2 ^ Ln) / 2 ^ p % 2 ^ n = N / 2 ^ p % 2 ^ n := by
  obtain ⟨q, rfl⟩ : ∃ q, Ln = p + n + q := ⟨Ln - (p + n), by omega⟩
  rw [show v * 2 ^ (p + n + q) = (v * 2 ^ q * 2 ^ n) * 2 ^ p by rw [Nat.pow_add, Nat.pow_add]; ac_rfl, Nat.add_mul_div_right _ _ (Nat.pow_pos (by decide)), Nat.add_mul_mod_self_right]
theorem hit_add {L : List Nat} {N v Ln p i : Nat} (h : hitN L (N / 2 ^ p) i) (hp : p + L.getD i 0 ≤ Ln) : hitN L ((N + v * 2 ^ Ln) / 2 ^ p) i := by
  refine ⟨h.1, ?_⟩
  rw [h.2, ← turnN_mod (N / 2 ^ p) _ _ (Nat.le_refl _), ← turnN_mod ((N + v * 2 ^ Ln) / 2 ^ p) _ _ (Nat.le_refl _), add_div_mod _ _ _ _ _ hp]
/-- where symbol k's bits begin -/
def posN (L ts : List Nat) : Nat → Nat
  | 0 => 0
  | k + 1 => posN L ts k + L.getD (ts.getD k 0) 0
theorem posN_mono (L ts : List Nat) {j k : Nat} (h : j ≤ k) : posN L ts j ≤ posN L ts k := by
  induction k with
  | zero => rw [show j = 0 by omega]; exact Nat.le_refl _
  | succ k ih =>
    by_cases e : j = k + 1
    · rw [e]; exact Nat.le_refl _
    · have := ih (by omega); show _ ≤ posN L ts k + _; omega
theorem posN_snoc (L ts : List Nat) (i : Nat) : ∀ k, k ≤ ts.length → posN L (ts ++ [i]) k = posN L ts k := by
  intro k
  induction k with
  | zero => intro _; rfl
  | succ k ih =>
    intro hk
    show posN L (ts ++ [i]) k + L.getD ((ts ++ [i]).getD k 0) 0 = posN L ts k + L.getD (ts.getD k 0) 0
    rw [ih (by omega), getD_append_left' (by omega)]
/-- N's first Ln bits are the codes of ts -/
structure EncN (L ts : List Nat) (N Ln : Nat) : Prop where
  ok : ∀ k, k < ts.length → ts.getD k 0 < L.length ∧ hitN L (N / 2 ^ posN L ts k) (ts.getD k 0)
  len : posN L ts ts.length = Ln
theorem EncN.nil (L : List Nat) : EncN L [] 0 0 := ⟨fun k hk => absurd hk (Nat.not_lt_zero k), rfl⟩
theorem EncN.snoc {L ts : List Nat} {N Ln i : Nat} (h : EncN L ts N Ln) (hN : N < 2 ^ Ln) (hi : i < L.length) (h0 : L.getD i 0 ≠ 0) (hc : codeN L i < 2 ^ L.getD i 0) : EncN L (ts ++ [i]) (N + turnN (codeN L i) (L.getD i 0) * 2 ^ Ln) (Ln + L.getD i 0) := by
  have hlast : (ts ++ [i]).getD ts.length 0 = i := by simp [List.getD]
  refine ⟨fun k hk => ?_, ?_⟩
  · rw [List.length_append, List.length_singleton] at hk
    by_cases hkl : k < ts.length
    · rw [posN_snoc L ts i k (by omega), getD_append_left' hkl]
      refine ⟨(h.ok k hkl).1, hit_add (h.ok k hkl).2 ?_⟩
      have h1 : posN L ts (k + 1) ≤ posN L ts ts.length := posN_mono L ts (by omega)
      rw [h.len] at h1
      exact h1
    · obtain rfl : k = ts.length := by omega
      rw [posN_snoc L ts i _ (Nat.le_refl _), hlast, h.len]
      refine ⟨hi, h0, ?_⟩
      rw [Nat.add_mul_div_right _ _ (Nat.pow_pos (by decide)), Nat.div_eq_of_lt hN, Nat.zero_add, turnN_turnN _ _ hc]
  · rw [List.length_append, List.length_singleton]
    show posN L (ts ++ [i]) ts.length + L.getD ((ts ++ [i]).getD ts.length 0) 0 = _
    rw [posN_snoc L ts i _ (Nat.le_refl _), hlast, h.len]
theorem EncN.read {L ts : List Nat} {N Ln k v left : Nat} (h : EncN L ts N Ln) (hk : k < ts.length) (hl : Ln ≤ posN L ts k + left) : ReadN L ((N + v * 2 ^ Ln) / 2 ^ posN L ts k) left (ts.getD k 0) 0 (L.getD (ts.getD k 0) 0) := by
  have h1 : posN L ts (k + 1) ≤ posN L ts ts.length := posN_mono L ts (by omega)
  rw [h.len] at h1
  have h2 : posN L ts (k + 1) = posN L ts k + L.getD (ts.getD k 0) 0 := rfl
  exact .inl ⟨(h.ok k hk).1, hit_add (h.ok k hk).2 (by omega), by omega, rfl, rfl⟩
theorem num_more {N Ln : Nat} (hN : N < 2 ^ Ln) (more : ByteArray) : ∃ v, numS ((⟨(textN N Ln).toArray⟩ : ByteArray) ++ more) = N + v * 2 ^ Ln := by
  have e : numS ((⟨(textN N Ln).toArray⟩ : ByteArray) ++ more) = numL (textN N Ln ++ more.data.toList) := by
    unfold numS; simp
  rw [e, numL_append, numL_text hN, textN_length, pow256]
  obtain ⟨q, hq⟩ : ∃ q, 8 * ((Ln + 7) / 8) = Ln + q := ⟨8 * ((Ln + 7) / 8) - Ln, by omega⟩
  refine ⟨2 ^ q * numL more.data.toList, ?_⟩
  rw [hq, Nat.pow_add]
  congr 1
  ac_rfl
theorem size_more (N Ln : Nat) (more : ByteArray) : ((⟨(textN N Ln).toArray⟩ : ByteArray) ++ more).size = (Ln + 7) / 8 + more.size := by
  rw [ByteArray.size_append]
  congr 1
  show (textN N Ln).toArray.size = _
  rw [List.size_toArray, textN_length]
theorem errW_zero {L : List Nat} {n : Int} (h : errW (nls L) n = 0) : ∃ i : Nat, n = (i : Int) ∧ i < L.length ∧ L.getD i 0 ≠ 0 ∧ (∀ x ∈ L, x ≤ 15) ∧ kraftN L ≤ 32768 := by
  have he : errI (nls L) = 0 := by
    apply Classical.byContradiction; intro hn
    rw [errW_codes hn] at h; exact hn h
  obtain ⟨L', hL', -, h15, hk⟩ := errI_zero he
  have hLL : L = L' := by
    have := congrArg (List.map Int.toNat) hL'
    rwa [nls_toNat, nls_toNat] at this
  subst hLL
  apply Classical.byContradiction; intro hno
  have h2 : ¬ (0 ≤ n ∧ n < (nls L).length ∧ (nls L).getD n.toNat 0 ≠ 0) := by
    rintro ⟨h1, h2, h3⟩
    rw [nls_length] at h2
    rw [nls_getD] at h3
    exact hno ⟨n.toNat, by omega, by omega, by omega, h15, hk⟩
  rw [errW_arg he h2] at h
  cases h
theorem numW_ok {L : List Nat} {i N Ln : Nat} (h : errW (nls L) (i : Int) = 0) : numW (nls L) (i : Int) (N, Ln) = (N + turnN (codeN L i) (L.getD i 0) * 2 ^ Ln, Ln + L.getD i 0) := by
  unfold numW
  rw [if_pos h, nls_toNat, Int.toNat_natCast, nls_getD, Int.toNat_natCast]
end Go.Cm
