/- Texts of this claim, joined: walks of small functions and plain facts about them. Conditions: as each says. -/
import Derived.Test.YticlfmakdblbkaaGJ
import Derived.Test.YticlfmakdblbkaaGB
import Derived.Test.YticlfmakdblbkaaGC
/- What a head's writing lays down is what its reading finds. Conditions: none. -/
namespace Go.Cm

/-- the bits from place p on are these puts -/
def Sees (N T : Nat) : List (Nat × Nat) → Nat → Prop
  | [], _ => True
  | x :: xs, p => valN N p x.2 = x.1 ∧ p + x.2 ≤ T ∧ Sees N T xs (p + x.2)
theorem put_lt {a p v n : Nat} (h : a < 2 ^ p) (hv : v < 2 ^ n) : a + v * 2 ^ p < 2 ^ (p + n) := by
  have h1 : (v + 1) * 2 ^ p ≤ 2 ^ n * 2 ^ p := Nat.mul_le_mul_right _ hv
  rw [Nat.add_mul, Nat.one_mul, Nat.mul_comm (2 ^ n), ← Nat.pow_add] at h1
  omega
theorem mod_low {N L p M : Nat} (h : N % 2 ^ L = M) (hp : p ≤ L) : N % 2 ^ p = M % 2 ^ p := by
  rw [← h, Nat.mod_mod_of_dvd _ (Nat.pow_dvd_pow 2 hp)]
theorem putS_mod (xs : List (Nat × Nat)) : ∀ (st : Nat × Nat), st.1 < 2 ^ st.2 → (∀ x ∈ xs, x.1 < 2 ^ x.2) → (putS xs st).1 < 2 ^ (putS xs st).2 ∧ (putS xs st).1 % 2 ^ st.2 = st.1 ∧ st.2 ≤ (putS xs st).2 := by
  induction xs with
  | nil => intro st h _; exact ⟨h, Nat.mod_eq_of_lt h, Nat.le_refl _⟩
  | cons x xs ih =>
    intro st h hx
    rw [putS_cons]
    have h1 := put_lt h (hx x (List.mem_cons_self ..))
    obtain ⟨i1, i2, i3⟩ := ih (st.1 + x.1 * 2 ^ st.2, st.2 + x.2) h1 (fun y hy => hx y (List.mem_cons_of_mem _ hy))
    simp only at i2 i3
    refine ⟨i1, ?_, by omega⟩
    rw [mod_low i2 (Nat.le_add_right _ _), Nat.add_mul_mod_self_right, Nat.mod_eq_of_lt h]
theorem sees_put (N T : Nat) (xs : List (Nat × Nat)) : ∀ (st : Nat × Nat), st.1 < 2 ^ st.2 → (∀ x ∈ xs, x.1 < 2 ^ x.2) → N % 2 ^ (putS xs st).2 = (putS xs st).1 → (putS xs st).2 ≤ T → Sees N T xs st.2 := by
  induction xs with
  | nil => intro st _ _ _ _; trivial
  | cons x xs ih =>
    intro st h hx hN hT
    rw [putS_cons] at hN hT
    have h1 := put_lt h (hx x (List.mem_cons_self ..))
    have hx' : ∀ y ∈ xs, y.1 < 2 ^ y.2 := fun y hy => hx y (List.mem_cons_of_mem _ hy)
    obtain ⟨i1, i2, i3⟩ := putS_mod xs (st.1 + x.1 * 2 ^ st.2, st.2 + x.2) h1 hx'
    have i4 := ih (st.1 + x.1 * 2 ^ st.2, st.2 + x.2) h1 hx' hN hT
    simp only at i2 i3 i4
    refine ⟨?_, by omega, i4⟩
    have e := mod_low hN i3
    rw [i2] at e
    unfold valN
    rw [← Nat.mod_mul_right_div_self, ← Nat.pow_add, e, Nat.add_mul_div_right _ _ (Nat.two_pow_pos _), Nat.div_eq_of_lt h, Nat.zero_add]
theorem numL_append (l m : List UInt8) : numL (l ++ m) = numL l + 256 ^ l.length * numL m := by
  induction l with
  | nil => simp [numL]
  | cons b l ih =>
    show b.toNat + 256 * numL (l ++ m) = (b.toNat + 256 * numL l) + 256 ^ (l.length + 1) * numL m
    rw [ih, Nat.pow_succ, Nat.mul_add, Nat.mul_comm (256 ^ l.length) 256, Nat.mul_assoc]; omega
theorem wholeN_length (N k : Nat) : (wholeN N k).length = k := by simp [wholeN]
theorem numL_whole (N k : Nat) : numL (wholeN N k) = N % 256 ^ k := by
  induction k with
  | zero => simp [wholeN, numL, Nat.mod_one]
  | succ k ih =>
    have e : wholeN N (k + 1) = wholeN N k ++ [UInt8.ofNat (byteAt N k)] := by simp [wholeN, List.range_succ]
    rw [e, numL_append, ih, wholeN_length, Nat.pow_succ, Nat.mod_mul]
    congr 1
    have : numL [UInt8.ofNat (byteAt N k)] = byteAt N k := by
      show (UInt8.ofNat (byteAt N k)).toNat + 256 * 0 = _
      rw [UInt8.toNat_ofNat', Nat.mod_eq_of_lt (byteAt_lt N k)]; omega
    rw [this]; rfl
theorem textN_whole (N L : Nat) : textN N L = wholeN N ((L + 7) / 8) := rfl
theorem textN_length (N L : Nat) : (textN N L).length = (L + 7) / 8 := by rw [textN_whole, wholeN_length]
theorem numL_text {N L : Nat} (h : N < 2 ^ L) : numL (textN N L) = N := by
  rw [textN_whole, numL_whole, pow256, Nat.mod_eq_of_lt]
  exact Nat.lt_of_lt_of_le h (Nat.pow_le_pow_right (by decide) (by omega))
theorem xb_sees {N T p v n : Nat} {xs : List (Nat × Nat)} (h : Sees N T ((v, n) :: xs) p) : xb N T n (0, p) = (v, (0, p + n)) := by
  obtain ⟨h1, h2, -⟩ := h
  simp only at h1 h2
  unfold xb bitsA
  rw [if_pos rfl]
  simp only [if_pos h2, h1]
theorem sees_tail {N T p : Nat} {x : Nat × Nat} {xs : List (Nat × Nat)} (h : Sees N T (x :: xs) p) : Sees N T xs (p + x.2) := h.2.2
theorem sees_left {N T : Nat} {ys : List (Nat × Nat)} : ∀ {xs : List (Nat × Nat)} {p : Nat}, Sees N T (xs ++ ys) p → Sees N T xs p
  | [], _, _ => trivial
  | _ :: _, _, h => ⟨h.1, h.2.1, sees_left h.2.2⟩
theorem sees_right {N T : Nat} {ys : List (Nat × Nat)} : ∀ {xs : List (Nat × Nat)} {p : Nat}, Sees N T (xs ++ ys) p → Sees N T ys (p + (xs.map Prod.snd).sum)
  | [], p, h => by simpa using h
  | x :: xs, p, h => by
    have := sees_right (xs := xs) h.2.2
    rw [List.map_cons, List.sum_cons, ← Nat.add_assoc]
    exact this
theorem sees_at {N T : Nat} : ∀ {xs : List (Nat × Nat)} {p k : Nat}, Sees N T xs p → (∀ x ∈ xs, x.2 = 3) → k < xs.length → xb N T 3 (0, p + 3 * k) = ((xs.getD k (0, 0)).1, (0, p + 3 * (k + 1)))
  | x :: xs, p, 0, h, h3, _ => by
    obtain ⟨v, n⟩ := x
    have e : n = 3 := h3 _ (List.mem_cons_self ..)
    subst e
    have := xb_sees h
    simpa using this
  | x :: xs, p, k + 1, h, h3, hk => by
    have e : x.2 = 3 := h3 x (List.mem_cons_self ..)
    have h' := h.2.2
    rw [e] at h'
    have := sees_at (k := k) h' (fun y hy => h3 y (List.mem_cons_of_mem _ hy)) (by simpa using hk)
    rw [show p + 3 * (k + 1) = p + 3 + 3 * k by omega, this, List.getD_cons_succ, show p + 3 + 3 * (k + 1) = p + 3 * (k + 1 + 1) by omega]

def cod4 : List Nat := List.replicate 16 4 ++ List.replicate 3 0
theorem cod4_fold : (List.range 19).foldl (fun l j => l.set (ordN.getD j 0) (ordS.getD j (0, 0)).1) (List.replicate 19 0) = cod4 := by decide
theorem code_back {N T p : Nat} (h : Sees N T ordS p) : ∀ k, k ≤ 19 → codeK N T 15 k (List.replicate 19 0, (0, p)) = ((List.range k).foldl (fun l j => l.set (ordN.getD j 0) (ordS.getD j (0, 0)).1) (List.replicate 19 0), (0, p + 3 * k))
  | 0, _ => rfl
  | k + 1, hk => by
    rw [codeK, code_back h k (by omega), if_pos ⟨by omega, rfl⟩, sees_at h (by decide) (by have : ordS.length = 19 := (by decide); omega), List.range_succ, List.foldl_append]
    rfl
theorem code_all {N T p : Nat} (h : Sees N T ordS p) : codeK N T 15 19 (List.replicate 19 0, (0, p)) = (cod4, (0, p + 57)) := by
  rw [code_back h 19 (Nat.le_refl _), cod4_fold]
theorem cod4_fits : fitsE (nls cod4) false = 0 := by decide
theorem cod4_code : ∀ n, n < 16 → codeN cod4 n = n ∧ cod4.getD n 0 = 4 := by decide
theorem read_back {N T p n : Nat} (hn : n ≤ 15) (h1 : valN N p 4 = turnN n 4) (h2 : p + 4 ≤ T) : readF cod4 (N / 2 ^ p) (T - p) = (n, 0, 4) := by
  obtain ⟨c1, c2⟩ := cod4_code n (by omega)
  have h : ReadN cod4 (N / 2 ^ p) (T - p) n 0 4 := by
    refine .inl ⟨by have : cod4.length = 19 := (by decide); omega, ⟨by omega, ?_⟩, by omega, rfl, c2.symm⟩
    rw [c1, c2, ← turnN_mod _ 4 4 (Nat.le_refl _)]
    show n = turnN (valN N p 4) 4
    rw [h1, turnN_turnN n 4 (by omega)]
  exact readF_of h
theorem row_back {N T n : Nat} : ∀ (xs : List Nat) (f : Nat) (l : List Nat) (p : Nat), (∀ x ∈ xs, x ≤ 15) → Sees N T (codS xs) p → l.length + xs.length = n → xs.length < f → rowN N T cod4 n f l (0, p) = (l ++ xs, (0, p + 4 * xs.length))
  | [], f + 1, l, p, _, _, hl, _ => by
    rw [rowN, if_neg (by simp at hl; simp; omega)]
    simp
  | x :: xs, f + 1, l, p, hx, hs, hl, hf => by
    have hs' : Sees N T ((turnN x 4, 4) :: codS xs) p := hs
    have hr := read_back (hx x (List.mem_cons_self ..)) hs'.1 hs'.2.1
    rw [rowN, if_pos ⟨rfl, by simp at hl; omega⟩]
    simp only [hr]
    rw [if_neg (by simp), if_pos (by have := hx x (List.mem_cons_self ..); omega), row_back xs f (l ++ [x]) (p + 4) (fun y hy => hx y (List.mem_cons_of_mem _ hy)) hs'.2.2 (by simp at hl ⊢; omega) (by simp at hf; omega)]
    rw [List.append_assoc, List.singleton_append, List.length_cons, show p + 4 + 4 * xs.length = p + 4 * (xs.length + 1) by omega]
theorem codS_append (a b : List Nat) : codS a ++ codS b = codS (a ++ b) := by unfold codS; rw [List.map_append]
theorem lenS_snd (n m : Nat) : ((lenS n m).map Prod.snd).sum = 14 := by simp [lenS]
theorem ordS_snd : (ordS.map Prod.snd).sum = 57 := by decide
theorem dyn_back {N T p : Nat} {l1 l2 : List Nat} (h : Sees N T (dynS l1 l2) p) (hn1 : 257 ≤ l1.length) (hn1' : l1.length ≤ 286) (hn2 : 1 ≤ l2.length) (hn2' : l2.length ≤ 30) (h1 : ∀ x ∈ l1, x ≤ 15) (h2 : ∀ x ∈ l2, x ≤ 15) :
    dynN N T (0, p) = (l1, l2, (fits2 l1 l2, p + (71 + 4 * (l1.length + l2.length)))) := by
  unfold dynS at h
  have s1 := sees_left h
  have s2 := sees_right h
  rw [lenS_snd] at s2
  have s3 := sees_left s2
  have s4 := sees_right s2
  rw [ordS_snd, codS_append] at s4
  unfold lenS at s1
  unfold dynN
  rw [xb_sees s1]
  simp only
  rw [xb_sees s1.2.2]
  simp only
  rw [xb_sees s1.2.2.2.2]
  simp only
  unfold dynM
  rw [if_neg (by omega)]
  rw [show p + 5 + 5 + 4 = p + 14 by omega]
  rw [code_all s3]
  unfold dynL
  have e : 257 + (l1.length - 257) + (1 + (l2.length - 1)) = l1.length + l2.length := by omega
  have e1 : 257 + (l1.length - 257) = l1.length := by omega
  rw [e, e1]
  have hr := row_back (N := N) (T := T) (n := l1.length + l2.length) (l1 ++ l2) (l1.length + l2.length + 1) [] (p + 14 + 57) (fun x hx => by rcases List.mem_append.1 hx with q | q; exact h1 x q; exact h2 x q) s4 (by simp) (by simp)
  simp only [hr]
  rw [if_neg (by simp), if_neg (by simp [cod4_fits]), if_neg (by simp)]
  simp only [List.nil_append, List.take_left', List.drop_left', List.length_append]
  rw [show p + 14 + 57 + 4 * (l1.length + l2.length) = p + (71 + 4 * (l1.length + l2.length)) by omega]

/-- what is read back of a head -/
def backH (f : Bool) (k z : Int) (l1 l2 : List Int) : HeadN := if k = 0 then ⟨f, 0, z.toNat, [], []⟩ else if k = 1 then ⟨f, 1, 0, fixL, fixD⟩ else ⟨f, 2, 0, l1.map Int.toNat, l2.map Int.toNat⟩
theorem fin_back (f : Bool) : decide (finN f = 1) = f := by cases f <;> rfl
theorem finN_lt (f : Bool) : finN f < 2 ^ 1 := by cases f <;> decide
theorem align_ge (p : Nat) : p ≤ alignN p ∧ alignN p < p + 8 := by unfold alignN; omega
theorem dynS_lt {l1 l2 : List Nat} (hn1 : 257 ≤ l1.length) (hn1' : l1.length ≤ 286) (hn2 : 1 ≤ l2.length) (hn2' : l2.length ≤ 30) : ∀ x ∈ dynS l1 l2, x.1 < 2 ^ x.2 := by
  have hc : ∀ (l : List Nat), ∀ x ∈ codS l, x.1 < 2 ^ x.2 := fun l x hx => by
    unfold codS at hx
    obtain ⟨n, -, rfl⟩ := List.mem_map.1 hx
    exact turnN_lt n 4
  have ho : ∀ x ∈ ordS, x.1 < 2 ^ x.2 := by decide
  intro x hx
  unfold dynS at hx
  rcases List.mem_append.1 hx with h | h
  · unfold lenS at h
    simp only [List.mem_cons, List.not_mem_nil, or_false] at h
    rcases h with rfl | rfl | rfl
    · show l1.length - 257 < 32; omega
    · show l2.length - 1 < 32; omega
    · decide
  · rcases List.mem_append.1 h with h | h
    · exact ho x h
    · rcases List.mem_append.1 h with h | h
      · exact hc _ x h
      · exact hc _ x h
theorem head_two {N T p : Nat} {f : Bool} {k : Nat} (h : Sees N T [(finN f, 1), (k, 2)] p) : headF N T p = kindN N T p f k (0, p + 3) := by
  unfold headF
  rw [xb_sees h]
  simp only
  rw [xb_sees h.2.2, fin_back]
theorem head_back {f : Bool} {k z : Int} {l1 l2 : List Int} {st : Nat × Nat} {T : Nat} (h0 : st.1 < 2 ^ st.2) (hm : mayI k z l1 l2 = 0) (hT : (wrI f k z l1 l2 st).2 ≤ T) :
    (wrI f k z l1 l2 st).1 < 2 ^ (wrI f k z l1 l2 st).2 ∧ headF (wrI f k z l1 l2 st).1 T st.2 = (backH f k z l1 l2, 0, (wrI f k z l1 l2 st).2) := by
  have hb : ∀ k, k < 4 → ∀ x ∈ [(finN f, 1), (k, 2)], x.1 < 2 ^ x.2 := fun k hk x hx => by
    simp only [List.mem_cons, List.not_mem_nil, or_false] at hx
    rcases hx with rfl | rfl
    · exact finN_lt f
    · exact hk
  unfold wrI backH at *
  by_cases k0 : k = 0
  · subst k0
    simp only [if_true] at *
    obtain ⟨a1, a2, a3⟩ := putS_mod [(finN f, 1), (0, 2)] st h0 (hb 0 (by decide))
    have e3 : (putS [(finN f, 1), (0, 2)] st).2 = st.2 + 3 := by rw [putS_len]; rfl
    have hs0 := fun N hN hT => sees_put N T [(finN f, 1), (0, 2)] st h0 (hb 0 (by decide)) hN hT
    generalize putS [(finN f, 1), (0, 2)] st = s1 at *
    have hz : z.toNat ≤ 65535 := by
      unfold mayI at hm
      rw [if_pos rfl] at hm
      by_cases c : z < 0 ∨ 65535 < z
      · rw [if_pos c] at hm; cases hm
      · omega
    generalize z.toNat = zn at *
    have hal := align_ge s1.2
    have hx : ∀ x ∈ [(zn, 16), (65535 - zn, 16)], x.1 < 2 ^ x.2 := fun x hx => by
      simp only [List.mem_cons, List.not_mem_nil, or_false] at hx
      rcases hx with rfl | rfl
      · show zn < 65536; omega
      · show 65535 - zn < 65536; omega
    have hA : (alignW s1).1 < 2 ^ (alignW s1).2 := Nat.lt_of_lt_of_le a1 (Nat.pow_le_pow_right (by decide) hal.1)
    obtain ⟨b1, b2, b3⟩ := putS_mod [(zn, 16), (65535 - zn, 16)] (alignW s1) hA hx
    have e32 : (putS [(zn, 16), (65535 - zn, 16)] (alignW s1)).2 = alignN s1.2 + 32 := by rw [putS_len]; rfl
    have hs2 := sees_put (putS [(zn, 16), (65535 - zn, 16)] (alignW s1)).1 T [(zn, 16), (65535 - zn, 16)] (alignW s1) hA hx (Nat.mod_eq_of_lt b1) hT
    generalize putS [(zn, 16), (65535 - zn, 16)] (alignW s1) = s2 at *
    refine ⟨b1, ?_⟩
    have hs1 := hs0 s2.1 (by rw [mod_low b2 (show s1.2 ≤ (alignW s1).2 from hal.1)]; exact Nat.mod_eq_of_lt a1) (by omega)
    rw [head_two hs1]
    have hs2' : Sees s2.1 T [(zn, 16), (65535 - zn, 16)] (alignN (st.2 + 3)) := by rw [← e3]; exact hs2
    unfold kindN storedN
    rw [if_neg (by simp), if_pos rfl]
    have hq : 65535 - zn + zn = 65535 := by omega
    simp only [xb_sees hs2', xb_sees hs2'.2.2, hq, if_true, ne_eq, not_true_eq_false, if_false]
    rw [e32, e3]
  · rw [if_neg k0] at *
    by_cases k1 : k = 1
    · subst k1
      simp only [if_true] at *
      obtain ⟨a1, a2, a3⟩ := putS_mod [(finN f, 1), (1, 2)] st h0 (hb 1 (by decide))
      have e3 : (putS [(finN f, 1), (1, 2)] st).2 = st.2 + 3 := by rw [putS_len]; rfl
      have hs := sees_put (putS [(finN f, 1), (1, 2)] st).1 T [(finN f, 1), (1, 2)] st h0 (hb 1 (by decide)) (Nat.mod_eq_of_lt a1) hT
      refine ⟨a1, ?_⟩
      rw [head_two hs, e3]
      rfl
    · rw [if_neg k1] at *
      have hk : k = 2 := by
        unfold mayI at hm
        rw [if_neg k0, if_neg k1] at hm
        apply Classical.byContradiction; intro hn
        rw [if_neg hn] at hm
        cases hm
      subst hk
      obtain ⟨m1, m2, m3, m4, q1, q2, m5, m6, m7⟩ := mayI_dyn hm
      have hf : fits2 (l1.map Int.toNat) (l2.map Int.toNat) = 0 := by
        rw [q1, q2, fits2_nls] at m7; exact m7
      have g1 : (l1.map Int.toNat).length = l1.length := by simp
      have g2 : (l2.map Int.toNat).length = l2.length := by simp
      generalize l1.map Int.toNat = n1 at *
      generalize l2.map Int.toNat = n2 at *
      obtain ⟨a1, a2, a3⟩ := putS_mod [(finN f, 1), (2, 2)] st h0 (hb 2 (by decide))
      have e3 : (putS [(finN f, 1), (2, 2)] st).2 = st.2 + 3 := by rw [putS_len]; rfl
      have hs0 := fun N hN hT => sees_put N T [(finN f, 1), (2, 2)] st h0 (hb 2 (by decide)) hN hT
      generalize putS [(finN f, 1), (2, 2)] st = s1 at *
      have hx := dynS_lt (l1 := n1) (l2 := n2) (by omega) (by omega) (by omega) (by omega)
      obtain ⟨b1, b2, b3⟩ := putS_mod (dynS n1 n2) s1 a1 hx
      have e4 : (putS (dynS n1 n2) s1).2 = s1.2 + (71 + 4 * (n1.length + n2.length)) := by
        rw [putS_len]
        unfold dynS
        rw [List.map_append, List.sum_append, List.map_append, List.sum_append, lenS_snd, ordS_snd, codS_append]
        have : ∀ l : List Nat, ((codS l).map Prod.snd).sum = 4 * l.length := fun l => by
          induction l with
          | nil => rfl
          | cons x l ih => rw [show codS (x :: l) = (turnN x 4, 4) :: codS l from rfl, List.map_cons, List.sum_cons, ih, List.length_cons]; omega
        rw [this, List.length_append]; omega
      have hs2 := sees_put (putS (dynS n1 n2) s1).1 T (dynS n1 n2) s1 a1 hx (Nat.mod_eq_of_lt b1) hT
      generalize putS (dynS n1 n2) s1 = s2 at *
      refine ⟨b1, ?_⟩
      have hs1 := hs0 s2.1 b2 (by omega)
      rw [head_two hs1]
      have hs2' : Sees s2.1 T (dynS n1 n2) (st.2 + 3) := by rw [← e3]; exact hs2
      have hd := dyn_back hs2' (by omega) (by omega) (by omega) (by omega) m5 m6
      unfold kindN
      rw [if_neg (by simp), if_neg (by decide), if_neg (by decide), if_pos rfl]
      simp only [hd]
      rw [if_neg (by simp [hf]), e4, e3]
      rfl
end Go.Cm
