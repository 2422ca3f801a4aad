/- A text's bits as a number; the walks of the reading of bits. Conditions: the reader is there. -/
import Derived.Test.YtfeglklggadndaaBitU
import Derived.Test.YtfeglklggadndaaBitV
import Derived.Test.YtfeglklggadndaaBitB
namespace Go.Cm
open Go.RowKit Go.Proofs

def numL : List UInt8 → Nat
  | [] => 0
  | b :: r => b.toNat + 256 * numL r
/-- the bits of a text, as a number -/
def numS (s : ByteArray) : Nat := numL s.data.toList
theorem numL_div (l : List UInt8) (i : Nat) : numL l / 256 ^ i = numL (l.drop i) := by
  induction l generalizing i with
  | nil => simp [numL]
  | cons b r ih =>
    cases i with
    | zero => simp
    | succ i =>
      rw [List.drop_succ_cons, ← ih i, Nat.pow_succ, Nat.mul_comm, ← Nat.div_div_eq_div_mul]
      have : numL (b :: r) / 256 = numL r := by
        have := UInt8.toNat_lt b
        show (b.toNat + 256 * numL r) / 256 = numL r
        omega
      rw [this]
theorem numL_byte (l : List UInt8) (i : Nat) (h : i < l.length) : numL l / 256 ^ i % 256 = (l[i]).toNat := by
  rw [numL_div, List.drop_eq_getElem_cons h]
  have := UInt8.toNat_lt l[i]
  show ((l[i]).toNat + 256 * numL _) % 256 = _
  omega
theorem numL_zero (l : List UInt8) (i : Nat) (h : l.length ≤ i) : numL l / 256 ^ i = 0 := by
  rw [numL_div, List.drop_of_length_le h]; rfl
theorem numS_byte (s : ByteArray) (i : Nat) (h : i < s.size) : numS s / 256 ^ i % 256 = (s[i]).toNat := by
  have h' : i < s.data.toList.length := by simpa using h
  unfold numS
  rw [numL_byte _ i h']
  rfl
theorem numS_zero (s : ByteArray) (i : Nat) (h : s.size ≤ i) : numS s / 256 ^ i = 0 := numL_zero _ i (by simpa using h)
theorem testBit_byte (N i : Nat) : N.testBit i = (N / 256 ^ (i / 8) % 256).testBit (i % 8) := by
  rw [pow256, show (256 : Nat) = 2 ^ 8 by decide, Nat.testBit_mod_two_pow, Nat.testBit_div_two_pow, decide_eq_true (show i % 8 < 8 by omega), Bool.true_and, Nat.mod_add_div]
theorem numS_bit (s : ByteArray) (i : Nat) (h : i / 8 < s.size) : ((numS s).testBit i).toNat = (s[i / 8]).toNat / 2 ^ (i % 8) % 2 := by
  rw [testBit_byte, numS_byte s _ h, Nat.testBit_eq_decide_div_mod_eq]
  by_cases h2 : (s[i / 8]).toNat / 2 ^ (i % 8) % 2 = 1
  · simp [h2]
  · have h3 : (s[i / 8]).toNat / 2 ^ (i % 8) % 2 = 0 := by omega
    simp [h3]
theorem numS_bit_end (s : ByteArray) (i : Nat) (h : 8 * s.size ≤ i) : ((numS s).testBit i).toNat = 0 := by
  rw [testBit_byte, numS_zero s _ (by omega)]
  simp

theorem bitT (s : ByteArray) (i : Nat) (hs : s.size ≤ 4294967296) (w : World) : Calls Try.prog 38 #[.string s, .int .i64 i] w fun e w' => e = .returned (.int .i64 (((numS s).testBit i).toNat : Nat)) ∧ ∃ x, w' = ext w x := by
  by_cases h : i < 8 * s.size
  · have h1 : ¬ (i : Int) ≥ 8 * (s.size : Int) := by omega
    have hi8 : i / 8 < s.size := by omega
    have HB := Lib.hid (numS_bit s i hi8)
    have e8 : (i : Int) / 8 = ((i / 8 : Nat) : Int) := by omega
    have em : (i : Int) % 8 = ((i % 8 : Nat) : Int) := by omega
    have hm8 : i % 8 < 8 := by omega
    generalize hq : i / 8 = q at *
    generalize hm : i % 8 = m at *
    have hby : (s[q]).toNat < 256 := UInt8.toNat_lt _
    go_enter Try.func38, Try.ntmps38
    go_wp2
    go_ret
    rw [HB.out]
    generalize (s[q]).toNat = y at *
    have e : ((y : Int) / 2 ^ m).tmod 2 = ((y / 2 ^ m % 2 : Nat) : Int) := by norm_cast
    refine ⟨?_, (ex_ext (by repeat (first | exact Below.refl _ _ | assumption | refine b_drewN ?_ _ | refine Below.drew ?_ | refine b_ext' ?_ _ | refine b_alloc' ?_ _)))⟩
    rw [← e]; rfl
  · have h1 : (i : Int) ≥ 8 * (s.size : Int) := by omega
    have HB := Lib.hid (numS_bit_end s i (by omega))
    go_enter Try.func38, Try.ntmps38
    go_wp2
    go_ret
    exact ⟨by rw [HB.out]; rfl, (ex_ext (by repeat (first | exact Below.refl _ _ | assumption | refine b_drewN ?_ _ | refine Below.drew ?_ | refine b_ext' ?_ _ | refine b_alloc' ?_ _)))⟩

/-- the next n bits, from bit p on -/
def valN (N p n : Nat) : Nat := N / 2 ^ p % 2 ^ n
theorem peek_step (s : ByteArray) (f k : Nat) (h : f + k < s.size) : numS s / 256 ^ f % 256 ^ k + (s[f + k]).toNat * 2 ^ (8 * k) = numS s / 256 ^ f % 256 ^ (k + 1) := by
  have h1 := numS_byte s (f + k) h
  rw [← h1, ← pow256, Nat.pow_add, ← Nat.div_div_eq_div_mul, Nat.pow_succ, Nat.mod_mul, Nat.mul_comm]
theorem valN_cut (N f m k n : Nat) (h : m + n ≤ 8 * k) : N / 256 ^ f % 256 ^ k / 2 ^ m % 2 ^ n = valN N (8 * f + m) n := by
  unfold valN
  rw [pow256 k, Nat.pow_add, ← Nat.div_div_eq_div_mul, ← pow256 f]
  generalize N / 256 ^ f = D
  obtain ⟨q, hq⟩ : ∃ q, 8 * k = m + (n + q) := ⟨8 * k - m - n, by omega⟩
  rw [hq, Nat.pow_add, Nat.mod_mul_right_div_self, Nat.pow_add, Nat.mod_mul_right_mod]
theorem valN_end (s : ByteArray) (f m k n : Nat) (h : s.size ≤ f + k) : numS s / 256 ^ f % 256 ^ k / 2 ^ m % 2 ^ n = valN (numS s) (8 * f + m) n := by
  unfold valN
  rw [Nat.pow_add, ← Nat.div_div_eq_div_mul, ← pow256 f]
  have h0 : numS s / 256 ^ f / 256 ^ k = 0 := by
    rw [Nat.div_div_eq_div_mul, ← Nat.pow_add]; exact numS_zero s _ h
  have hl : numS s / 256 ^ f < 256 ^ k := by
    have := (Nat.div_eq_zero_iff_lt (Nat.pow_pos (n := k) (show 0 < 256 by decide))).1 h0
    exact this
  rw [Nat.mod_eq_of_lt hl]
theorem u64_or (a b k : Nat) (hk : k ≤ 4) (ha : a < 256 ^ k) (hb : b < 256) : bits .or .u64 (a : Int) (((b : Int) * 2 ^ (8 * k)) % 18446744073709551616) = ((a + b * 2 ^ (8 * k) : Nat) : Int) := by
  rw [pow256] at ha
  have ho := or_add a b (8 * k) ha
  have hp : 2 ^ (8 * k) ≤ 2 ^ 32 := Nat.pow_le_pow_right (by decide) (by omega)
  have hb2 : b * 2 ^ (8 * k) ≤ 255 * 2 ^ 32 := Nat.mul_le_mul (by omega) hp
  have hc : (b : Int) * 2 ^ (8 * k) = ((b * 2 ^ (8 * k) : Nat) : Int) := by rw [Int.natCast_mul, Int.natCast_pow]; rfl
  rw [hc]
  generalize 2 ^ (8 * k) = z at *
  generalize b * z = q at *
  have e : (q : Int) % 18446744073709551616 = (q : Int) := by omega
  rw [e, (bits_nat .u64 64 (by decide) (fun n h0 h1 => by rw [IntKind.wrap_u64]; omega) a q (by omega) (by omega)).2, ho]

theorem u64_mask (a m n : Nat) (hn : n ≤ 32) (ha : a < 2 ^ 40) : wrap64 (bits .and .u64 ((a : Int) / 2 ^ m) (IntKind.u64.wrap (IntKind.u64.wrap (2 ^ n) - 1))) = ((a / 2 ^ m % 2 ^ n : Nat) : Int) := by
  have hp : 2 ^ n ≤ 2 ^ 32 := Nat.pow_le_pow_right (by decide) hn
  have hp1 : 1 ≤ 2 ^ n := Nat.one_le_two_pow
  have e1 : (2 : Int) ^ n = ((2 ^ n : Nat) : Int) := by norm_cast
  have e2 : (a : Int) / 2 ^ m = ((a / 2 ^ m : Nat) : Int) := by norm_cast
  have e3 : IntKind.u64.wrap (IntKind.u64.wrap (2 ^ n) - 1) = ((2 ^ n - 1 : Nat) : Int) := by
    rw [IntKind.wrap_u64, IntKind.wrap_u64, e1]
    generalize 2 ^ n = q at *
    omega
  have hd : a / 2 ^ m ≤ a := Nat.div_le_self _ _
  have hb := (bits_nat .u64 64 (by decide) (fun n h0 h1 => by rw [IntKind.wrap_u64]; omega) (a / 2 ^ m) (2 ^ n - 1) (by omega) (by omega)).1
  rw [e2, e3, hb, Nat.and_two_pow_sub_one_eq_mod]
  have hm : a / 2 ^ m % 2 ^ n < 2 ^ n := Nat.mod_lt _ (by omega)
  rw [IntWalk.wrap64_in _ ⟨by omega, by omega⟩]

set_option maxRecDepth 100000 in
theorem peekS {w : World} {g : Nat} {s : ByteArray} {p : Nat} (h : BoxS w g s p) (hs : s.size ≤ 4294967296) (hp : p ≤ 8 * s.size) (n : Nat) (hn : n ≤ 32) :
    Calls Try.prog 32 #[.pointer (some ⟨g, 0, none⟩), .int .i64 n] w fun e w' => e = .returned (.int .i64 (valN (numS s) p n : Nat)) ∧ ∃ x, w' = ext w x := by
  have hd : decide (0 ≤ (n : Int) ∧ (n : Int) ≤ 32) = true := by simp; omega
  have HB := Lib.hid h
  have c1 := h.c1
  have c2 := h.c2
  have hg := h.lt
  have e8 : (p : Int) / 8 = ((p / 8 : Nat) : Int) := by omega
  have em : (p : Int) % 8 = ((p % 8 : Nat) : Int) := by omega
  have hpq : 8 * (p / 8) + p % 8 = p := by omega
  have hm8 : p % 8 < 8 := by omega
  clear h
  generalize p / 8 = f at *
  generalize p % 8 = m at *
  have hf : f ≤ 4294967296 := by omega
  have HPQ := Lib.hid hpq
  clear hpq
  go_enter Try.func32, Try.ntmps32
  go_wp2_with (first | (go_at_call 39; refine (thereS HB.out).mono ?_; rintro e w' ⟨rfl, hw'⟩; rw [hw']; clear hw') | (go_at_call 40; refine (many _ _).mono ?_; rintro e w' ⟨rfl, hw'⟩; rw [hw', hd]; clear hw'))
  rw [em]
  go_loop [7, 8] (fun a i => ∃ k : Nat, k ≤ 5 ∧ i = .int .i64 k ∧ a = .int .u64 (numS s / 256 ^ f % 256 ^ k : Nat)) (fun _ i => 6 - (intOf i).toNat)
  case atStart => exact ⟨0, by omega, rfl, by rw [Nat.pow_zero, Nat.mod_one]; rfl⟩
  case round =>
    obtain ⟨k, hk, rfl, rfl⟩ := hrel
    have hle : numS s / 256 ^ f % 256 ^ k < 256 ^ k := Nat.mod_lt _ (Nat.pow_pos (by decide))
    by_cases h1 : 8 * k < m + n
    · have h1i : (k : Int) * 8 < (m : Int) + (n : Int) := by omega
      by_cases h2 : f + k < s.size
      · have hst := peek_step s f k h2
        have hor := u64_or (numS s / 256 ^ f % 256 ^ k) (s[f + k]).toNat k (by omega) hle (UInt8.toNat_lt _)
        rw [hst] at hor
        rw [← IntKind.wrap_u64] at hor
        have hby : (s[f + k]).toNat < 256 := UInt8.toNat_lt _
        have hwy : IntKind.u64.wrap ((s[f + k]).toNat : Int) = ((s[f + k]).toNat : Int) := by rw [IntKind.wrap_u64]; omega
        have HOR := Lib.hid hor
        clear hor hst
        have h2i : (f : Int) + (k : Int) < (s.size : Int) := by omega
        generalize hz : numS s / 256 ^ f % 256 ^ (k + 1) = z at *
        have HZ := Lib.hid hz
        clear hz
        generalize numS s / 256 ^ f % 256 ^ k = a at *
        go_wp2
        go_round
        case rel =>
          refine ⟨k + 1, by omega, by go_num, ?_⟩
          rw [HOR.out, HZ.out]
        case measure => simp [intOf]; omega
      · have h2i : ¬ (f : Int) + (k : Int) < (s.size : Int) := by omega
        have HV := Lib.hid (valN_end s f m k n (by omega))
        rw [HPQ.out] at HV
        have h40 : 256 ^ k ≤ 256 ^ 5 := Nat.pow_le_pow_right (by decide) hk
        have ha : numS s / 256 ^ f % 256 ^ k < 2 ^ 40 := Nat.lt_of_lt_of_le hle h40
        generalize numS s / 256 ^ f % 256 ^ k = a at *
        go_wp2
        go_ret
        refine ⟨?_, (ex_ext (by repeat (first | exact Below.refl _ _ | assumption | refine b_drewN ?_ _ | refine Below.drew ?_ | refine b_ext' ?_ _ | refine b_alloc' ?_ _)))⟩
        rw [← HV.out, ← u64_mask a m n hn ha]; rfl
    · have h1i : ¬ (k : Int) * 8 < (m : Int) + (n : Int) := by omega
      have HV := Lib.hid (valN_cut (numS s) f m k n (by omega))
      rw [HPQ.out] at HV
      have h40 : 256 ^ k ≤ 256 ^ 5 := Nat.pow_le_pow_right (by decide) hk
      have ha : numS s / 256 ^ f % 256 ^ k < 2 ^ 40 := Nat.lt_of_lt_of_le hle h40
      generalize numS s / 256 ^ f % 256 ^ k = a at *
      go_wp2
      go_ret
      refine ⟨?_, (ex_ext (by repeat (first | exact Below.refl _ _ | assumption | refine b_drewN ?_ _ | refine Below.drew ?_ | refine b_ext' ?_ _ | refine b_alloc' ?_ _)))⟩
      rw [← HV.out, ← u64_mask a m n hn ha]; rfl
end Go.Cm
