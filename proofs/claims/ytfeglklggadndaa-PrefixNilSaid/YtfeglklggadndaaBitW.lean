/- The walks of the functions that turn bits. Conditions: none. -/
import Derived.Test.YtfeglklggadndaaMem
import Derived.Test.YtfeglklggadndaaBitM
import Derived.Laws.BitsLemmas
namespace Go.Cm
open Go.RowKit Go.Proofs

theorem many (n : Int) (w : World) : Calls Try.prog 40 #[.int .i64 n] w fun e w' => e = .returned (.bool (decide (0 ≤ n ∧ n ≤ 32))) ∧ w' = w := by
  by_cases h1 : 0 ≤ n
  · by_cases h2 : n ≤ 32
    · go_enter Try.func40, Try.ntmps40
      go_wp2
      go_ret
      exact ⟨by simp [h1, h2], rfl⟩
    · go_enter Try.func40, Try.ntmps40
      go_wp2
      go_ret
      exact ⟨by simp [h2], rfl⟩
  · go_enter Try.func40, Try.ntmps40
    go_wp2
    go_ret
    exact ⟨by simp; omega, rfl⟩

theorem u32_bits (a b : Nat) (ha : a < 4294967296) (hb : b < 4294967296) : bits .and .u32 a b = ((a &&& b : Nat) : Int) ∧ bits .or .u32 a b = ((a ||| b : Nat) : Int) :=
  bits_nat .u32 32 (by decide) (fun n h0 h1 => by rw [IntKind.wrap_u32]; omega) a b ha hb
theorem step_val (x m s p : Nat) (hx : x < 4294967296) (hm : m < 4294967296) (hp : p = 2 ^ s) : bits .or .u32 (bits .and .u32 ((x : Int) / (p : Int)) (m : Int)) (bits .and .u32 (x : Int) (m : Int) * (p : Int) % 4294967296) = ((step1 m s x : Nat) : Int) := by
  have e1 : (x : Int) / (p : Int) = ((x / p : Nat) : Int) := (Int.natCast_ediv x p).symm
  have h1 : x / p < 4294967296 := Nat.lt_of_le_of_lt (Nat.div_le_self _ _) hx
  have h2 : x &&& m < 4294967296 := Nat.and_lt_two_pow (n := 32) _ hm
  have e2 : ((x &&& m : Nat) : Int) * (p : Int) % 4294967296 = (((x &&& m) * p % 4294967296 : Nat) : Int) := by rw [Int.natCast_emod, Int.natCast_mul]; rfl
  rw [e1, (u32_bits _ _ h1 hm).1, (u32_bits _ _ hx hm).1, e2, (u32_bits _ _ (Nat.and_lt_two_pow (n := 32) _ hm) (Nat.mod_lt _ (by decide))).2]
  unfold step1
  rw [Nat.shiftRight_eq_div_pow, Nat.shiftLeft_eq, hp]
theorem step1_lt (m s x : Nat) (hm : m < 4294967296) : step1 m s x < 4294967296 := by
  unfold step1
  exact Nat.or_lt_two_pow (n := 32) (Nat.and_lt_two_pow (n := 32) _ hm) (Nat.mod_lt _ (by decide))
def revB (x : Nat) : Nat := (step1 16711935 8 x >>> 16) ||| ((step1 16711935 8 x <<< 16) % 4294967296)
theorem halves_val (e : Nat) (he : e < 4294967296) : bits .or .u32 ((e : Int) / 65536) ((e : Int) * 65536 % 4294967296) = (((e >>> 16) ||| ((e <<< 16) % 4294967296) : Nat) : Int) := by
  have e1 : (e : Int) / 65536 = ((e / 65536 : Nat) : Int) := (Int.natCast_ediv e 65536).symm
  have e2 : (e : Int) * 65536 % 4294967296 = ((e * 65536 % 4294967296 : Nat) : Int) := by rw [Int.natCast_emod, Int.natCast_mul]; rfl
  rw [e1, e2, (u32_bits _ _ (by omega) (Nat.mod_lt _ (by decide))).2, Nat.shiftRight_eq_div_pow, Nat.shiftLeft_eq]
theorem revBytes (x : Nat) (hx : x < 4294967296) (w : World) : Calls Try.prog 48 #[.int .u32 x] w fun e w' => e = .returned (.int .u32 (revB x : Nat)) ∧ w' = w := by
  have h1 : bits .or .u32 (bits .and .u32 ((x : Int) / 256) 16711935) (bits .and .u32 (x : Int) 16711935 * 256 % 4294967296) = ((step1 16711935 8 x : Nat) : Int) := step_val x 16711935 8 256 hx (by decide) (by decide)
  have h2 := halves_val (step1 16711935 8 x) (step1_lt _ _ _ (by decide))
  have HR : Hid (revB x = (step1 16711935 8 x >>> 16) ||| ((step1 16711935 8 x <<< 16) % 4294967296)) := Lib.hid rfl
  rw [← HR.out] at h2
  generalize revB x = y at *
  have hl := step1_lt 16711935 8 x (by decide)
  generalize step1 16711935 8 x = e at *
  go_enter Try.func48, Try.ntmps48
  go_wp2
  go_ret
  exact ⟨rfl, rfl⟩
theorem rev (x : Nat) (hx : x < 4294967296) (w : World) : Calls Try.prog 47 #[.int .u32 x] w fun e w' => e = .returned (.int .u32 (rev32 x : Nat)) ∧ w' = w := by
  have h1 : bits .or .u32 (bits .and .u32 ((x : Int) / 2) 1431655765) (bits .and .u32 (x : Int) 1431655765 * 2 % 4294967296) = ((step1 1431655765 1 x : Nat) : Int) := step_val x 1431655765 1 2 hx (by decide) (by decide)
  have HR : Hid (revB (step1 252645135 4 (step1 858993459 2 (step1 1431655765 1 x))) = rev32 x) := Lib.hid rfl
  have l1 := step1_lt 1431655765 1 x (by decide)
  generalize step1 1431655765 1 x = a at *
  have h2 : bits .or .u32 (bits .and .u32 ((a : Int) / 4) 858993459) (bits .and .u32 (a : Int) 858993459 * 4 % 4294967296) = ((step1 858993459 2 a : Nat) : Int) := step_val a 858993459 2 4 l1 (by decide) (by decide)
  have l2 := step1_lt 858993459 2 a (by decide)
  generalize step1 858993459 2 a = b at *
  have h3 : bits .or .u32 (bits .and .u32 ((b : Int) / 16) 252645135) (bits .and .u32 (b : Int) 252645135 * 16 % 4294967296) = ((step1 252645135 4 b : Nat) : Int) := step_val b 252645135 4 16 l2 (by decide) (by decide)
  have l3 := step1_lt 252645135 4 b (by decide)
  generalize step1 252645135 4 b = c at *
  go_enter Try.func47, Try.ntmps47
  go_wp2_with (go_at_call 48; refine (revBytes c l3 _).mono ?_; rintro e w' ⟨rfl, rfl⟩; rw [HR.out])
  go_ret
  exact ⟨rfl, rfl⟩

theorem turnP (v n : Nat) (hn : n ≤ 32) (w : World) : Calls Try.prog 43 #[.int .i64 v, .int .i64 n] w fun e w' => e = .returned (.int .i64 (turnN v n : Nat)) ∧ w' = w := by
  by_cases h0 : n = 0
  · subst h0
    have hz : ((0 : Nat) : Int) = 0 := rfl
    go_enter Try.func43, Try.ntmps43
    go_wp2_with (go_at_call 40; refine (many _ _).mono ?_; rintro e w' ⟨rfl, rfl⟩)
    go_ret
    exact ⟨rfl, rfl⟩
  · have hd : decide (0 ≤ (n : Int) ∧ (n : Int) ≤ 32) = true := by simp; omega
    have hn0 : ¬ (n : Int) = 0 := by omega
    have hp : 1 ≤ n := by omega
    have HT := Lib.hid (rev32_turn v n hn)
    obtain ⟨y, hy⟩ : ∃ y, y = v % 4294967296 := ⟨_, rfl⟩
    have hyl : y < 4294967296 := by rw [hy]; exact Nat.mod_lt _ (by decide)
    have hcv : (v : Int) % 4294967296 = (y : Int) := by rw [hy]; exact (Int.natCast_emod v 4294967296).symm
    rw [show (2 ^ 32 : Nat) = 4294967296 from rfl, ← hy] at HT
    clear hy
    go_enter Try.func43, Try.ntmps43
    go_wp2_with (first | (go_at_call 40; refine (many _ _).mono ?_; rintro e w' ⟨rfl, rfl⟩; rw [hd]) | (go_at_call 47; refine (rev y hyl _).mono ?_; rintro e w' ⟨rfl, rfl⟩; generalize rev32 y = r at *))
    go_ret
    have hT := HT.out
    have e1 : (r : Int) / ((2 ^ (32 - n) : Nat) : Int) = ((turnN v n : Nat) : Int) := by
      rw [← hT, Nat.shiftRight_eq_div_pow]; exact (Int.natCast_ediv _ _).symm
    have hlt := turnN_lt v n
    have h32 : 2 ^ n ≤ 2 ^ 32 := Nat.pow_le_pow_right (by decide) hn
    refine ⟨?_, rfl⟩
    have e2 : (r : Int) / 2 ^ (32 - n) = ((turnN v n : Nat) : Int) := by rw [← e1]; norm_cast
    show Ending.returned (Value.int .i64 (wrap64 ((r : Int) / 2 ^ (32 - n)))) = _
    rw [e2, IntWalk.wrap64_in _ ⟨by omega, by omega⟩]

theorem turnR (v n : Nat) (hv : v ≤ 9223372036854775807) (hn : n ≤ 32) (w : World) : Calls Try.prog 45 #[.int .i64 v, .int .i64 n] w fun e w' => e = .returned (.int .i64 (turnN v n : Nat)) ∧ w' = w := by
  have hd1 : ¬ (n : Int) < 0 := by omega
  have hd2 : ¬ (n : Int) > 32 := by omega
  go_enter Try.func45, Try.ntmps45
  go_wp2
  go_loop [5, 6] (fun o i => ∃ k : Nat, k ≤ n ∧ i = .int .i64 k ∧ o = .int .i64 (turnN v k)) (fun _ i => n - (intOf i).toNat)
  case atStart => exact ⟨0, Nat.zero_le _, rfl, rfl⟩
  case round =>
    obtain ⟨k, hk, rfl, rfl⟩ := hrel
    by_cases hlt : k < n
    · have hl := turnN_lt v k
      have hl2 : 2 ^ k ≤ 4294967296 := Nat.pow_le_pow_right (n := 2) (by decide) (show k ≤ 32 by omega)
      have HS := Lib.hid (turnN_succ v k)
      have HT : Hid (((v : Int) / 2 ^ k).tmod 2 = ((v.testBit k).toNat : Nat)) := Lib.hid (by
        rw [Nat.testBit_eq_decide_div_mod_eq]
        have : ((v : Int) / 2 ^ k).tmod 2 = ((v / 2 ^ k % 2 : Nat) : Int) := by norm_cast
        rw [this]
        by_cases h : v / 2 ^ k % 2 = 1
        · simp [h]
        · have : v / 2 ^ k % 2 = 0 := by omega
          simp [this])
      generalize turnN v k = t at *
      have hb : (v.testBit k).toNat ≤ 1 := by cases v.testBit k <;> simp
      generalize (v.testBit k).toNat = b at *
      generalize 2 ^ k = q at hl hl2
      go_wp2
      go_round
      case rel => 
        refine ⟨k + 1, by omega, by go_num, ?_⟩
        have h := HT.out
        rw [HS.out, h, IntWalk.wrap64_in (b : Int) ⟨by omega, by omega⟩, IntWalk.wrap64_in _ ⟨by omega, by omega⟩]
        norm_cast
      case measure => simp [intOf]; omega
    · go_wp2
      go_ret
      have : k = n := by omega
      subst this
      exact ⟨rfl, rfl⟩
end Go.Cm
