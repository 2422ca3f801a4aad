/- Texts of this claim, joined: walks of small functions and plain facts about them. Conditions: as each says. -/
import Derived.Test.YtmophmeiemfikaaGreatBD
import Derived.Test.YtmophmeiemfikaaGreatRows
import Derived.WalkKit
import Derived.WalkSpells
import Derived.WalkLawsBesides
import Derived.Deep.QuietTactic
import Derived.BigQuiet
import Derived.Lib.Hide
import Derived.Laws.BitsLemmas
import Derived.Deep.LoopGhost
import Derived.Laws.Small
/- A text's bits as a number; the walks of the reading of bits. Conditions: the reader is there. -/
namespace Go.Cm
open Go.RowKit Go.Proofs

def numL : List UInt8 → Nat
  | [] => 0
  | b :: r => b.toNat + 256 * numL r
/-- the bits of a text, as a number -/
def numS (s : ByteArray) : Nat := numL s.data.toList
theorem numL_div (l : List UInt8) (i : Nat) : numL l / 256 ^ i = numL (l.drop i) := by
  induction l generalizing i with
  | nil => simp [numL]
  | cons b r ih =>
    cases i with
    | zero => simp
    | succ i =>
      rw [List.drop_succ_cons, ← ih i, Nat.pow_succ, Nat.mul_comm, ← Nat.div_div_eq_div_mul]
      have : numL (b :: r) / 256 = numL r := by
        have := UInt8.toNat_lt b
        show (b.toNat + 256 * numL r) / 256 = numL r
        omega
      rw [this]
theorem numL_byte (l : List UInt8) (i : Nat) (h : i < l.length) : numL l / 256 ^ i % 256 = (l[i]).toNat := by
  rw [numL_div, List.drop_eq_getElem_cons h]
  have := UInt8.toNat_lt l[i]
  show ((l[i]).toNat + 256 * numL _) % 256 = _
  omega
theorem numL_zero (l : List UInt8) (i : Nat) (h : l.length ≤ i) : numL l / 256 ^ i = 0 := by
  rw [numL_div, List.drop_of_length_le h]; rfl
theorem numS_byte (s : ByteArray) (i : Nat) (h : i < s.size) : numS s / 256 ^ i % 256 = (s[i]).toNat := by
  have h' : i < s.data.toList.length := by simpa using h
  unfold numS
  rw [numL_byte _ i h']
  rfl
theorem numS_zero (s : ByteArray) (i : Nat) (h : s.size ≤ i) : numS s / 256 ^ i = 0 := numL_zero _ i (by simpa using h)
theorem testBit_byte (N i : Nat) : N.testBit i = (N / 256 ^ (i / 8) % 256).testBit (i % 8) := by
  rw [pow256, show (256 : Nat) = 2 ^ 8 by decide, Nat.testBit_mod_two_pow, Nat.testBit_div_two_pow, decide_eq_true (show i % 8 < 8 by omega), Bool.true_and, Nat.mod_add_div]
theorem numS_bit (s : ByteArray) (i : Nat) (h : i / 8 < s.size) : ((numS s).testBit i).toNat = (s[i / 8]).toNat / 2 ^ (i % 8) % 2 := by
  rw [testBit_byte, numS_byte s _ h, Nat.testBit_eq_decide_div_mod_eq]
  by_cases h2 : (s[i / 8]).toNat / 2 ^ (i % 8) % 2 = 1
  · simp [h2]
  · have h3 : (s[i / 8]).toNat / 2 ^ (i % 8) % 2 = 0 := by omega
    simp [h3]
theorem numS_bit_end (s : ByteArray) (i : Nat) (h : 8 * s.size ≤ i) : ((numS s).testBit i).toNat = 0 := by
  rw [testBit_byte, numS_zero s _ (by omega)]
  simp
theorem bitT (s : ByteArray) (i : Nat) (hs : s.size ≤ 4294967296) (w : World) : Calls Tryz.prog 50 #[.string s, .int .i64 i] w fun e w' => e = .returned (.int .i64 (((numS s).testBit i).toNat : Nat)) ∧ ∃ x, w' = ext w x := by
  by_cases h : i < 8 * s.size
  · have h1 : ¬ (i : Int) ≥ 8 * (s.size : Int) := by omega
    have hi8 : i / 8 < s.size := by omega
    have HB := Lib.hid (numS_bit s i hi8)
    have e8 : (i : Int) / 8 = ((i / 8 : Nat) : Int) := by omega
    have em : (i : Int) % 8 = ((i % 8 : Nat) : Int) := by omega
    have hm8 : i % 8 < 8 := by omega
    generalize hq : i / 8 = q at *
    generalize hm : i % 8 = m at *
    have hby : (s[q]).toNat < 256 := UInt8.toNat_lt _
    go_enter Tryz.func50, Tryz.ntmps50
    go_wp2
    go_ret
    rw [HB.out]
    generalize (s[q]).toNat = y at *
    have e : ((y : Int) / 2 ^ m).tmod 2 = ((y / 2 ^ m % 2 : Nat) : Int) := by norm_cast
    refine ⟨?_, (ex_ext (by repeat (first | exact Below.refl _ _ | assumption | refine b_drewN ?_ _ | refine Below.drew ?_ | refine b_ext' ?_ _ | refine b_alloc' ?_ _)))⟩
    rw [← e]; rfl
  · have h1 : (i : Int) ≥ 8 * (s.size : Int) := by omega
    have HB := Lib.hid (numS_bit_end s i (by omega))
    go_enter Tryz.func50, Tryz.ntmps50
    go_wp2
    go_ret
    exact ⟨by rw [HB.out]; rfl, (ex_ext (by repeat (first | exact Below.refl _ _ | assumption | refine b_drewN ?_ _ | refine Below.drew ?_ | refine b_ext' ?_ _ | refine b_alloc' ?_ _)))⟩
/-- the next n bits, from bit p on -/
def valN (N p n : Nat) : Nat := N / 2 ^ p % 2 ^ n
theorem peek_step (s : ByteArray) (f k : Nat) (h : f + k < s.size) : numS s / 256 ^ f % 256 ^ k + (s[f + k]).toNat * 2 ^ (8 * k) = numS s / 256 ^ f % 256 ^ (k + 1) := by
  have h1 := numS_byte s (f + k) h
  rw [← h1, ← pow256, Nat.pow_add, ← Nat.div_div_eq_div_mul, Nat.pow_succ, Nat.mod_mul, Nat.mul_comm]
theorem valN_cut (N f m k n : Nat) (h : m + n ≤ 8 * k) : N / 256 ^ f % 256 ^ k / 2 ^ m % 2 ^ n = valN N (8 * f + m) n := by
  unfold valN
  rw [pow256 k, Nat.pow_add, ← Nat.div_div_eq_div_mul, ← pow256 f]
  generalize N / 256 ^ f = D
  obtain ⟨q, hq⟩ : ∃ q, 8 * k = m + (n + q) := ⟨8 * k - m - n, by omega⟩
  rw [hq, Nat.pow_add, Nat.mod_mul_right_div_self, Nat.pow_add, Nat.mod_mul_right_mod]
theorem valN_end (s : ByteArray) (f m k n : Nat) (h : s.size ≤ f + k) : numS s / 256 ^ f % 256 ^ k / 2 ^ m % 2 ^ n = valN (numS s) (8 * f + m) n := by
  unfold valN
  rw [Nat.pow_add, ← Nat.div_div_eq_div_mul, ← pow256 f]
  have h0 : numS s / 256 ^ f / 256 ^ k = 0 := by
    rw [Nat.div_div_eq_div_mul, ← Nat.pow_add]; exact numS_zero s _ h
  have hl : numS s / 256 ^ f < 256 ^ k := by
    have := (Nat.div_eq_zero_iff_lt (Nat.pow_pos (n := k) (show 0 < 256 by decide))).1 h0
    exact this
  rw [Nat.mod_eq_of_lt hl]
theorem u64_or (a b k : Nat) (hk : k ≤ 4) (ha : a < 256 ^ k) (hb : b < 256) : bits .or .u64 (a : Int) (((b : Int) * 2 ^ (8 * k)) % 18446744073709551616) = ((a + b * 2 ^ (8 * k) : Nat) : Int) := by
  rw [pow256] at ha
  have ho := or_add a b (8 * k) ha
  have hp : 2 ^ (8 * k) ≤ 2 ^ 32 := Nat.pow_le_pow_right (by decide) (by omega)
  have hb2 : b * 2 ^ (8 * k) ≤ 255 * 2 ^ 32 := Nat.mul_le_mul (by omega) hp
  have hc : (b : Int) * 2 ^ (8 * k) = ((b * 2 ^ (8 * k) : Nat) : Int) := by rw [Int.natCast_mul, Int.natCast_pow]; rfl
  rw [hc]
  generalize 2 ^ (8 * k) = z at *
  generalize b * z = q at *
  have e : (q : Int) % 18446744073709551616 = (q : Int) := by omega
  rw [e, (bits_nat .u64 64 (by decide) (fun n h0 h1 => by rw [IntKind.wrap_u64]; omega) a q (by omega) (by omega)).2, ho]
theorem u64_mask (a m n : Nat) (hn : n ≤ 32) (ha : a < 2 ^ 40) : wrap64 (bits .and .u64 ((a : Int) / 2 ^ m) (IntKind.u64.wrap (IntKind.u64.wrap (2 ^ n) - 1))) = ((a / 2 ^ m % 2 ^ n : Nat) : Int) := by
  have hp : 2 ^ n ≤ 2 ^ 32 := Nat.pow_le_pow_right (by decide) hn
  have hp1 : 1 ≤ 2 ^ n := Nat.one_le_two_pow
  have e1 : (2 : Int) ^ n = ((2 ^ n : Nat) : Int) := by norm_cast
  have e2 : (a : Int) / 2 ^ m = ((a / 2 ^ m : Nat) : Int) := by norm_cast
  have e3 : IntKind.u64.wrap (IntKind.u64.wrap (2 ^ n) - 1) = ((2 ^ n - 1 : Nat) : Int) := by
    rw [IntKind.wrap_u64, IntKind.wrap_u64, e1]
    generalize 2 ^ n = q at *
    omega
  have hd : a / 2 ^ m ≤ a := Nat.div_le_self _ _
  have hb := (bits_nat .u64 64 (by decide) (fun n h0 h1 => by rw [IntKind.wrap_u64]; omega) (a / 2 ^ m) (2 ^ n - 1) (by omega) (by omega)).1
  rw [e2, e3, hb, Nat.and_two_pow_sub_one_eq_mod]
  have hm : a / 2 ^ m % 2 ^ n < 2 ^ n := Nat.mod_lt _ (by omega)
  rw [IntWalk.wrap64_in _ ⟨by omega, by omega⟩]
set_option maxRecDepth 100000 in
theorem peekS {w : World} {g : Nat} {s : ByteArray} {p : Nat} (h : BoxS w g s p) (hs : s.size ≤ 4294967296) (hp : p ≤ 8 * s.size) (n : Nat) (hn : n ≤ 32) :
    Calls Tryz.prog 92 #[.pointer (some ⟨g, 0, none⟩), .int .i64 n] w fun e w' => e = .returned (.int .i64 (valN (numS s) p n : Nat)) ∧ ∃ x, w' = ext w x := by
  have hd : decide (0 ≤ (n : Int) ∧ (n : Int) ≤ 32) = true := by simp; omega
  have HB := Lib.hid h
  have c1 := h.c1
  have c2 := h.c2
  have hg := h.lt
  have e8 : (p : Int) / 8 = ((p / 8 : Nat) : Int) := by omega
  have em : (p : Int) % 8 = ((p % 8 : Nat) : Int) := by omega
  have hpq : 8 * (p / 8) + p % 8 = p := by omega
  have hm8 : p % 8 < 8 := by omega
  clear h
  generalize p / 8 = f at *
  generalize p % 8 = m at *
  have hf : f ≤ 4294967296 := by omega
  have HPQ := Lib.hid hpq
  clear hpq
  go_enter Tryz.func92, Tryz.ntmps92
  go_wp2_with (first | (go_at_call 39; refine (thereS HB.out).mono ?_; rintro e w' ⟨rfl, hw'⟩; rw [hw']; clear hw') | (go_at_call 100; refine (many _ _).mono ?_; rintro e w' ⟨rfl, hw'⟩; rw [hw', hd]; clear hw'))
  rw [em]
  go_loop [7, 8] (fun a i => ∃ k : Nat, k ≤ 5 ∧ i = .int .i64 k ∧ a = .int .u64 (numS s / 256 ^ f % 256 ^ k : Nat)) (fun _ i => 6 - (intOf i).toNat)
  case atStart => exact ⟨0, by omega, rfl, by rw [Nat.pow_zero, Nat.mod_one]; rfl⟩
  case round =>
    obtain ⟨k, hk, rfl, rfl⟩ := hrel
    have hle : numS s / 256 ^ f % 256 ^ k < 256 ^ k := Nat.mod_lt _ (Nat.pow_pos (by decide))
    by_cases h1 : 8 * k < m + n
    · have h1i : (k : Int) * 8 < (m : Int) + (n : Int) := by omega
      by_cases h2 : f + k < s.size
      · have hst := peek_step s f k h2
        have hor := u64_or (numS s / 256 ^ f % 256 ^ k) (s[f + k]).toNat k (by omega) hle (UInt8.toNat_lt _)
        rw [hst] at hor
        rw [← IntKind.wrap_u64] at hor
        have hby : (s[f + k]).toNat < 256 := UInt8.toNat_lt _
        have hwy : IntKind.u64.wrap ((s[f + k]).toNat : Int) = ((s[f + k]).toNat : Int) := by rw [IntKind.wrap_u64]; omega
        have HOR := Lib.hid hor
        clear hor hst
        have h2i : (f : Int) + (k : Int) < (s.size : Int) := by omega
        generalize hz : numS s / 256 ^ f % 256 ^ (k + 1) = z at *
        have HZ := Lib.hid hz
        clear hz
        generalize numS s / 256 ^ f % 256 ^ k = a at *
        go_wp2
        go_round
        case rel =>
          refine ⟨k + 1, by omega, by go_num, ?_⟩
          rw [HOR.out, HZ.out]
        case measure => simp [intOf]; omega
      · have h2i : ¬ (f : Int) + (k : Int) < (s.size : Int) := by omega
        have HV := Lib.hid (valN_end s f m k n (by omega))
        rw [HPQ.out] at HV
        have h40 : 256 ^ k ≤ 256 ^ 5 := Nat.pow_le_pow_right (by decide) hk
        have ha : numS s / 256 ^ f % 256 ^ k < 2 ^ 40 := Nat.lt_of_lt_of_le hle h40
        generalize numS s / 256 ^ f % 256 ^ k = a at *
        go_wp2
        go_ret
        refine ⟨?_, (ex_ext (by repeat (first | exact Below.refl _ _ | assumption | refine b_drewN ?_ _ | refine Below.drew ?_ | refine b_ext' ?_ _ | refine b_alloc' ?_ _)))⟩
        rw [← HV.out, ← u64_mask a m n hn ha]; rfl
    · have h1i : ¬ (k : Int) * 8 < (m : Int) + (n : Int) := by omega
      have HV := Lib.hid (valN_cut (numS s) f m k n (by omega))
      rw [HPQ.out] at HV
      have h40 : 256 ^ k ≤ 256 ^ 5 := Nat.pow_le_pow_right (by decide) hk
      have ha : numS s / 256 ^ f % 256 ^ k < 2 ^ 40 := Nat.lt_of_lt_of_le hle h40
      generalize numS s / 256 ^ f % 256 ^ k = a at *
      go_wp2
      go_ret
      refine ⟨?_, (ex_ext (by repeat (first | exact Below.refl _ _ | assumption | refine b_drewN ?_ _ | refine Below.drew ?_ | refine b_ext' ?_ _ | refine b_alloc' ?_ _)))⟩
      rw [← HV.out, ← u64_mask a m n hn ha]; rfl
end Go.Cm

/- The walk of the document's reading of a symbol. Conditions: the lengths are right, the reader is there. -/
namespace Go.Cm
open Go.RowKit Go.Proofs

/-- what the document's reading answers -/
def RetRead (Bx : World → Nat → ByteArray → Nat → Prop) (L : List Nat) (s : ByteArray) (p g : Nat) (w : World) (e : Ending) (w' : World) : Prop :=
  ∃ a er d, e = .returned (.tuple #[.int .i64 (a : Nat), .int .i64 (er : Nat)]) ∧ ReadN L (numS s / 2 ^ p) (8 * s.size - p) a er d ∧ Bx w' g s (p + d) ∧ w.grownBy w' (some g)
set_option maxRecDepth 100000 in
set_option maxHeartbeats 1000000 in
theorem readR0 {w0 w : World} {g p : Nat} {s : ByteArray} (v : Value) (L : List Nat) (h0 : IntsAt w0 v (nls L)) (hb0 : Below w0.heap.size w0 w) (h : BoxT w g s p)
    (hlen : L.length ≤ 320) (h15 : ∀ x ∈ L, x ≤ 15) (hk : kraftN L ≤ 32768) (hs : s.size ≤ 4294967296) (hp : p ≤ 8 * s.size) :
    Calls Tryz.prog 33 #[.pointer (some ⟨g, 0, none⟩), v] w (RetRead BoxT L s p g w) := by
  have HCO : Hid (∀ w', Below w0.heap.size w w' → Calls Tryz.prog 48 #[v] w' fun e w'' => ∃ vc, e = .returned (.tuple #[vc, .int .i64 0]) ∧ Own w'' w'.heap.size 3 vc (ints (nls (codesN L))) ∧ Below w'.heap.size w' w'') := Lib.hid (fun w' hb => by
    have h1 := codesR v (nls L) w' (h0.up (hb0.trans hb))
    unfold RetCodes at h1
    rw [errI_nls hlen h15, if_neg (by omega), if_pos rfl, nls_toNat] at h1
    exact h1)
  obtain ⟨oa, cap, b, off, rfl, hd, hc⟩ := h0.open
  rw [nls_length] at hd hc
  rw [nls_length] at HCO ⊢
  have hix := index_any (P := Tryz.prog) 35 3 Tryz.underlying35 (by kernel_rfl) hd
  have hm := hd.len
  have hbk := hd.hblk
  have hsz0 := hb0.size
  have HBW := Lib.hid hb0
  have HB := Lib.hid h
  have HC : Hid (∀ i, i < L.length → w0.cell? ⟨b, off + i, none⟩ = some (.int .i64 (L.getD i 0 : Nat))) := Lib.hid (fun i hi => by rw [hc i hi, nls_getD])
  have H15 : Hid (∀ i, i < L.length → L.getD i 0 ≤ 15) := Lib.hid (fun i hi => h15 _ (getD_mem L i 0 hi))
  clear hc h0 hb0 h hd h15 hk
  go_enter Tryz.func33, Tryz.ntmps33
  go_wp2_with (go_at_call 48; refine (HCO.out _ (Below.refl _ _)).mono ?_; rintro e w2 ⟨vc, rfl, hq3, hq4⟩; have HQ3 := Lib.hid hq3; have HQ4 := Lib.hid hq4; clear hq3 hq4)
  have HB2 := Lib.hid (HB.out.up HQ4.out)
  have HC2 : Hid (∀ i, i < L.length → w2.cell? ⟨b, off + i, none⟩ = some (.int .i64 (L.getD i 0 : Nat))) := Lib.hid (fun i hi => ((HBW.out.trans (HQ4.out.mono hsz0)).cell (p := ⟨b, off + i, none⟩) (hbk (by omega))).trans (HC.out i hi))
  have hsz2 := HQ4.out.size
  obtain ⟨oc, cc, bc, fc, rfl, hdc, hcc⟩ := (show IntsAt w2 vc (nls (codesN L)) from HQ3.out.sl).open
  rw [show (nls (codesN L)).length = L.length by rw [nls_length, codesN_length]] at hdc hcc ⊢
  have hixc := index_any (P := Tryz.prog) 35 3 Tryz.underlying35 (by kernel_rfl) hdc
  have HCC : Hid (∀ i, i < L.length → w2.cell? ⟨bc, fc + i, none⟩ = some (.int .i64 (codeN L i : Nat))) := Lib.hid (fun i hi => by rw [hcc i hi, nls_getD, codesN_getD L i hi])
  have hbkc := hdc.hblk
  have HBIT : Hid (∀ (i : Nat) (W : World), Calls Tryz.prog 50 #[.string s, .int .i64 i] W fun e w' => e = .returned (.int .i64 (((numS s).testBit i).toNat : Nat)) ∧ ∃ x, w' = ext W x) := Lib.hid (fun i W => bitT s i hs W)
  have HLF : Hid (∀ W, BoxT W g s p → Calls Tryz.prog 49 #[.pointer (some ⟨g, 0, none⟩)] W fun e w' => e = .returned (.int .i64 ((8 * s.size - p : Nat) : Int)) ∧ ∃ x, w' = ext W x) := Lib.hid (fun W h => leftT h hs hp)
  clear hdc hcc HQ3 HCO HC
  have HQW : Hid (Below w.heap.size w w2) := HQ4
  have HGR : Hid (w.grownBy w2 (some g)) := Lib.hid (grown_below HQ4.out _)
  have hbk2 : 0 < L.length → b < w2.heap.size := fun h => by have := hbk h; omega
  clear HQ4 hbk HBW HB HQW
  obtain ⟨left, hl⟩ : ∃ left, left = 8 * s.size - p := ⟨_, rfl⟩
  have hleft : left + p = 8 * s.size := by omega
  rw [← hl] at HLF
  clear hl
  go_loopg [8, 9] 15 (fun gk c n wr => ∃ k : Nat, 1 ≤ k ∧ k ≤ 16 ∧ k ≤ left + 1 ∧ n = .int .i64 k ∧ c = .int .i64 (turnN (numS s / 2 ^ p) (k - 1) : Nat) ∧ Hid (∀ i, i < L.length → hitN L (numS s / 2 ^ p) i → k ≤ L.getD i 0) ∧ (∃ x, wr = ext w2 x) ∧ gk = 16 - k)
  case atStart => exact ⟨1, by omega, by omega, by omega, rfl, rfl, Lib.hid (fun i _ h => by have := h.1; omega), refl_ext _, rfl⟩
  case round =>
    obtain ⟨k, hk1, hk16, hkl, rfl, rfl, HIT, ⟨x, rfl⟩, rfl⟩ := hrel
    have HB3 := Lib.hid (HB2.out.up (ext_below w2 x))
    have HL3 := Lib.hid (HLF.out _ HB3.out)
    have hszx := size_ext w2 x
    have hc0 := HB3.out.c0
    have hc1 := HB3.out.c1
    have hgx := HB3.out.lt
    by_cases hk15 : k ≤ 15
    · by_cases hkle : k ≤ left
      · have hki : (k : Int) ≤ (left : Int) := by omega
        have hk15i : (k : Int) ≤ 15 := by omega
        have heq : (p : Int) + (k : Int) - 1 = ((p + (k - 1) : Nat) : Int) := by omega
        have hTS := turnN_succ (numS s / 2 ^ p) (k - 1)
        rw [show k - 1 + 1 = k by omega, Nat.testBit_div_two_pow, Nat.add_comm (k - 1) p] at hTS
        have HTS := Lib.hid hTS
        have HBT := Lib.hid (HBIT.out (p + (k - 1)))
        have hqb : p + (k - 1) ≤ 68719476736 := by omega
        have htl := turnN_lt (numS s / 2 ^ p) (k - 1)
        have htl2 : 2 ^ (k - 1) ≤ 2 ^ 15 := Nat.pow_le_pow_right (by decide) (by omega)
        have hbb : ((numS s).testBit (p + (k - 1))).toNat ≤ 1 := by cases (numS s).testBit (p + (k - 1)) <;> simp
        clear hTS
        generalize ((numS s).testBit (p + (k - 1))).toNat = y at *
        generalize p + (k - 1) = q at *
        generalize turnN (numS s / 2 ^ p) (k - 1) = c at *
        have hc15 : c ≤ 32768 := by omega
        clear htl htl2
        go_wp2_with (go_at_call 49; refine HL3.out.mono ?_; rintro e w4 ⟨rfl, z, rfl⟩; have hg4 : g < (ext (ext w2 x) z).heap.size := (HB3.out.up (ext_below _ z)).lt)
        refine wp_region_ext (by kernel_rfl) (by kernel_rfl) ?_
        repeat (go_big_quiet_step ((go_at_call 50; exact calls_in (HBT.out _))))
        refine wpQuiet_nil ?_
        rintro w' ⟨x2, rfl⟩
        obtain ⟨wo, hwo⟩ : ∃ wo, ext (ext (ext w2 x) z) x2 = ext w2 wo := ex_ext (b_ext' (b_ext' (ext_below w2 x) z) x2)
        rw [hwo]
        clear hwo HB3 HL3 hszx hc0 hc1 hgx hg4
        go_wp2
        obtain ⟨t, ht⟩ : ∃ t, t = turnN (numS s / 2 ^ p) k := ⟨_, rfl⟩
        have hti : 2 * (c : Int) + (y : Int) = (t : Int) := by rw [ht, HTS.out]; norm_cast
        have HT := Lib.hid ht
        have ht15 : t ≤ 65537 := by rw [ht, HTS.out]; omega
        rw [hti]
        clear ht HTS HBT hti heq
        have HB5 := Lib.hid (HB2.out.up (ext_below w2 wo))
        have hsz5 := size_ext w2 wo
        have hcw : ∀ q o, q < w2.heap.size → (ext w2 wo).cell? ⟨q, o, none⟩ = w2.cell? ⟨q, o, none⟩ := fun q o hq => cell?_ext w2 wo q o hq
        have HCW := Lib.hid hcw
        have HGR5 : Hid (w.grownBy (ext w2 wo) (some g)) := Lib.hid (grown_trans HGR.out (grown_below (ext_below _ _) _))
        have HXT : Hid (∃ x, ext w2 wo = ext w2 x) := Lib.hid ⟨wo, rfl⟩
        clear hcw
        generalize ext w2 wo = w5 at *
        have hc1 := HB5.out.c1
        have hf1 := HB5.out.free 1
        have hg5 := HB5.out.lt
        go_loopg [10] L.length (fun gk i wr => ∃ j : Nat, j ≤ L.length ∧ i = .int .i64 j ∧ Hid (∀ q, q < j → hitN L (numS s / 2 ^ p) q → L.getD q 0 ≠ k) ∧ wr = w5 ∧ gk = L.length - j)
        case atStart => exact ⟨0, Nat.zero_le _, rfl, Lib.hid (fun q hq => absurd hq (Nat.not_lt_zero q)), rfl, rfl⟩
        case round =>
          obtain ⟨j, hj, rfl, HNO, rfl, rfl⟩ := hrel
          by_cases hlt : j < L.length
          · have hcell := (HCW.out b (off + j) (hbk2 (by omega))).trans (HC2.out j hlt)
            have hcellc := (HCW.out bc (fc + j) (hbkc (by omega))).trans (HCC.out j hlt)
            have hb5 : b < wr.heap.size := by have := hbk2 (by omega); omega
            have hbc5 : bc < wr.heap.size := by have := hbkc (by omega); omega
            have hitk := HIT.out j hlt
            have HHD : Hid (hitN L (numS s / 2 ^ p) j ↔ L.getD j 0 ≠ 0 ∧ codeN L j = turnN (numS s / 2 ^ p) (L.getD j 0)) := Lib.hid Iff.rfl
            have HLX : Hid (L.getD j 0 = L.getD j 0) := Lib.hid rfl
            generalize hx : L.getD j 0 = xx at *
            generalize hcd : codeN L j = cd at *
            have HX := Lib.hid hx
            have HITK := Lib.hid hitk
            clear hx hcd hitk
            have HSTEP : Hid (¬ (xx = k ∧ cd = t) → ∀ q, q < j + 1 → hitN L (numS s / 2 ^ p) q → L.getD q 0 ≠ k) := Lib.hid (fun hn q hq hh => by
              rcases Nat.lt_succ_iff_lt_or_eq.1 hq with h1 | rfl
              · exact HNO.out q h1 hh
              · intro he
                have hxk : xx = k := by rw [← HX.out]; exact he
                refine hn ⟨hxk, ?_⟩
                rw [HT.out, ← hxk]
                exact (HHD.out.1 hh).2)
            by_cases hxk : xx = k
            · have e1 : ((xx : Int) == (k : Int)) = true := by rw [hxk]; exact beq_self_eq_true _
              by_cases hct : cd = t
              · have e2 : ((cd : Int) == (t : Int)) = true := by rw [hct]; exact beq_self_eq_true _
                have HH : Hid (hitN L (numS s / 2 ^ p) j) := Lib.hid (HHD.out.2 ⟨by omega, by rw [hxk, ← HT.out]; exact hct⟩)
                have HXK := Lib.hid hxk
                clear hxk hct
                have HST := Lib.hid (HB5.out.set1 (p + k))
                go_wp2
                go_ret2
                have hst := HST.out
                rw [Int.natCast_add] at hst
                unfold RetRead; rw [show 8 * s.size - p = left by omega]
                exact ⟨j, 0, k, rfl, .inl ⟨hlt, HH.out, by rw [HX.out, HXK.out]; omega, rfl, by rw [HX.out, HXK.out]⟩, hst.1, grown_trans HGR5.out hst.2⟩
              · have e2 : ((cd : Int) == (t : Int)) = false := by simp; omega
                have HH := Lib.hid (HSTEP.out (fun h => hct h.2))
                clear hct hxk
                go_wp2
                go_roundg (L.length - (j + 1))
                case measure => omega
                case rel => exact ⟨j + 1, by omega, by go_num, HH, rfl, rfl⟩
            · have e1 : ((xx : Int) == (k : Int)) = false := by simp; omega
              have HH := Lib.hid (HSTEP.out (fun h => hxk h.1))
              clear hxk
              go_wp2
              go_roundg (L.length - (j + 1))
              case measure => omega
              case rel => exact ⟨j + 1, by omega, by go_num, HH, rfl, rfl⟩
          · obtain rfl : j = L.length := by omega
            have HIT2 : Hid (∀ i, i < L.length → hitN L (numS s / 2 ^ p) i → k + 1 ≤ L.getD i 0) := Lib.hid (fun i hi hh => by
              have h1 := HIT.out i hi hh
              have h2 := HNO.out i hi hh
              omega)
            have HT1 := HT
            go_wp2
            go_roundg (16 - (k + 1))
            case measure => omega
            case rel => exact ⟨k + 1, by omega, by omega, by omega, by go_num, by rw [Nat.add_sub_cancel, ← HT1.out], HIT2, HXT.out, rfl⟩
      · have hki : ¬ (k : Int) ≤ (left : Int) := by omega
        have hk15i : (k : Int) ≤ 15 := by omega
        have hl15 : (left : Int) < 15 := by omega
        have hN : ReadN L (numS s / 2 ^ p) left 0 2 0 := .inr ⟨fun i hi hh => by have := HIT.out i hi hh; omega, rfl, rfl, by rw [if_pos (by omega)]⟩
        have HN := Lib.hid hN
        clear hN
        go_wp2_with (first | (go_at_call 49; refine HL3.out.mono ?_; rintro e w4 ⟨rfl, z, rfl⟩; have HB4 := Lib.hid (HB3.out.up (ext_below _ z)); have HL4 := Lib.hid (HLF.out _ HB4.out)) | (go_at_call 49; refine HL4.out.mono ?_; rintro e w5 ⟨rfl, z2, rfl⟩))
        go_ret2
        unfold RetRead; rw [show 8 * s.size - p = left by omega]
        have hbz : Below w2.heap.size w2 (ext (ext (ext w2 x) z) z2) := (by repeat (first | exact Below.refl _ _ | assumption | refine b_drewN ?_ _ | refine Below.drew ?_ | refine b_ext' ?_ _ | refine b_alloc' ?_ _))
        exact ⟨0, 2, 0, rfl, HN.out, HB4.out.up (ext_below _ _), grown_trans HGR.out (grown_below hbz _)⟩
    · obtain rfl : k = 16 := by omega
      have hl15 : ¬ (left : Int) < 15 := by omega
      have hN : ReadN L (numS s / 2 ^ p) left 0 9 0 := .inr ⟨fun i hi hh => by have := HIT.out i hi hh; have := H15.out i hi; omega, rfl, rfl, by rw [if_neg (by omega)]⟩
      have HN := Lib.hid hN
      clear hN
      go_wp2_with (first | (go_at_call 49; refine HL3.out.mono ?_; rintro e w4 ⟨rfl, z, rfl⟩; have HB4 := Lib.hid (HB3.out.up (ext_below _ z))))
      go_ret2
      unfold RetRead; rw [show 8 * s.size - p = left by omega]
      have hbz : Below w2.heap.size w2 (ext (ext w2 x) z) := (by repeat (first | exact Below.refl _ _ | assumption | refine b_drewN ?_ _ | refine Below.drew ?_ | refine b_ext' ?_ _ | refine b_alloc' ?_ _))
      exact ⟨0, 9, 0, rfl, HN.out, HB4.out, grown_trans HGR.out (grown_below hbz _)⟩
end Go.Cm

/- The table of codes in memory; the walks of its filling. Conditions: none. -/
namespace Go.Cm
open Go.RowKit Go.Proofs

def cellE (e : Ent) (c : Nat) : Nat := if c = 0 then e.s else if c = 1 then e.b else e.t
def entV (e : Ent) : Array Value := #[.int .i64 (e.s : Nat), .int .i64 (e.b : Nat), .int .i64 (e.t : Nat)]
/-- entries, a value a cell -/
def flatE (E : Nat → Ent) (n : Nat) : List Value := (List.range (3 * n)).map fun k => .int .i64 (cellE (E (k / 3)) (k % 3) : Nat)
theorem flatE_length (E : Nat → Ent) (n : Nat) : (flatE E n).length = 3 * n := by simp [flatE]
theorem flatE_congr {E E' : Nat → Ent} {n : Nat} (h : ∀ x, x < n → E x = E' x) : flatE E n = flatE E' n := by
  unfold flatE
  refine List.map_congr_left fun k hk => ?_
  have := List.mem_range.1 hk
  rw [h (k / 3) (by omega)]
theorem flatE_zero (n : Nat) : flatE (fun _ => Ent.zero) n = List.replicate (3 * n) (.int .i64 0) := by
  rw [List.eq_replicate_iff]
  refine ⟨flatE_length _ _, fun x hx => ?_⟩
  simp only [flatE, List.mem_map] at hx
  obtain ⟨k, -, rfl⟩ := hx
  have : cellE Ent.zero (k % 3) = 0 := by unfold cellE Ent.zero; split <;> (try split) <;> rfl
  rw [this]; rfl
theorem flatE_at (E : Nat → Ent) (n x c : Nat) (hx : x < n) (hc : c < 3) : (flatE E n)[3 * x + c]? = some (.int .i64 (cellE (E x) c : Nat)) := by
  unfold flatE
  rw [List.getElem?_map, List.getElem?_range (by omega)]
  simp only [Option.map_some]
  rw [show (3 * x + c) / 3 = x by omega, show (3 * x + c) % 3 = c by omega]
theorem set3 (pre post : List Value) (E : Nat → Ent) (n x : Nat) (e : Ent) (hx : x < n) :
    (pre ++ flatE E n ++ post).take (pre.length + 3 * x) ++ (entV e).toList ++ (pre ++ flatE E n ++ post).drop (pre.length + 3 * x + 3) = pre ++ flatE (updN E x e) n ++ post := by
  have hl : (flatE E n).length = 3 * n := flatE_length E n
  have e1 : (pre ++ flatE E n ++ post).take (pre.length + 3 * x) = pre ++ (flatE E n).take (3 * x) := by
    rw [List.append_assoc, List.take_length_add_append, List.take_append_of_le_length (by omega)]
  have e2 : (pre ++ flatE E n ++ post).drop (pre.length + 3 * x + 3) = (flatE E n).drop (3 * x + 3) ++ post := by
    rw [List.append_assoc, Nat.add_assoc, List.drop_length_add_append, List.drop_append_of_le_length (by omega)]
  rw [e1, e2]
  have e3 : flatE (updN E x e) n = (flatE E n).take (3 * x) ++ (entV e).toList ++ (flatE E n).drop (3 * x + 3) := by
    refine List.ext_getElem? fun k => ?_
    by_cases hk : k < 3 * n
    · have hg : ∀ F : Nat → Ent, (flatE F n)[k]? = some (.int .i64 (cellE (F (k / 3)) (k % 3) : Nat)) := fun F => by
        have := flatE_at F n (k / 3) (k % 3) (by omega) (by omega)
        rwa [show 3 * (k / 3) + k % 3 = k by omega] at this
      rw [hg]
      by_cases h1 : k < 3 * x
      · rw [List.append_assoc, List.getElem?_append_left (by simp; omega), List.getElem?_take, if_pos h1, hg]
        unfold updN
        rw [if_neg (by omega)]
      · by_cases h2 : k < 3 * x + 3
        · rw [List.append_assoc, List.getElem?_append_right (by simp; omega), List.length_take, hl, Nat.min_eq_left (by omega), List.getElem?_append_left (by simp [entV]; omega)]
          unfold updN
          rw [if_pos (by omega)]
          obtain ⟨c, hc, rfl⟩ : ∃ c, c < 3 ∧ k = 3 * x + c := ⟨k - 3 * x, by omega, by omega⟩
          rw [Nat.add_sub_cancel_left, show (3 * x + c) % 3 = c by omega]
          rcases (show c = 0 ∨ c = 1 ∨ c = 2 by omega) with rfl | rfl | rfl <;> rfl
        · rw [List.getElem?_append_right (by simp [entV]; omega)]
          have hlen : ((flatE E n).take (3 * x) ++ (entV e).toList).length = 3 * x + 3 := by simp [entV, hl]; omega
          rw [hlen, List.getElem?_drop, show 3 * x + 3 + (k - (3 * x + 3)) = k by omega, hg]
          unfold updN
          rw [if_neg (by omega)]
    · rw [List.getElem?_eq_none (by rw [flatE_length]; omega), List.getElem?_eq_none]
      simp [entV, hl]; omega
  rw [e3]
  simp [List.append_assoc]
theorem entV_one (e : Ent) : ∀ u ∈ (entV e).toList, u.oneCell' = true := by
  intro u hu
  simp [entV] at hu
  rcases hu with rfl | rfl | rfl <;> rfl
/-- the address of an entry -/
theorem index_ent (g o n : Nat) (W : World) (i : Nat) (h : i < n) : (Instr.indexAt 119 (.slice (some ⟨g, o, none⟩) n n) (.int .i64 i)).run Tryz.prog W = .ok (.pointer (some ⟨g, o + 3 * i, none⟩)) W := by
  have he : Tryz.prog.elem 119 = 113 := by simp [Program.elem, Tryz.underlying119]
  have hsz : (sizeOf 113).run Tryz.prog W = .ok 3 W := by
    have hi : (Tryz.prog.info? 113).map (·.size) = some 3 := by kernel_rfl
    cases hq : Tryz.prog.info? 113 with
    | none => simp [hq] at hi
    | some inf => have : inf.size = 3 := by simpa [hq] using hi
                  simp [sizeOf, typeInfo, hq, this]
  rw [run_indexAt_slice W 119 ⟨g, o, none⟩ n n .i64 i (by rw [he]; exact Tryz.underlying119), if_pos ⟨by omega, by omega⟩, he, hsz]
  simp only [Result.andThen, Int.toNat_natCast, add_off]
  rw [Nat.mul_comm]
/-- entries that were put so far -/
def partF (E : Nat → Ent) (t q : Nat) (e : Ent) (i : Nat) : Nat → Ent := fun x => if x < i ∧ x % q = t then e else E x
theorem partF_start (E : Nat → Ent) (t q : Nat) (e : Ent) (n : Nat) (ht : t < q) : flatE (partF E t q e t) n = flatE E n := flatE_congr fun x _ => by
  unfold partF
  rw [if_neg]
  rintro ⟨h1, h2⟩
  rw [Nat.mod_eq_of_lt (by omega)] at h2; omega
theorem partF_step (E : Nat → Ent) (t q : Nat) (e : Ent) (i : Nat) (hi : i % q = t) (ht : t < q) : updN (partF E t q e i) i e = partF E t q e (i + q) := by
  funext x
  unfold updN partF
  by_cases h : x = i
  · subst h; rw [if_pos rfl, if_pos ⟨by omega, hi⟩]
  · rw [if_neg h]
    by_cases h2 : x < i ∧ x % q = t
    · rw [if_pos h2, if_pos ⟨by omega, h2.2⟩]
    · rw [if_neg h2, if_neg]
      rintro ⟨h3, h4⟩
      have hge : i ≤ x := by
        apply Classical.byContradiction; intro hlt
        exact h2 ⟨by omega, h4⟩
      obtain ⟨d, rfl⟩ : ∃ d, x = i + d := ⟨x - i, by omega⟩
      have hd : d < q := by omega
      have h5 : (i + d) % q = i % q := by rw [h4, hi]
      have h6 : d % q = 0 := by
        have h7 : (i + d - i) % q = 0 := Nat.sub_mod_eq_zero_of_mod_eq h5
        rwa [Nat.add_sub_cancel_left] at h7
      rw [Nat.mod_eq_of_lt hd] at h6
      subst h6; exact h rfl
theorem partF_end (E : Nat → Ent) (c nn : Nat) (e : Ent) (i n : Nat) (hi : n ≤ i) : flatE (partF E (turnN c nn) (2 ^ nn) e i) n = flatE (fillN E c nn e) n := flatE_congr fun x hx => by
  unfold partF fillN
  by_cases h : x % 2 ^ nn = turnN c nn
  · rw [if_pos ⟨by omega, h⟩, if_pos h]
  · rw [if_neg (fun q => h q.2), if_neg h]
set_option maxRecDepth 100000 in
theorem fillP {w : World} {B T g N o n : Nat} {pre post : List Value} {E : Nat → Ent} (h : Own w B T (.slice (some ⟨g, 0, none⟩) N N) (pre ++ flatE E n ++ post)) (hpre : pre.length = o) (c nn : Nat) (hnn : nn ≤ 15) (hn : n ≤ 65536) (e : Ent) :
    Calls Tryz.prog 64 #[.slice (some ⟨g, o, none⟩) n n, .int .i64 c, .int .i64 nn, .agg (entV e)] w fun en w' => en = .returned (.tuple #[]) ∧
      Own w' B T (.slice (some ⟨g, 0, none⟩) N N) (pre ++ flatE (fillN E c nn e) n ++ post) ∧ w.grownBy w' (some g) := by
  have hg := h.blk
  have hlen := h.len
  have HO := Lib.hid (h.up (below_alloc w (.cells (entV e) 113)))
  have HG := Lib.hid (heap_alloc_new w (.cells (entV e) 113))
  have hix := index_ent g o n
  have HES : Hid ((entV e).size = 3) := Lib.hid rfl
  have HE1 := Lib.hid (entV_one e)
  have HGB : Hid (w.grownBy (w.alloc (.cells (entV e) 113)) (some g)) := Lib.hid (grown_below (below_alloc _ _) _)
  have HS3 := Lib.hid (fun E x hx => set3 pre post E n x e hx)
  have htl := turnN_lt c nn
  have HPS := Lib.hid (partF_start E (turnN c nn) (2 ^ nn) e n htl)
  have HPT := Lib.hid (fun i hi => partF_step E (turnN c nn) (2 ^ nn) e i hi htl)
  have HPE := Lib.hid (partF_end E c nn e)
  have HTP := Lib.hid (turnP c nn (by omega))
  have hq : 2 ^ nn ≤ 32768 := Nat.le_trans (Nat.pow_le_pow_right (by decide) hnn) (by decide)
  rw [← HPS.out] at HO
  obtain ⟨V, hV⟩ : ∃ V, V = entV e := ⟨_, rfl⟩
  rw [← hV] at HO HG HES HE1 HGB HS3 ⊢
  have HV := Lib.hid hV
  have HTM : Hid (turnN c nn % 2 ^ nn = turnN c nn) := Lib.hid (Nat.mod_eq_of_lt htl)
  have HQ := Lib.hid hq
  have ht15 : turnN c nn ≤ 32768 := by omega
  clear h hV htl hq
  go_enter Tryz.func64, Tryz.ntmps64
  go_wp2_with (go_at_call 90; refine (HTP.out _).mono ?_; rintro en w' ⟨rfl, hw'⟩; rw [hw']; clear hw')
  generalize hA : (w.alloc (.cells V 113)) = w1 at *
  have hgw1 : g < w1.heap.size := by rw [← hA]; simp; omega
  have hsz1 : w1.heap.size = w.heap.size + 1 := by rw [← hA]; simp
  clear hA
  obtain ⟨t, ht⟩ : ∃ t, t = turnN c nn := ⟨_, rfl⟩
  rw [← ht] at HO HPS HPT HPE HTM ht15 ⊢
  clear ht
  go_loopg [8] (n - t) (fun gk iv wr => ∃ i : Nat, iv = .int .i64 i ∧ i % 2 ^ nn = t ∧ i ≤ 100000 ∧ Own wr B T (.slice (some ⟨g, 0, none⟩) N N) (pre ++ flatE (partF E t (2 ^ nn) e i) n ++ post) ∧ w1.grownBy wr (some g) ∧ gk = n - i)
  case atStart => exact ⟨t, rfl, HTM.out, by omega, HO.out, grown_refl _ _, rfl⟩
  case round =>
    clear HO
    obtain ⟨i, rfl, him, hi1, hown, hgr, rfl⟩ := hrel
    have HO := Lib.hid hown
    have HGR := Lib.hid hgr
    have hszr := hgr.size
    have hgV := (hgr.block w.heap.size (by omega) (by simp; omega)).trans HG.out
    clear hown hgr
    by_cases hlt : i < n
    · have hixi := fun W => hix W i hlt
      have HIM := Lib.hid him
      clear him
      have HS := Lib.hid (HS3.out (partF E t (2 ^ nn) e i) i hlt)
      rw [HPT.out i HIM.out] at HS
      go_wp2_with (first | (refine load_box rfl 113 3 _ rfl w.heap.size rfl V HES.out hgV _ Tryz.underlying113 rfl (by kernel_rfl) ?_) | (refine wpList_store_part rfl 113 _ _ rfl B T g N N (o + 3 * i) rfl V rfl (by rw [HES.out]; kernel_rfl) _ HO.out (by rw [List.length_append, List.length_append, flatE_length, HES.out]; omega) HE1.out ?_; intro w5 hown5 hg5; have HO5 := Lib.hid hown5; have HG5 := Lib.hid hg5; clear hown5 hg5))
      have hqq := HQ.out
      generalize hq0 : 2 ^ nn = q at *
      have hpos : 0 < q := by rw [← hq0]; exact Nat.pow_pos (by decide)
      have e0 : (2 : Int) ^ nn = (q : Int) := by rw [← hq0]; norm_cast
      rw [e0]
      go_roundg (n - (i + q))
      case measure => omega
      case rel =>
        rw [IntWalk.wrap64_in (q : Int) ⟨by omega, by omega⟩, IntWalk.wrap64_in _ ⟨by omega, by omega⟩]
        refine ⟨i + q, by norm_cast, by rw [Nat.add_mod_right]; exact HIM.out, by omega, ?_, grown_trans HGR.out HG5.out, rfl⟩
        have h5 := HO5.out
        rw [← hpre, HES.out, HS.out] at h5
        exact h5
    · have HE2 := Lib.hid (HPE.out i n (by omega))
      go_wp2
      go_end0
      refine ⟨rfl, ?_, grown_trans HGB.out HGR.out⟩
      rw [← HE2.out]
      exact HO.out
set_option maxRecDepth 100000 in
/-- the longest rest of a code with the head -/
theorem longestP {w : World} (v u : Value) (L : List Nat) (h : IntsAt w v (nls L)) (hu : IntsAt w u (nls (codesN L))) (hlen : L.length ≤ 320) (h15 : ∀ x ∈ L, x ≤ 15) (hk : kraftN L ≤ 32768) (head : Nat) (_hh : head ≤ 32768) :
    Calls Tryz.prog 91 #[v, u, .int .i64 head] w fun e w' => (∃ m : Nat, e = .returned (.int .i64 m) ∧ m ≤ 6 ∧ ∀ j, j < L.length → 9 < L.getD j 0 → codeN L j / 2 ^ (L.getD j 0 - 9) = head → L.getD j 0 ≤ 9 + m) ∧ ∃ x, w' = ext w x := by
  obtain ⟨oa, cap, b, off, rfl, hd, hc⟩ := h.open
  obtain ⟨oc, cc, bc, fc, rfl, hdc, hcc⟩ := hu.open
  rw [nls_length] at hd hc ⊢
  rw [show (nls (codesN L)).length = L.length by rw [nls_length, codesN_length]] at hdc hcc ⊢
  have hix := index_any (P := Tryz.prog) 35 3 Tryz.underlying35 (by kernel_rfl) hd
  have hixc := index_any (P := Tryz.prog) 35 3 Tryz.underlying35 (by kernel_rfl) hdc
  have hm := hd.len
  have hbk := hd.hblk
  have hbkc := hdc.hblk
  have HC : Hid (∀ i, i < L.length → w.cell? ⟨b, off + i, none⟩ = some (.int .i64 (L.getD i 0 : Nat))) := Lib.hid (fun i hi => by rw [hc i hi, nls_getD])
  have HCC : Hid (∀ i, i < L.length → w.cell? ⟨bc, fc + i, none⟩ = some (.int .i64 (codeN L i : Nat))) := Lib.hid (fun i hi => by rw [hcc i hi, nls_getD, codesN_getD L i hi])
  have H15 : Hid (∀ i, i < L.length → L.getD i 0 ≤ 15) := Lib.hid (fun i hi => h15 _ (getD_mem L i 0 hi))
  have HCL : Hid (∀ i, i < L.length → codeN L i < 2 ^ L.getD i 0) := Lib.hid (code_lt h15 hk)
  clear h hu hd hc hdc hcc h15 hk
  go_enter Tryz.func91, Tryz.ntmps91
  go_wp2
  go_loop [7, 12] (fun mo i => ∃ (k m : Nat), k ≤ L.length ∧ i = .int .i64 k ∧ mo = .int .i64 m ∧ m ≤ 6 ∧ ∀ j, j < k → 9 < L.getD j 0 → codeN L j / 2 ^ (L.getD j 0 - 9) = head → L.getD j 0 ≤ 9 + m) (fun _ i => L.length - (intOf i).toNat)
  case atStart => exact ⟨0, 0, Nat.zero_le _, rfl, rfl, by omega, fun j hj => absurd hj (Nat.not_lt_zero j)⟩
  case round =>
    obtain ⟨k, m, hk, rfl, rfl, hm6, hall⟩ := hrel
    have HA := Lib.hid hall
    clear hall
    by_cases hlt : k < L.length
    · have hcell := HC.out k hlt
      have hcellc := HCC.out k hlt
      have hb1 := hbk (by omega)
      have hb2 := hbkc (by omega)
      have hx15 := H15.out k hlt
      have hcl := HCL.out k hlt
      have HST : Hid (∀ m' : Nat, m ≤ m' → (9 < L.getD k 0 → codeN L k / 2 ^ (L.getD k 0 - 9) = head → L.getD k 0 ≤ 9 + m') → ∀ j, j < k + 1 → 9 < L.getD j 0 → codeN L j / 2 ^ (L.getD j 0 - 9) = head → L.getD j 0 ≤ 9 + m') := Lib.hid (fun m' hm' hn j hj h9 hh => by
        rcases Nat.lt_succ_iff_lt_or_eq.1 hj with hj | rfl
        · have := HA.out j hj h9 hh; omega
        · exact hn h9 hh)
      generalize L.getD k 0 = x at *
      generalize codeN L k = c at *
      have hc15 : c ≤ 32768 := by
        have : 2 ^ x ≤ 2 ^ 15 := Nat.pow_le_pow_right (by decide) hx15
        omega
      clear hcl
      by_cases h9 : 9 < x
      · have h9i : (x : Int) > 9 := by omega
        have e1 : (x : Int) - 9 = ((x - 9 : Nat) : Int) := by omega
        have hr6 : x - 9 ≤ 6 := by omega
        generalize hr : x - 9 = r at *
        have e2 : (c : Int) / 2 ^ r = ((c / 2 ^ r : Nat) : Int) := by norm_cast
        have hcr : c / 2 ^ r ≤ c := Nat.div_le_self _ _
        generalize c / 2 ^ r = z at *
        by_cases heq : z = head
        · have e3 : ((z : Int) == (head : Int)) = true := by rw [heq]; exact beq_self_eq_true _
          go_wp2
          go_round
          case rel =>
            by_cases hmr : m < r
            · rw [if_pos hmr]
              exact ⟨k + 1, r, by omega, by go_num, rfl, hr6, HST.out r (by omega) (fun _ _ => by omega)⟩
            · rw [if_neg hmr]
              exact ⟨k + 1, m, by omega, by go_num, rfl, hm6, HST.out m (by omega) (fun _ _ => by omega)⟩
          case measure => simp [intOf]; omega
        · have e3 : ((z : Int) == (head : Int)) = false := by simp only [beq_eq_false_iff_ne]; intro h; exact heq (Int.ofNat.inj h)
          have HN := Lib.hid (HST.out m (Nat.le_refl _) (fun _ h => absurd h heq))
          clear heq
          go_wp2
          go_round
          case rel => exact ⟨k + 1, m, by omega, by go_num, rfl, hm6, HN.out⟩
          case measure => simp [intOf]; omega
      · have h9i : ¬ (x : Int) > 9 := by omega
        have HN := Lib.hid (HST.out m (Nat.le_refl _) (fun h => absurd h h9))
        go_wp2
        go_round
        case rel => exact ⟨k + 1, m, by omega, by go_num, rfl, hm6, HN.out⟩
        case measure => simp [intOf]; omega
    · obtain rfl : k = L.length := by omega
      go_wp2
      go_ret
      exact ⟨⟨m, rfl, hm6, HA.out⟩, (ex_ext (by repeat (first | exact Below.refl _ _ | assumption | refine b_drewN ?_ _ | refine Below.drew ?_ | refine b_ext' ?_ _ | refine b_alloc' ?_ _)))⟩
end Go.Cm
