/- The walk of the law's known calls. Conditions: none. -/
import Derived.Test.YtfeglklggadndaaPreE
import Derived.Test.YtfeglklggadndaaBitX
namespace Go.Cm
open Go.RowKit Go.Proofs

theorem numL_append (l m : List UInt8) : numL (l ++ m) = numL l + 256 ^ l.length * numL m := by
  induction l with
  | nil => simp [numL]
  | cons b l ih =>
    show b.toNat + 256 * numL (l ++ m) = (b.toNat + 256 * numL l) + 256 ^ (l.length + 1) * numL m
    rw [ih, Nat.pow_succ, Nat.mul_add, Nat.mul_comm (256 ^ l.length) 256, Nat.mul_assoc]; omega
theorem wholeN_length (N k : Nat) : (wholeN N k).length = k := by simp [wholeN]
theorem numL_whole (N k : Nat) : numL (wholeN N k) = N % 256 ^ k := by
  induction k with
  | zero => simp [wholeN, numL, Nat.mod_one]
  | succ k ih =>
    have e : wholeN N (k + 1) = wholeN N k ++ [UInt8.ofNat (byteAt N k)] := by simp [wholeN, List.range_succ]
    rw [e, numL_append, ih, wholeN_length, Nat.pow_succ, Nat.mod_mul]
    congr 1
    have : numL [UInt8.ofNat (byteAt N k)] = byteAt N k := by
      show (UInt8.ofNat (byteAt N k)).toNat + 256 * 0 = _
      rw [UInt8.toNat_ofNat', Nat.mod_eq_of_lt (byteAt_lt N k)]; omega
    rw [this]; rfl
theorem textN_whole (N L : Nat) : textN N L = wholeN N ((L + 7) / 8) := rfl
theorem textN_length (N L : Nat) : (textN N L).length = (L + 7) / 8 := by rw [textN_whole, wholeN_length]
theorem numL_text {N L : Nat} (h : N < 2 ^ L) : numL (textN N L) = N := by
  rw [textN_whole, numL_whole, pow256, Nat.mod_eq_of_lt]
  exact Nat.lt_of_lt_of_le h (Nat.pow_le_pow_right (by decide) (by omega))
theorem TabAt.up {w w' : World} {B g : Nat} {L : List Nat} (h : TabAt w B g L) (hb : Below w.heap.size w w') : TabAt w' B g L := by
  obtain ⟨E, fs, vf, h1, h2⟩ := h
  exact ⟨E, fs, vf, h1.up hb, h2⟩
theorem TabAt.blk {w : World} {B g : Nat} {L : List Nat} (h : TabAt w B g L) : g < w.heap.size := by
  obtain ⟨E, fs, vf, h1, h2⟩ := h
  exact h1.blk.2
theorem symbolsP {w : World} {B g : Nat} {L : List Nat} (h : TabAt w B g L) : Calls Try.prog 17 #[.pointer (some ⟨g, 0, none⟩)] w fun e w' => e = .returned (.int .i64 (L.length : Nat)) ∧ ∃ x, w' = ext w x := by
  obtain ⟨E, fs, vf, hM, -⟩ := h
  have hc1 := hM.c1
  have hg := hM.blk.2
  clear hM
  go_enter Try.func17, Try.ntmps17
  go_wp2
  go_ret
  exact ⟨rfl, (ex_ext (by repeat (first | exact Below.refl _ _ | assumption | refine b_drewN ?_ _ | refine Below.drew ?_ | refine b_ext' ?_ _ | refine b_alloc' ?_ _)))⟩
theorem below_row {n g : Nat} {w w1 w' : World} (hb : Below n w w1) (hn : n ≤ w1.heap.size) (hg : w1.grownBy w' (some g)) (h : n ≤ g) : Below n w w' := hb.grown hg hn (fun k hk => by cases hk; exact h)

def L4 : List Nat := [2, 1, 3, 3]
theorem L4_err : errI (nls L4) = 0 := by decide
theorem L4_15 : ∀ x ∈ L4, x ≤ 15 := by decide
theorem w4_1 : errW (nls L4) 1 = 0 ∧ numW (nls L4) 1 (0, 0) = (0, 1) := by decide
theorem w4_0 : errW (nls L4) 0 = 0 ∧ numW (nls L4) 0 (0, 1) = (2, 3) := by decide
theorem w4_3 : errW (nls L4) 3 = 0 ∧ numW (nls L4) 3 (2, 3) = (58, 6) := by decide
theorem r4_1 : ReadN L4 (58 / 2 ^ 0) (8 - 0) 1 0 1 := .inl ⟨by decide, ⟨by decide, by decide⟩, by decide, rfl, rfl⟩
theorem r4_0 : ReadN L4 (58 / 2 ^ 1) (8 - 1) 0 0 2 := .inl ⟨by decide, ⟨by decide, by decide⟩, by decide, rfl, rfl⟩
theorem r4_3 : ReadN L4 (58 / 2 ^ 3) (8 - 3) 3 0 3 := .inl ⟨by decide, ⟨by decide, by decide⟩, by decide, rfl, rfl⟩
theorem e111 : errI [1, 1, 1] = 7 := by decide
def S58 : ByteArray := ⟨(textN 58 6).toArray⟩
theorem S58_num : numS S58 = 58 := by
  show numL (textN 58 6) = 58
  exact numL_text (by decide)
theorem S58_size : S58.size = 1 := by
  show (textN 58 6).toArray.size = 1
  rw [List.size_toArray, textN_length]

theorem lit_ints (w : World) (l : List Int) (hl : l.length ≤ 4294967296) : IntsAt (w.alloc (.cells (ints l).toArray 3)) (.slice (some ⟨w.heap.size, 0, none⟩) l.length l.length) l := by
  have h := sl_lit w (ints l).toArray 3 (by simpa using hl)
  unfold IntsAt
  simpa using h
/-- a reading whose answer is known -/
theorem read_is {w : World} {B gt g p : Nat} {s : ByteArray} {L : List Nat} (hT : TabAt w B gt L) (h : BoxS w g s p) (h15 : ∀ x ∈ L, x ≤ 15) (hs : s.size ≤ 4294967296) (hp : p ≤ 8 * s.size) {a e d : Nat} (hr : ReadN L (numS s / 2 ^ p) (8 * s.size - p) a e d) :
    Calls Try.prog 16 #[.pointer (some ⟨gt, 0, none⟩), .pointer (some ⟨g, 0, none⟩)] w fun en w' => en = .returned (.tuple #[.int .i64 (a : Nat), .int .i64 (e : Nat)]) ∧ BoxS w' g s (p + d) ∧ w.grownBy w' (some g) :=
  (readP hT h h15 hs hp).mono fun en w' ⟨a', e', d', he, hr', hb, hg⟩ => by
    obtain ⟨rfl, rfl, rfl⟩ := read_one hr hr'
    exact ⟨he, hb, hg⟩
set_option maxRecDepth 100000 in
set_option maxHeartbeats 1000000 in
theorem knownP (w : World) : Calls Try.prog 7 #[] w fun e w' => e = .returned (.bool true) ∧ ∃ x, w' = ext w x := by
  have HI0 := Lib.hid (lit_ints w (nls L4) (by decide))
  have HB0 := Lib.hid (below_alloc w (.cells (ints (nls L4)).toArray 3))
  have hnew1 : ∀ W v, IntsAt W v (nls L4) → Calls Try.prog 15 #[v] W fun e w' => ∃ g, e = .returned (.tuple #[.pointer (some ⟨g, 0, none⟩), .int .i64 0]) ∧ TabAt w' W.heap.size g L4 ∧ Below W.heap.size W w' := fun W v hv => (newP v (nls L4) W hv).mono fun e w' ⟨hb, h⟩ => by
    rcases h with ⟨-, g, he, hT⟩ | ⟨hne, -⟩
    · rw [nls_toNat] at hT; exact ⟨g, he, hT, hb⟩
    · exact absurd L4_err hne
  have hnew2 : ∀ W v, IntsAt W v [1, 1, 1] → Calls Try.prog 15 #[v] W fun e w' => e = .returned (.tuple #[.pointer none, .int .i64 7]) ∧ Below W.heap.size W w' := fun W v hv => (newP v [1, 1, 1] W hv).mono fun e w' ⟨hb, h⟩ => by
    rcases h with ⟨h0, -⟩ | ⟨hne, he⟩
    · exact absurd (h0.symm.trans e111) (by decide)
    · rw [e111] at he; exact ⟨he, hb⟩
  have HN1 := Lib.hid hnew1
  have HN2 := Lib.hid hnew2
  clear hnew1 hnew2
  have hwr : ∀ (n : Int) (N L N' L' : Nat), errW (nls L4) n = 0 ∧ numW (nls L4) n (N, L) = (N', L') → ∀ (w0 W : World) (g : Nat) (v : Value), IntsAt w0 v (nls L4) → Below w0.heap.size w0 W → WrtP W w0.heap.size g N L → L ≤ 100 → Calls Try.prog 9 #[.pointer (some ⟨g, 0, none⟩), v, .int .i64 n] W fun e w' => e = .returned (.int .i64 0) ∧ WrtP w' w0.heap.size g N' L' ∧ Below w0.heap.size W w' := fun n N L N' L' h w0 W g v hv hb hW hL => (writeP v (nls L4) n hv hb hW (by omega)).mono fun e w' ⟨he, h1, h2⟩ => by
    rw [h.1] at he
    rw [h.2] at h1
    exact ⟨he, h1, h2⟩
  have HW1 := Lib.hid (hwr 1 0 0 0 1 w4_1)
  have HW2 := Lib.hid (hwr 0 0 1 2 3 w4_0)
  have HW3 := Lib.hid (hwr 3 2 3 58 6 w4_3)
  clear hwr
  go_enter Try.func7, Try.ntmps7
  go_wp2_with (first | (go_at_call 15; refine (HN1.out _ _ HI0.out).mono ?_; rintro e w1 ⟨gt, rfl, hT1, hb1⟩; have HT1 := Lib.hid hT1; have HB1 := Lib.hid (HB0.out.trans (hb1.mono HB0.out.size)); have HI1 := Lib.hid (HI0.out.up hb1); clear hT1 hb1) | (go_at_call 8; refine (openP w1).mono ?_; rintro e w2 ⟨gw, rfl, hO, hb2⟩; have HO2 := Lib.hid hO; have HB2 := Lib.hid hb2; clear hO hb2))
  refine (HW1.out w1 w2 gw _ HI1.out HB2.out HO2.out (by decide)).mono ?_
  rintro e w3 ⟨rfl, hO, hb⟩
  have HO3 := Lib.hid hO
  have HB3 := Lib.hid (HB2.out.trans (hb.mono (Nat.le_refl _)))
  clear hO hb HO2 HB2 HW1
  go_wp2_with (fail)
  refine (HW2.out w1 w3 gw _ HI1.out HB3.out HO3.out (by decide)).mono ?_
  rintro e w4 ⟨rfl, hO, hb⟩
  have HO4 := Lib.hid hO
  have HB4 := Lib.hid (HB3.out.trans hb)
  clear hO hb HO3 HB3 HW2
  go_wp2_with (fail)
  refine (HW3.out w1 w4 gw _ HI1.out HB4.out HO4.out (by decide)).mono ?_
  rintro e w5 ⟨rfl, hO, hb⟩
  have HO5 := Lib.hid hO
  have HB5 := Lib.hid (HB4.out.trans hb)
  have HTX : Hid (Calls Try.prog 12 #[.pointer (some ⟨gw, 0, none⟩)] w5 fun e w' => e = .returned (.string S58) ∧ ∃ x, w' = ext w5 x) := Lib.hid (textP hO (by omega))
  clear hO hb HO4 HB4 HW3
  go_wp2_with (first | (go_at_call 12; refine HTX.out.mono ?_; rintro e w6 ⟨rfl, x6, rfl⟩) | (go_at_call 14; refine (newS S58 0 (by rw [S58_size]; decide) (by omega) _).mono ?_; rintro e w7 ⟨gr, rfl, hbx, hge, hb7⟩; have HX7 := Lib.hid hbx; have HGE := Lib.hid hge; have HB7 := Lib.hid hb7; clear hbx hge hb7))
  have HT6 := Lib.hid (HT1.out.up (HB5.out.trans ((ext_below w5 x6).mono HB5.out.size)))
  have HO6 := Lib.hid (HO5.out.up (ext_below w5 x6))
  have HBW : Hid (Below w.heap.size w (ext w5 x6)) := Lib.hid (HB1.out.trans ((HB5.out.trans ((ext_below w5 x6).mono HB5.out.size)).mono HB1.out.size))
  clear HT1 HO5 HB5 HTX HB1 HI1 HI0 HB0 HN1
  generalize ext w5 x6 = w6 at *
  have hr1 : ReadN L4 (numS S58 / 2 ^ 0) (8 * S58.size - 0) 1 0 1 := by rw [S58_num, S58_size]; exact r4_1
  have hr2 : ReadN L4 (numS S58 / 2 ^ (0 + 1)) (8 * S58.size - (0 + 1)) 0 0 2 := by rw [S58_num, S58_size]; exact r4_0
  have hr3 : ReadN L4 (numS S58 / 2 ^ (0 + 1 + 2)) (8 * S58.size - (0 + 1 + 2)) 3 0 3 := by rw [S58_num, S58_size]; exact r4_3
  have HR1 := Lib.hid hr1
  have HR2 := Lib.hid hr2
  have HR3 := Lib.hid hr3
  clear hr1 hr2 hr3
  refine (read_is (HT6.out.up HB7.out) HX7.out L4_15 (by rw [S58_size]; decide) (by rw [S58_size]; decide) HR1.out).mono ?_
  rintro e w8 ⟨rfl, hbx, hg⟩
  have HX8 := Lib.hid hbx
  have HB8 := Lib.hid (below_row HB7.out HB7.out.size hg HGE.out)
  clear hbx hg HX7 HB7
  go_wp2_with (fail)
  refine (read_is (HT6.out.up HB8.out) HX8.out L4_15 (by rw [S58_size]; decide) (by rw [S58_size]; decide) HR2.out).mono ?_
  rintro e w9 ⟨rfl, hbx, hg⟩
  have HX9 := Lib.hid hbx
  have HB9 := Lib.hid (below_row HB8.out HB8.out.size hg HGE.out)
  clear hbx hg HX8 HB8
  go_wp2_with (fail)
  refine (read_is (HT6.out.up HB9.out) HX9.out L4_15 (by rw [S58_size]; decide) (by rw [S58_size]; decide) HR3.out).mono ?_
  rintro e w10 ⟨rfl, hbx, hg⟩
  have HX10 := Lib.hid hbx
  have HB10 := Lib.hid (below_row HB9.out HB9.out.size hg HGE.out)
  clear hbx hg HX9 HB9
  have HI10 := Lib.hid (lit_ints w10 [1, 1, 1] (by decide))
  have HB10A := Lib.hid (HB10.out.trans ((below_alloc w10 (.cells (ints [1, 1, 1]).toArray 3)).mono HB10.out.size))
  go_wp2_with (first | (go_at_call 15; refine (HN2.out _ _ HI10.out).mono ?_; rintro e w11 ⟨rfl, hb11⟩; have HB11 := Lib.hid (HB10A.out.trans (hb11.mono HB10A.out.size)); have HS11 := Lib.hid (symbolsP (HT6.out.up (HB10A.out.trans (hb11.mono HB10A.out.size)))); have HL11 := Lib.hid (HO6.out.up (HB10A.out.trans (hb11.mono HB10A.out.size))); clear hb11) | (go_at_call 17; refine HS11.out.mono ?_; rintro e w12 ⟨rfl, x12, rfl⟩) | (go_at_call 11; refine (lenP (HL11.out.up (ext_below w11 x12)) (by omega)).mono ?_; rintro e w13 ⟨rfl, x13, rfl⟩))
  go_ret
  have hb12 : Below w6.heap.size w6 (ext (ext w11 x12) x13) := (HB11.out.trans ((ext_below w11 x12).mono HB11.out.size)).trans ((ext_below _ x13).mono (Nat.le_trans HB11.out.size (size_ext _ _)))
  exact ⟨rfl, ex_ext (HBW.out.trans (hb12.mono HBW.out.size))⟩
end Go.Cm
