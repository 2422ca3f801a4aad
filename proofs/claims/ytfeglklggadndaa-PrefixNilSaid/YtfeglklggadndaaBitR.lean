/- The walks of the document's bit writer. Conditions: none. -/
import Derived.Test.YtfeglklggadndaaBitQ
namespace Go.Cm
open Go.RowKit Go.Proofs

/-- the document's writer of bits, from block B on -/
structure WrtR (w : World) (B g N L : Nat) : Prop where
  ex : ∃ vb, Own w g 29 (.slice (some ⟨g, 0, none⟩) 1 1) [vb] ∧ Own w B 5 vb (bitsN N L) ∧ vb.ownBlock ≠ some g
  ge : B ≤ g
  lt : N < 2 ^ L
/-- .. with its row by name -/
structure WrtRV (w : World) (B g N L : Nat) (vb : Value) : Prop where
  box : Own w g 29 (.slice (some ⟨g, 0, none⟩) 1 1) [vb]
  own : Own w B 5 vb (bitsN N L)
  ne : vb.ownBlock ≠ some g
  ge : B ≤ g
  lt : N < 2 ^ L
theorem WrtRV.p {w : World} {B g N L : Nat} {vb : Value} (h : WrtRV w B g N L vb) : WrtR w B g N L := ⟨⟨vb, h.box, h.own, h.ne⟩, h.ge, h.lt⟩
theorem WrtR.v {w : World} {B g N L : Nat} (h : WrtR w B g N L) : ∃ vb, WrtRV w B g N L vb := by
  obtain ⟨⟨vb, h1, h2, h3⟩, h4, h5⟩ := h
  exact ⟨vb, h1, h2, h3, h4, h5⟩
theorem putRV {w : World} {B g N L : Nat} {vb0 : Value} (h : WrtRV w B g N L vb0) (v n : Nat) (hv : v < 2 ^ n) (hn : n ≤ 32) (hL : L + n ≤ 2147483648) :
    Calls Try.prog 44 #[.pointer (some ⟨g, 0, none⟩), .int .i64 v, .int .i64 n] w fun e w' => e = .returned (.int .i64 0) ∧ ∃ vb0', WrtRV w' B g (N + v * 2 ^ L) (L + n) vb0' ∧ Below B w w' ∧ Fr g vb0 vb0' w w' := by
  obtain ⟨hbox, hown, hne, hge, hlt⟩ := h
  have hv32 : v < 4294967296 := Nat.lt_of_lt_of_le hv (Nat.pow_le_pow_right (n := 2) (by decide) hn)
  have hd1 : ¬ (n : Int) < 0 := by omega
  have hd2 : ¬ (n : Int) > 32 := by omega
  have hv0 : ¬ (v : Int) < 0 := by omega
  have hn0 : (0 : Int) ≤ (n : Int) := by omega
  have hp : ((2 ^ n : Nat) : Int) = 2 ^ n := by norm_cast
  have hp2 : 2 ^ n ≤ 4294967296 := Nat.pow_le_pow_right (n := 2) (by decide) hn
  go_enter Try.func44, Try.ntmps44
  go_wp2
  obtain ⟨N', hN'⟩ : ∃ N', N' = N + v * 2 ^ L := ⟨_, rfl⟩
  have HN := Lib.hid hN'
  have HB0 : Hid (bitsN N' (L + 0) = bitsN N L) := Lib.hid (by rw [hN', bits_add hlt 0]; simp [bitsN])
  have HTB : Hid (∀ k, N'.testBit (L + k) = v.testBit k) := Lib.hid (fun k => by
    rw [hN', Nat.add_comm N, Nat.mul_comm, Nat.testBit_two_pow_mul_add v hlt, if_neg (by omega), Nat.add_sub_cancel_left])
  have HLT := Lib.hid hlt
  have HV := Lib.hid hv
  have HL := Lib.hid hL
  have HBX := Lib.hid hbox
  have HOX := Lib.hid hown
  have hg0 := hbox.blk.2
  clear hN' hlt hv hL hbox hown hp hp2
  go_loopg [7] n (fun gk i wr => ∃ (k : Nat) (vb : Value), k ≤ n ∧ i = .int .i64 k ∧ Own wr g 29 (.slice (some ⟨g, 0, none⟩) 1 1) [vb] ∧ Own wr B 5 vb (bitsN N' (L + k)) ∧ vb.ownBlock ≠ some g ∧ Below B w wr ∧ Fr g vb0 vb w wr ∧ gk = n - k)
  case atStart => exact ⟨0, vb0, Nat.zero_le _, rfl, HBX.out, by rw [HB0.out]; exact HOX.out, hne, Below.refl _ _, Fr.refl _ _ _, rfl⟩
  case round =>
    obtain ⟨k, vb, hk, rfl, hbox, hown, hne, hbel, hfr, rfl⟩ := hrel
    have HFR := Lib.hid hfr
    clear hfr
    have HB := Lib.hid hbox
    have HO := Lib.hid hown
    have HE := Lib.hid hbel
    have c0 : wr.cell? ⟨g, 0, none⟩ = some vb := hbox.cell (by simp)
    have f0 := hbox.free 0
    have hg := hbox.blk.2
    have HS := Lib.hid (bitsN_succ N' (L + k))
    have HT : Hid (((v : Int) / 2 ^ k).tmod 2 % 256 = (((N'.testBit (L + k)).toNat : Nat) : Int)) := Lib.hid (by
      rw [HTB.out, Nat.testBit_eq_decide_div_mod_eq]
      have : ((v : Int) / 2 ^ k).tmod 2 = ((v / 2 ^ k % 2 : Nat) : Int) := by norm_cast
      rw [this]
      by_cases h : v / 2 ^ k % 2 = 1
      · simp [h]
      · have : v / 2 ^ k % 2 = 0 := by omega
        simp [this])
    generalize (N'.testBit (L + k)).toNat = b at *
    clear hbox hown hbel HB0 HBX HOX hg0
    by_cases hlt : k < n
    · have hBg : B ≤ wr.heap.size := by omega
      obtain ⟨y, hy⟩ : ∃ y : Int, y = ((v : Int) / 2 ^ k).tmod 2 % 256 := ⟨_, rfl⟩
      have HY := Lib.hid (hy.trans HT.out)
      have HW := Lib.hid hy.symm
      clear hy HT
      have hlW := Lib.hid (below_alloc wr (.cells #[.int .u8 y] 5))
      have HX : Hid (Sl (wr.alloc (.cells #[.int .u8 y] 5)) (.slice (some ⟨wr.heap.size, 0, none⟩) 1 1) [.int .u8 y]) := Lib.hid (by simpa using sl_lit wr #[.int .u8 y] 5 (by simp))
      have HT1 := Lib.hid (HO.out.up hlW.out)
      have HT2 : Hid (∀ u ∈ [Value.int .u8 y], u.oneCell' = true) := Lib.hid (by intro u hu; simp at hu; subst hu; rfl)
      have HT3 : Hid ((bitsN N' (L + k)).length + 1 ≤ 4294967296) := Lib.hid (by rw [bitsN_length]; have := HL.out; omega)
      have HT4 : Hid (B ≤ (wr.alloc (.cells #[.int .u8 y] 5)).heap.size) := Lib.hid (Nat.le_trans hBg hlW.out.size)
      go_wp2_with (at_builtin; rw [HW.out]; refine wpList_app rfl (.tmp 34) (.tmp 41) 27 rfl B 5 (.int .u8 0) 1 Try.underlying27 (by kernel_rfl) rfl (by decide) vb (bitsN N' (L + k)) rfl HT1.out (.slice (some ⟨wr.heap.size, 0, none⟩) 1 1) [.int .u8 y] rfl HX.out HT2.out HT3.out HT4.out ?_; intro v' w5 hown1 hg1 hk1; have HO1 := Lib.hid hown1; have HG1 := Lib.hid hg1; have HK1 := Lib.hid hk1; clear hown1 hg1 hk1; have HB5 := Lib.hid ((HB.out.up hlW.out).keep HG1.out (.inr (fun e => hne e.symm))); have hne5 : Hid (v'.ownBlock ≠ some g) := Lib.hid (fun e => by
        rcases HK1.out g e with h | h
        · exact hne h
        · have := hlW.out.size; simp at h; omega); have HO5 : Hid (Own w5 B 5 v' (bitsN N' (L + k + 1))) := Lib.hid (by rw [HS.out, ← HY.out]; exact HO1.out); have HF5 : Hid (Fr g vb0 v' w w5) := Lib.hid (((HFR.out.below hlW.out).step HG1.out (fun k e => .inr e)).val HK1.out (Nat.le_trans HFR.out.2.2 hlW.out.size)); have HL5 : Hid (Below B w w5) := Lib.hid (below_grown (HE.out.trans (hlW.out.mono hBg)) HT4.out HT1.out HG1.out); clear HO1 HG1 HK1 HT1 HX c0 f0 hg hBg; obtain ⟨o5, c5, g5, rfl, -⟩ := HO5.out.cases; generalize (bitsN N' (L + k + 1)).length = l5 at *; have HST := Lib.hid (HB5.out.store 0 (.slice o5 l5 c5)); have f0 := HB5.out.free 0; have c0 : w5.cell? ⟨g, 0, none⟩ = some vb := HB5.out.cell (by simp); have hg := HB5.out.blk.2)
      go_roundg (n - (k + 1))
      case measure => omega
      case rel =>
        exact ⟨k + 1, _, by omega, by go_num, HST.out.1, HO5.out.keep HST.out.2 (.inr hne5.out), hne5.out, HL5.out.grown HST.out.2 (by omega) (fun k hk => by cases hk; exact hge), HF5.out.step HST.out.2 (fun k e => by cases e; exact .inl rfl), rfl⟩
    · go_wp2
      go_ret
      obtain rfl : k = n := by omega
      rw [← HN.out]
      exact ⟨rfl, vb, ⟨HB.out, HO.out, hne, hge, by rw [HN.out]; exact num_add_lt HLT.out HV.out⟩, HE.out, HFR.out⟩
theorem putR {w : World} {B g N L : Nat} (h : WrtR w B g N L) (v n : Nat) (hv : v < 2 ^ n) (hn : n ≤ 32) (hL : L + n ≤ 2147483648) :
    Calls Try.prog 44 #[.pointer (some ⟨g, 0, none⟩), .int .i64 v, .int .i64 n] w fun e w' => e = .returned (.int .i64 0) ∧ WrtR w' B g (N + v * 2 ^ L) (L + n) ∧ Below B w w' := by
  obtain ⟨vb, hV⟩ := h.v
  exact (putRV hV v n hv hn hL).mono fun e w' ⟨h1, vb', h2, h3, _⟩ => ⟨h1, h2.p, h3⟩
theorem codeRV {w : World} {B g N L : Nat} {vb : Value} (h : WrtRV w B g N L vb) (v n : Nat) (hv : v < 2 ^ n) (hn : n ≤ 32) (hL : L + n ≤ 2147483648) :
    Calls Try.prog 26 #[.pointer (some ⟨g, 0, none⟩), .int .i64 v, .int .i64 n] w fun e w' => e = .returned (.int .i64 0) ∧ ∃ vb', WrtRV w' B g (N + turnN v n * 2 ^ L) (L + n) vb' ∧ Below B w w' ∧ Fr g vb vb' w w' := by
  have hv32 : v < 4294967296 := Nat.lt_of_lt_of_le hv (Nat.pow_le_pow_right (n := 2) (by decide) hn)
  have hd1 : ¬ (n : Int) < 0 := by omega
  have hd2 : ¬ (n : Int) > 32 := by omega
  have hv0 : ¬ (v : Int) < 0 := by omega
  have hn0 : (0 : Int) ≤ (n : Int) := by omega
  have hp : ((2 ^ n : Nat) : Int) = 2 ^ n := by norm_cast
  have hp2 : 2 ^ n ≤ 4294967296 := Nat.pow_le_pow_right (n := 2) (by decide) hn
  have HP := Lib.hid (putRV h (turnN v n) n (turnN_lt v n) hn hL)
  clear h
  go_enter Try.func26, Try.ntmps26
  go_wp2_with (first | (go_at_call 45; refine (turnR v n (by omega) hn _).mono ?_; rintro e w' ⟨rfl, hw'⟩; rw [hw']; clear hw') | (go_at_call 44; refine HP.out.mono ?_; rintro e w' ⟨rfl, vb', hq1, hq2, hq3⟩; have HQ1 := Lib.hid hq1; have HQ2 := Lib.hid hq2; have HQ3 := Lib.hid hq3; clear hq1 hq2 hq3))
  go_ret
  exact ⟨rfl, vb', HQ1.out, HQ2.out, HQ3.out⟩
theorem codeR {w : World} {B g N L : Nat} (h : WrtR w B g N L) (v n : Nat) (hv : v < 2 ^ n) (hn : n ≤ 32) (hL : L + n ≤ 2147483648) :
    Calls Try.prog 26 #[.pointer (some ⟨g, 0, none⟩), .int .i64 v, .int .i64 n] w fun e w' => e = .returned (.int .i64 0) ∧ WrtR w' B g (N + turnN v n * 2 ^ L) (L + n) ∧ Below B w w' := by
  obtain ⟨vb, hV⟩ := h.v
  exact (codeRV hV v n hv hn hL).mono fun e w' ⟨h1, vb', h2, h3, _⟩ => ⟨h1, h2.p, h3⟩
end Go.Cm
