/- Texts of this claim, joined: walks of small functions and plain facts about them. Conditions: as each says. -/
import Derived.Test.YtmophmeiemfikaaMB
import Derived.Test.YtmophmeiemfikaaRows
import Derived.WalkKit
import Derived.WalkSpells
import Derived.WalkLawsBesides
import Derived.Deep.QuietTactic
import Derived.BigQuiet
import Derived.Lib.Hide
import Derived.Laws.BitsLemmas
import Derived.Deep.LoopGhost
import Derived.Laws.Small
/- The walks of the document's bit writer. Conditions: none. -/
namespace Go.Cm
open Go.RowKit Go.Proofs

/-- the document's writer of bits, from block B on -/
structure WrtR (w : World) (B g N L : Nat) : Prop where
  ex : ∃ vb, Own w g 93 (.slice (some ⟨g, 0, none⟩) 1 1) [vb] ∧ Own w B 5 vb (bitsN N L) ∧ vb.ownBlock ≠ some g
  ge : B ≤ g
  lt : N < 2 ^ L
/-- .. with its row by name -/
structure WrtRV (w : World) (B g N L : Nat) (vb : Value) : Prop where
  box : Own w g 93 (.slice (some ⟨g, 0, none⟩) 1 1) [vb]
  own : Own w B 5 vb (bitsN N L)
  ne : vb.ownBlock ≠ some g
  ge : B ≤ g
  lt : N < 2 ^ L
theorem WrtRV.p {w : World} {B g N L : Nat} {vb : Value} (h : WrtRV w B g N L vb) : WrtR w B g N L := ⟨⟨vb, h.box, h.own, h.ne⟩, h.ge, h.lt⟩
theorem WrtR.v {w : World} {B g N L : Nat} (h : WrtR w B g N L) : ∃ vb, WrtRV w B g N L vb := by
  obtain ⟨⟨vb, h1, h2, h3⟩, h4, h5⟩ := h
  exact ⟨vb, h1, h2, h3, h4, h5⟩
theorem putRV {w : World} {B g N L : Nat} {vb0 : Value} (h : WrtRV w B g N L vb0) (v n : Nat) (hv : v < 2 ^ n) (hn : n ≤ 32) (hL : L + n ≤ 2147483648) :
    Calls Try.prog 75 #[.pointer (some ⟨g, 0, none⟩), .int .i64 v, .int .i64 n] w fun e w' => e = .returned (.int .i64 0) ∧ ∃ vb0', WrtRV w' B g (N + v * 2 ^ L) (L + n) vb0' ∧ Below B w w' ∧ Fr g vb0 vb0' w w' := by
  obtain ⟨hbox, hown, hne, hge, hlt⟩ := h
  have hv32 : v < 4294967296 := Nat.lt_of_lt_of_le hv (Nat.pow_le_pow_right (n := 2) (by decide) hn)
  have hd1 : ¬ (n : Int) < 0 := by omega
  have hd2 : ¬ (n : Int) > 32 := by omega
  have hv0 : ¬ (v : Int) < 0 := by omega
  have hn0 : (0 : Int) ≤ (n : Int) := by omega
  have hp : ((2 ^ n : Nat) : Int) = 2 ^ n := by norm_cast
  have hp2 : 2 ^ n ≤ 4294967296 := Nat.pow_le_pow_right (n := 2) (by decide) hn
  go_enter Try.func75, Try.ntmps75
  go_wp2
  obtain ⟨N', hN'⟩ : ∃ N', N' = N + v * 2 ^ L := ⟨_, rfl⟩
  have HN := Lib.hid hN'
  have HB0 : Hid (bitsN N' (L + 0) = bitsN N L) := Lib.hid (by rw [hN', bits_add hlt 0]; simp [bitsN])
  have HTB : Hid (∀ k, N'.testBit (L + k) = v.testBit k) := Lib.hid (fun k => by
    rw [hN', Nat.add_comm N, Nat.mul_comm, Nat.testBit_two_pow_mul_add v hlt, if_neg (by omega), Nat.add_sub_cancel_left])
  have HLT := Lib.hid hlt
  have HV := Lib.hid hv
  have HL := Lib.hid hL
  have HBX := Lib.hid hbox
  have HOX := Lib.hid hown
  have hg0 := hbox.blk.2
  clear hN' hlt hv hL hbox hown hp hp2
  go_loopg [7] n (fun gk i wr => ∃ (k : Nat) (vb : Value), k ≤ n ∧ i = .int .i64 k ∧ Own wr g 93 (.slice (some ⟨g, 0, none⟩) 1 1) [vb] ∧ Own wr B 5 vb (bitsN N' (L + k)) ∧ vb.ownBlock ≠ some g ∧ Below B w wr ∧ Fr g vb0 vb w wr ∧ gk = n - k)
  case atStart => exact ⟨0, vb0, Nat.zero_le _, rfl, HBX.out, by rw [HB0.out]; exact HOX.out, hne, Below.refl _ _, Fr.refl _ _ _, rfl⟩
  case round =>
    obtain ⟨k, vb, hk, rfl, hbox, hown, hne, hbel, hfr, rfl⟩ := hrel
    have HFR := Lib.hid hfr
    clear hfr
    have HB := Lib.hid hbox
    have HO := Lib.hid hown
    have HE := Lib.hid hbel
    have c0 : wr.cell? ⟨g, 0, none⟩ = some vb := hbox.cell (by simp)
    have f0 := hbox.free 0
    have hg := hbox.blk.2
    have HS := Lib.hid (bitsN_succ N' (L + k))
    have HT : Hid (((v : Int) / 2 ^ k).tmod 2 % 256 = (((N'.testBit (L + k)).toNat : Nat) : Int)) := Lib.hid (by
      rw [HTB.out, Nat.testBit_eq_decide_div_mod_eq]
      have : ((v : Int) / 2 ^ k).tmod 2 = ((v / 2 ^ k % 2 : Nat) : Int) := by norm_cast
      rw [this]
      by_cases h : v / 2 ^ k % 2 = 1
      · simp [h]
      · have : v / 2 ^ k % 2 = 0 := by omega
        simp [this])
    generalize (N'.testBit (L + k)).toNat = b at *
    clear hbox hown hbel HB0 HBX HOX hg0
    by_cases hlt : k < n
    · have hBg : B ≤ wr.heap.size := by omega
      obtain ⟨y, hy⟩ : ∃ y : Int, y = ((v : Int) / 2 ^ k).tmod 2 % 256 := ⟨_, rfl⟩
      have HY := Lib.hid (hy.trans HT.out)
      have HW := Lib.hid hy.symm
      clear hy HT
      have hlW := Lib.hid (below_alloc wr (.cells #[.int .u8 y] 5))
      have HX : Hid (Sl (wr.alloc (.cells #[.int .u8 y] 5)) (.slice (some ⟨wr.heap.size, 0, none⟩) 1 1) [.int .u8 y]) := Lib.hid (by simpa using sl_lit wr #[.int .u8 y] 5 (by simp))
      have HT1 := Lib.hid (HO.out.up hlW.out)
      have HT2 : Hid (∀ u ∈ [Value.int .u8 y], u.oneCell' = true) := Lib.hid (by intro u hu; simp at hu; subst hu; rfl)
      have HT3 : Hid ((bitsN N' (L + k)).length + 1 ≤ 4294967296) := Lib.hid (by rw [bitsN_length]; have := HL.out; omega)
      have HT4 : Hid (B ≤ (wr.alloc (.cells #[.int .u8 y] 5)).heap.size) := Lib.hid (Nat.le_trans hBg hlW.out.size)
      go_wp2_with (at_builtin; rw [HW.out]; refine wpList_app rfl (.tmp 34) (.tmp 41) 43 rfl B 5 (.int .u8 0) 1 Try.underlying43 (by kernel_rfl) rfl (by decide) vb (bitsN N' (L + k)) rfl HT1.out (.slice (some ⟨wr.heap.size, 0, none⟩) 1 1) [.int .u8 y] rfl HX.out HT2.out HT3.out HT4.out ?_; intro v' w5 hown1 hg1 hk1; have HO1 := Lib.hid hown1; have HG1 := Lib.hid hg1; have HK1 := Lib.hid hk1; clear hown1 hg1 hk1; have HB5 := Lib.hid ((HB.out.up hlW.out).keep HG1.out (.inr (fun e => hne e.symm))); have hne5 : Hid (v'.ownBlock ≠ some g) := Lib.hid (fun e => by
        rcases HK1.out g e with h | h
        · exact hne h
        · have := hlW.out.size; simp at h; omega); have HO5 : Hid (Own w5 B 5 v' (bitsN N' (L + k + 1))) := Lib.hid (by rw [HS.out, ← HY.out]; exact HO1.out); have HF5 : Hid (Fr g vb0 v' w w5) := Lib.hid (((HFR.out.below hlW.out).step HG1.out (fun k e => .inr e)).val HK1.out (Nat.le_trans HFR.out.2.2 hlW.out.size)); have HL5 : Hid (Below B w w5) := Lib.hid (below_grown (HE.out.trans (hlW.out.mono hBg)) HT4.out HT1.out HG1.out); clear HO1 HG1 HK1 HT1 HX c0 f0 hg hBg; obtain ⟨o5, c5, g5, rfl, -⟩ := HO5.out.cases; generalize (bitsN N' (L + k + 1)).length = l5 at *; have HST := Lib.hid (HB5.out.store 0 (.slice o5 l5 c5)); have f0 := HB5.out.free 0; have c0 : w5.cell? ⟨g, 0, none⟩ = some vb := HB5.out.cell (by simp); have hg := HB5.out.blk.2)
      go_roundg (n - (k + 1))
      case measure => omega
      case rel =>
        exact ⟨k + 1, _, by omega, by go_num, HST.out.1, HO5.out.keep HST.out.2 (.inr hne5.out), hne5.out, HL5.out.grown HST.out.2 (by omega) (fun k hk => by cases hk; exact hge), HF5.out.step HST.out.2 (fun k e => by cases e; exact .inl rfl), rfl⟩
    · go_wp2
      go_ret
      obtain rfl : k = n := by omega
      rw [← HN.out]
      exact ⟨rfl, vb, ⟨HB.out, HO.out, hne, hge, by rw [HN.out]; exact num_add_lt HLT.out HV.out⟩, HE.out, HFR.out⟩
theorem codeRV {w : World} {B g N L : Nat} {vb : Value} (h : WrtRV w B g N L vb) (v n : Nat) (hv : v < 2 ^ n) (hn : n ≤ 32) (hL : L + n ≤ 2147483648) :
    Calls Try.prog 78 #[.pointer (some ⟨g, 0, none⟩), .int .i64 v, .int .i64 n] w fun e w' => e = .returned (.int .i64 0) ∧ ∃ vb', WrtRV w' B g (N + turnN v n * 2 ^ L) (L + n) vb' ∧ Below B w w' ∧ Fr g vb vb' w w' := by
  have hv32 : v < 4294967296 := Nat.lt_of_lt_of_le hv (Nat.pow_le_pow_right (n := 2) (by decide) hn)
  have hd1 : ¬ (n : Int) < 0 := by omega
  have hd2 : ¬ (n : Int) > 32 := by omega
  have hv0 : ¬ (v : Int) < 0 := by omega
  have hn0 : (0 : Int) ≤ (n : Int) := by omega
  have hp : ((2 ^ n : Nat) : Int) = 2 ^ n := by norm_cast
  have hp2 : 2 ^ n ≤ 4294967296 := Nat.pow_le_pow_right (n := 2) (by decide) hn
  have HP := Lib.hid (putRV h (turnN v n) n (turnN_lt v n) hn hL)
  clear h
  go_enter Try.func78, Try.ntmps78
  go_wp2_with (first | (go_at_call 100; refine (turnR v n (by omega) hn _).mono ?_; rintro e w' ⟨rfl, hw'⟩; rw [hw']; clear hw') | (go_at_call 75; refine HP.out.mono ?_; rintro e w' ⟨rfl, vb', hq1, hq2, hq3⟩; have HQ1 := Lib.hid hq1; have HQ2 := Lib.hid hq2; have HQ3 := Lib.hid hq3; clear hq1 hq2 hq3))
  go_ret
  exact ⟨rfl, vb', HQ1.out, HQ2.out, HQ3.out⟩
end Go.Cm

/- The walk of the bit writer's text. Conditions: none. -/
namespace Go.Cm
open Go.RowKit Go.Proofs

def wholeN (N k : Nat) : List UInt8 := (List.range k).map fun i => UInt8.ofNat (byteAt N i)
theorem bytesV_wholeN (N k : Nat) : bytesV (wholeN N k) = bytesN N k := by
  unfold bytesV wholeN bytesN
  rw [List.map_map]
  refine List.map_congr_left fun i _ => ?_
  simp only [Function.comp, UInt8.toNat_ofNat']
  rw [Nat.mod_eq_of_lt (byteAt_lt N i)]
theorem textP {w : World} {B g N L : Nat} (h : WrtP w B g N L) (hL : L ≤ 34359738368) : Calls Try.prog 46 #[.pointer (some ⟨g, 0, none⟩)] w fun e w' => e = .returned (.string ⟨(textN N L).toArray⟩) ∧ ∃ x, w' = ext w x := by
  obtain ⟨⟨vb, hbox, hown, hne⟩, hge, hlt⟩ := h
  have HB := Lib.hid hbox
  have c1 := hbox.c1
  have c2 := hbox.c2
  have c3 := hbox.c3
  have hg := hbox.lt
  have hsl := hown.sl
  rw [← bytesV_wholeN] at hsl
  have hcv := run_bytes_string (P := Try.prog) w 43 9 5 Try.underlying43 Try.underlying5 Try.underlying9 vb _ hsl
  clear hbox hown hsl
  by_cases h0 : L % 8 = 0
  · go_enter Try.func46, Try.ntmps46
    go_wp2_with (go_at_call 69; refine (thereP HB.out).mono ?_; rintro e w' ⟨rfl, hw'⟩; rw [hw']; clear hw')
    go_ret
    have e : textN N L = wholeN N (L / 8) := by unfold textN wholeN; rw [show (L + 7) / 8 = L / 8 by omega]
    rw [e]
    exact ⟨rfl, refl_ext _⟩
  · have hp : (0 : Int) < (L : Int) % 8 := by omega
    have hsl2 := sl_lit w #[.int .u8 ((byteAt N (L / 8) : Nat) : Int)] 5 (by simp)
    have hb1 : (#[Value.int .u8 ((byteAt N (L / 8) : Nat) : Int)]).toList = bytesV [UInt8.ofNat (byteAt N (L / 8))] := by
      simp [bytesV, Nat.mod_eq_of_lt (byteAt_lt N (L / 8))]
    rw [hb1] at hsl2
    have hcv2 := run_bytes_string (P := Try.prog) _ 43 9 5 Try.underlying43 Try.underlying5 Try.underlying9 _ _ hsl2
    have hby : ((N / 256 ^ (L / 8) : Nat) : Int) % 256 = (byteAt N (L / 8) : Nat) := by unfold byteAt; exact (Int.natCast_emod _ _).symm
    have e : textN N L = wholeN N (L / 8) ++ [UInt8.ofNat (byteAt N (L / 8))] := by unfold textN wholeN; rw [show (L + 7) / 8 = L / 8 + 1 by omega, List.range_succ, List.map_append]; rfl
    generalize N / 256 ^ (L / 8) = r at *
    generalize byteAt N (L / 8) = y at *
    change (convert 43 9 (.slice (some ⟨w.heap.size, 0, none⟩) 1 1)).run Try.prog _ = _ at hcv2
    rw [← hby] at hcv2
    clear hsl2 hb1 hby
    have hlen : ¬ 9223372036854775807 < (wholeN N (L / 8)).length + 1 := by simp [wholeN]; omega
    go_enter Try.func46, Try.ntmps46
    go_wp2_with (go_at_call 69; refine (thereP HB.out).mono ?_; rintro e w' ⟨rfl, hw'⟩; rw [hw']; clear hw')
    go_ret
    have e2 : (⟨(wholeN N (L / 8)).toArray⟩ : ByteArray) ++ ⟨#[UInt8.ofNat y]⟩ = ⟨(textN N L).toArray⟩ := by
      rw [e]; apply ByteArray.ext; simp
    refine ⟨?_, (ex_ext (by repeat (first | exact Below.refl _ _ | assumption | refine b_drewN ?_ _ | refine Below.drew ?_ | refine b_ext' ?_ _ | refine b_alloc' ?_ _)))⟩
    rw [← e2]; rfl
end Go.Cm

/- The walks of the writing of symbols, of the program and of the document. Conditions: the writer is there. -/
namespace Go.Cm
open Go.RowKit Go.Proofs

/-- what is wrong of a symbol that is to be written -/
def errW (l : List Int) (n : Int) : Nat := if errI l ≠ 0 then errI l else if 0 ≤ n ∧ n < l.length ∧ l.getD n.toNat 0 ≠ 0 then 0 else 1
/-- the bits behind the writing of a symbol -/
def numW (l : List Int) (n : Int) (NL : Nat × Nat) : Nat × Nat :=
  if errW l n = 0 then (NL.1 + turnN (codeN (l.map Int.toNat) n.toNat) (l.getD n.toNat 0).toNat * 2 ^ NL.2, NL.2 + (l.getD n.toNat 0).toNat) else NL
theorem errI_zero {l : List Int} (h : errI l = 0) : ∃ L, l = nls L ∧ L.length ≤ 320 ∧ (∀ x ∈ L, x ≤ 15) ∧ kraftN L ≤ 32768 := by
  have h0 : wrongI l = 0 := by
    apply Classical.byContradiction; intro hn
    have := errI_of_wrong hn; omega
  obtain ⟨h1, h2⟩ := wrongI_zero h0
  obtain ⟨L, rfl, h3⟩ := nls_of h2
  rw [nls_length] at h1
  refine ⟨L, rfl, h1, h3, ?_⟩
  rw [errI_nls h1 h3] at h
  split at h
  · cases h
  · omega
theorem numW_bad {l : List Int} {n : Int} {NL : Nat × Nat} (h : errW l n ≠ 0) : numW l n NL = NL := by unfold numW; rw [if_neg h]
theorem errW_codes {l : List Int} {n : Int} (h : errI l ≠ 0) : errW l n = errI l := by unfold errW; rw [if_pos h]
theorem errW_arg {l : List Int} {n : Int} (h : errI l = 0) (h2 : ¬ (0 ≤ n ∧ n < l.length ∧ l.getD n.toNat 0 ≠ 0)) : errW l n = 1 := by unfold errW; rw [if_neg (by omega), if_neg h2]
theorem errW_ok {l : List Int} {n : Int} (h : errI l = 0) (h2 : 0 ≤ n ∧ n < l.length ∧ l.getD n.toNat 0 ≠ 0) : errW l n = 0 := by unfold errW; rw [if_neg (by omega), if_pos h2]
theorem codesN_length (L : List Nat) : (codesN L).length = L.length := by simp [codesN]
theorem codesN_getD (L : List Nat) (i : Nat) (h : i < L.length) : (codesN L).getD i 0 = codeN L i := by simp [codesN, List.getD, h]
/-- what a writing of a symbol answers -/
def RetV (Wr : World → Nat → Nat → Nat → Nat → Value → Prop) (l : List Int) (n : Int) (B g N L : Nat) (vb : Value) (w : World) (e : Ending) (w' : World) : Prop :=
  e = .returned (.int .i64 (errW l n : Nat)) ∧ ∃ vb', Wr w' B g (numW l n (N, L)).1 (numW l n (N, L)).2 vb' ∧ Below B w w' ∧ Fr g vb vb' w w'
theorem WrtP.up {w w' : World} {B g N L : Nat} (h : WrtP w B g N L) (hb : Below w.heap.size w w') : WrtP w' B g N L := by
  obtain ⟨⟨vb, hbx, how, hne⟩, hge, hlt⟩ := h
  exact ⟨⟨vb, hbx.up hb, how.up hb, hne⟩, hge, hlt⟩
theorem WrtR.up {w w' : World} {B g N L : Nat} (h : WrtR w B g N L) (hb : Below w.heap.size w w') : WrtR w' B g N L := by
  obtain ⟨⟨vb, hbx, how, hne⟩, hge, hlt⟩ := h
  exact ⟨⟨vb, hbx.up hb, how.up hb, hne⟩, hge, hlt⟩
theorem WrtV.up {w w' : World} {B g N L : Nat} {vb : Value} (h : WrtV w B g N L vb) (hb : Below w.heap.size w w') : WrtV w' B g N L vb := ⟨h.box.up hb, h.own.up hb, h.ne, h.ge, h.lt⟩
theorem WrtRV.up {w w' : World} {B g N L : Nat} {vb : Value} (h : WrtRV w B g N L vb) (hb : Below w.heap.size w w') : WrtRV w' B g N L vb := ⟨h.box.up hb, h.own.up hb, h.ne, h.ge, h.lt⟩
end Go.Cm

/- The walks of the bit reader. Conditions: none. -/
namespace Go.Cm
open Go.RowKit Go.Proofs

/-- the reader in block g: the text s, the next bit's number -/
structure BoxS (w : World) (g : Nat) (s : ByteArray) (p : Nat) : Prop where
  own : Own w g 129 (.slice (some ⟨g, 0, none⟩) 3 3) [.bool true, .string s, .int .i64 p]
section
variable {w : World} {g : Nat} {s : ByteArray} {p : Nat}
theorem BoxS.up {w' : World} (h : BoxS w g s p) (hb : Below w.heap.size w w') : BoxS w' g s p := ⟨h.own.up hb⟩
theorem BoxS.lt (h : BoxS w g s p) : g < w.heap.size := (h.own.lt g rfl).2
theorem BoxS.c0 (h : BoxS w g s p) : w.cell? ⟨g, 0, none⟩ = some (.bool true) := h.own.cell (by simp)
theorem BoxS.c1 (h : BoxS w g s p) : w.cell? ⟨g, 1, none⟩ = some (.string s) := h.own.cell (by simp)
theorem BoxS.c2 (h : BoxS w g s p) : w.cell? ⟨g, 2, none⟩ = some (.int .i64 p) := h.own.cell (by simp)
theorem BoxS.free (h : BoxS w g s p) (c : Nat) : w.frozen? ⟨g, c, none⟩ = false := h.own.free c
theorem BoxS.set2 (h : BoxS w g s p) (r : Nat) : BoxS (w.setCell ⟨g, 2, none⟩ (.int .i64 r)) g s r ∧ w.grownBy (w.setCell ⟨g, 2, none⟩ (.int .i64 r)) (some g) := ⟨⟨(h.own.store 2 _).1⟩, (h.own.store 2 _).2⟩
end
end Go.Cm

/- A text's bits as a number; the walks of the reading of bits. Conditions: the reader is there. -/
namespace Go.Cm
open Go.RowKit Go.Proofs

def numL : List UInt8 → Nat
  | [] => 0
  | b :: r => b.toNat + 256 * numL r
/-- the bits of a text, as a number -/
def numS (s : ByteArray) : Nat := numL s.data.toList
/-- the next n bits, from bit p on -/
def valN (N p n : Nat) : Nat := N / 2 ^ p % 2 ^ n
end Go.Cm

/- The table of codes in memory; the walks of its filling. Conditions: none. -/
namespace Go.Cm
open Go.RowKit Go.Proofs

def cellE (e : Ent) (c : Nat) : Nat := if c = 0 then e.s else if c = 1 then e.b else e.t
def entV (e : Ent) : Array Value := #[.int .i64 (e.s : Nat), .int .i64 (e.b : Nat), .int .i64 (e.t : Nat)]
/-- entries, a value a cell -/
def flatE (E : Nat → Ent) (n : Nat) : List Value := (List.range (3 * n)).map fun k => .int .i64 (cellE (E (k / 3)) (k % 3) : Nat)
theorem flatE_length (E : Nat → Ent) (n : Nat) : (flatE E n).length = 3 * n := by simp [flatE]
theorem flatE_at (E : Nat → Ent) (n x c : Nat) (hx : x < n) (hc : c < 3) : (flatE E n)[3 * x + c]? = some (.int .i64 (cellE (E x) c : Nat)) := by
  unfold flatE
  rw [List.getElem?_map, List.getElem?_range (by omega)]
  simp only [Option.map_some]
  rw [show (3 * x + c) / 3 = x by omega, show (3 * x + c) % 3 = c by omega]
theorem set3 (pre post : List Value) (E : Nat → Ent) (n x : Nat) (e : Ent) (hx : x < n) :
    (pre ++ flatE E n ++ post).take (pre.length + 3 * x) ++ (entV e).toList ++ (pre ++ flatE E n ++ post).drop (pre.length + 3 * x + 3) = pre ++ flatE (updN E x e) n ++ post := by
  have hl : (flatE E n).length = 3 * n := flatE_length E n
  have e1 : (pre ++ flatE E n ++ post).take (pre.length + 3 * x) = pre ++ (flatE E n).take (3 * x) := by
    rw [List.append_assoc, List.take_length_add_append, List.take_append_of_le_length (by omega)]
  have e2 : (pre ++ flatE E n ++ post).drop (pre.length + 3 * x + 3) = (flatE E n).drop (3 * x + 3) ++ post := by
    rw [List.append_assoc, Nat.add_assoc, List.drop_length_add_append, List.drop_append_of_le_length (by omega)]
  rw [e1, e2]
  have e3 : flatE (updN E x e) n = (flatE E n).take (3 * x) ++ (entV e).toList ++ (flatE E n).drop (3 * x + 3) := by
    refine List.ext_getElem? fun k => ?_
    by_cases hk : k < 3 * n
    · have hg : ∀ F : Nat → Ent, (flatE F n)[k]? = some (.int .i64 (cellE (F (k / 3)) (k % 3) : Nat)) := fun F => by
        have := flatE_at F n (k / 3) (k % 3) (by omega) (by omega)
        rwa [show 3 * (k / 3) + k % 3 = k by omega] at this
      rw [hg]
      by_cases h1 : k < 3 * x
      · rw [List.append_assoc, List.getElem?_append_left (by simp; omega), List.getElem?_take, if_pos h1, hg]
        unfold updN
        rw [if_neg (by omega)]
      · by_cases h2 : k < 3 * x + 3
        · rw [List.append_assoc, List.getElem?_append_right (by simp; omega), List.length_take, hl, Nat.min_eq_left (by omega), List.getElem?_append_left (by simp [entV]; omega)]
          unfold updN
          rw [if_pos (by omega)]
          obtain ⟨c, hc, rfl⟩ : ∃ c, c < 3 ∧ k = 3 * x + c := ⟨k - 3 * x, by omega, by omega⟩
          rw [Nat.add_sub_cancel_left, show (3 * x + c) % 3 = c by omega]
          rcases (show c = 0 ∨ c = 1 ∨ c = 2 by omega) with rfl | rfl | rfl <;> rfl
        · rw [List.getElem?_append_right (by simp [entV]; omega)]
          have hlen : ((flatE E n).take (3 * x) ++ (entV e).toList).length = 3 * x + 3 := by simp [entV, hl]; omega
          rw [hlen, List.getElem?_drop, show 3 * x + 3 + (k - (3 * x + 3)) = k by omega, hg]
          unfold updN
          rw [if_neg (by omega)]
    · rw [List.getElem?_eq_none (by rw [flatE_length]; omega), List.getElem?_eq_none]
      simp [entV, hl]; omega
  rw [e3]
  simp [List.append_assoc]
end Go.Cm

/- The table of codes in memory; the walk of its further tables. Conditions: none. -/
namespace Go.Cm
open Go.RowKit Go.Proofs

def subV (f : Sub) : Value := .slice (some ⟨f.g, 0, none⟩) (2 ^ f.m) (2 ^ f.m)
/-- a table in block g, all of it from block B on -/
structure TabM (w : World) (B g sy : Nat) (E : Nat → Ent) (fs : List Sub) (vf : Value) : Prop where
  box : Own w B 160 (.slice (some ⟨g, 0, none⟩) 1539 1539) ([.bool true, .int .i64 (sy : Nat)] ++ flatE E 512 ++ [vf])
  outer : Own w B 162 vf (fs.map subV)
  ne : vf.ownBlock ≠ some g
  rows : ∀ (k : Nat) (f : Sub), fs[k]? = some f → Own w B 156 (.slice (some ⟨f.g, 0, none⟩) (3 * 2 ^ f.m) (3 * 2 ^ f.m)) (flatE f.F (2 ^ f.m)) ∧ f.g ≠ g ∧ vf.ownBlock ≠ some f.g
  apart : ∀ (k k' : Nat) (f f' : Sub), fs[k]? = some f → fs[k']? = some f' → f.g = f'.g → k = k'
section
variable {w : World} {B g sy : Nat} {E : Nat → Ent} {fs : List Sub} {vf : Value}
theorem TabM.up {w' : World} (h : TabM w B g sy E fs vf) (hb : Below w.heap.size w w') : TabM w' B g sy E fs vf :=
  ⟨h.box.up hb, h.outer.up hb, h.ne, fun k f hf => ⟨(h.rows k f hf).1.up hb, (h.rows k f hf).2⟩, h.apart⟩
theorem TabM.blk (h : TabM w B g sy E fs vf) : B ≤ g ∧ g < w.heap.size := h.box.blk
theorem box_len (E : Nat → Ent) (sy : Nat) (vf : Value) : ([Value.bool true, .int .i64 (sy : Nat)] ++ flatE E 512 ++ [vf]).length = 1539 := by simp [flatE_length]
theorem TabM.c0 (h : TabM w B g sy E fs vf) : w.cell? ⟨g, 0, none⟩ = some (.bool true) := by rw [h.box.cell (by rw [box_len]; omega)]; rfl
theorem TabM.c1 (h : TabM w B g sy E fs vf) : w.cell? ⟨g, 1, none⟩ = some (.int .i64 (sy : Nat)) := by rw [h.box.cell (by rw [box_len]; omega)]; rfl
theorem TabM.cv (h : TabM w B g sy E fs vf) : w.cell? ⟨g, 1538, none⟩ = some vf := by
  rw [h.box.cell (by rw [box_len]; omega), List.getD_eq_getElem?_getD, List.getElem?_append_right (by simp [flatE_length])]
  simp [flatE_length]
theorem TabM.ce (h : TabM w B g sy E fs vf) (x c : Nat) (hx : x < 512) (hc : c < 3) : w.cell? ⟨g, 2 + 3 * x + c, none⟩ = some (.int .i64 (cellE (E x) c : Nat)) := by
  rw [h.box.cell (by rw [box_len]; omega), List.getD_eq_getElem?_getD, List.append_assoc, List.getElem?_append_right (by simp; omega), List.getElem?_append_left (by simp [flatE_length]; omega)]
  rw [show 2 + 3 * x + c - [Value.bool true, Value.int IntKind.i64 (sy : Nat)].length = 3 * x + c by simp; omega, flatE_at E 512 x c hx hc]
  rfl
theorem TabM.ct (h : TabM w B g sy E fs vf) (x : Nat) (hx : x < 512) : w.cell? ⟨g, 2 + 3 * x + 2, none⟩ = some (.int .i64 ((E x).t : Nat)) := h.ce x 2 hx (by omega)
theorem TabM.free (h : TabM w B g sy E fs vf) (c : Nat) : w.frozen? ⟨g, c, none⟩ = false := h.box.free c
/-- the first table written -/
theorem TabM.wrote {w' : World} {E' : Nat → Ent} (h : TabM w B g sy E fs vf) (hg : w.grownBy w' (some g)) (hb : Own w' B 160 (.slice (some ⟨g, 0, none⟩) 1539 1539) ([.bool true, .int .i64 (sy : Nat)] ++ flatE E' 512 ++ [vf])) : TabM w' B g sy E' fs vf :=
  ⟨hb, h.outer.keep hg (.inr h.ne), h.ne, fun k f hf => ⟨(h.rows k f hf).1.keep hg (.inr (by intro e; exact (h.rows k f hf).2.1 (Option.some.inj e))), (h.rows k f hf).2⟩, h.apart⟩
end
theorem TabM.push {w w5 : World} {B g sy : Nat} {E : Nat → Ent} {fs : List Sub} {vf v' : Value} {gn m : Nat} {F : Nat → Ent} (h : TabM w B g sy E fs vf) (hr : Own w B 156 (.slice (some ⟨gn, 0, none⟩) (3 * 2 ^ m) (3 * 2 ^ m)) (flatE F (2 ^ m))) (h1 : gn ≠ g) (h2 : ∀ (k : Nat) (f : Sub), fs[k]? = some f → f.g ≠ gn) (h3 : vf.ownBlock ≠ some gn)
    (ho : Own w5 B 162 v' (fs.map subV ++ [subV ⟨gn, m, F⟩])) (hg : w.grownBy w5 vf.ownBlock) (hk : ∀ k, v'.ownBlock = some k → vf.ownBlock = some k ∨ w.heap.size ≤ k) : TabM (w5.setCell ⟨g, 1538, none⟩ v') B g sy E (fs ++ [⟨gn, m, F⟩]) v' ∧ w5.grownBy (w5.setCell ⟨g, 1538, none⟩ v') (some g) := by
  have hb := (h.box.keep hg (.inr (fun e => h.ne e.symm))).store 1538 v'
  have hgw := h.blk.2
  have hne : v'.ownBlock ≠ some g := fun e => by
    rcases hk g e with q | q
    · exact h.ne q
    · omega
  have hnk : ∀ q, q < w.heap.size → vf.ownBlock ≠ some q → v'.ownBlock ≠ some q := fun q hq hn e => by
    rcases hk q e with z | z
    · exact hn z
    · omega
  have hset : ([Value.bool true, .int .i64 (sy : Nat)] ++ flatE E 512 ++ [vf]).set 1538 v' = [Value.bool true, .int .i64 (sy : Nat)] ++ flatE E 512 ++ [v'] := by
    rw [List.set_append_right _ _ (by simp [flatE_length])]
    simp [flatE_length]
  rw [hset] at hb
  have hrow : ∀ (k : Nat) (f : Sub), (fs ++ [⟨gn, m, F⟩])[k]? = some f → (k < fs.length ∧ fs[k]? = some f) ∨ (k = fs.length ∧ f = ⟨gn, m, F⟩) := fun k f hf => by
    by_cases hkl : k < fs.length
    · rw [List.getElem?_append_left hkl] at hf; exact .inl ⟨hkl, hf⟩
    · rw [List.getElem?_append_right (by omega)] at hf
      by_cases hk0 : k = fs.length
      · subst hk0; rw [Nat.sub_self] at hf; exact .inr ⟨rfl, (Option.some.inj hf).symm⟩
      · rw [List.getElem?_eq_none (by simp; omega)] at hf; cases hf
  refine ⟨⟨hb.1, ?_, hne, fun k f hf => ?_, fun k k' f f' hf hf' he => ?_⟩, hb.2⟩
  · rw [List.map_append]
    exact ho.keep hb.2 (.inr hne)
  · rcases hrow k f hf with ⟨-, hf⟩ | ⟨-, rfl⟩
    · have hr' := h.rows k f hf
      refine ⟨(hr'.1.keep hg (.inr (fun e => hr'.2.2 e.symm))).keep hb.2 (.inr (fun e => hr'.2.1 (Option.some.inj e))), hr'.2.1, hnk _ hr'.1.blk.2 hr'.2.2⟩
    · exact ⟨(hr.keep hg (.inr (fun e => h3 e.symm))).keep hb.2 (.inr (fun e => h1 (Option.some.inj e))), h1, hnk _ hr.blk.2 h3⟩
  · rcases hrow k f hf with ⟨-, hf⟩ | ⟨hk1, rfl⟩ <;> rcases hrow k' f' hf' with ⟨-, hf'⟩ | ⟨hk2, rfl⟩
    · exact h.apart k k' f f' hf hf' he
    · exact absurd he (h2 k f hf)
    · exact absurd he.symm (h2 k' f' hf')
    · omega
end Go.Cm

/- The walk of the making of a table. Conditions: the argument reads as a list. -/
namespace Go.Cm
open Go.RowKit Go.Proofs

theorem TabM.mono {w : World} {B B' g sy : Nat} {E : Nat → Ent} {fs : List Sub} {vf : Value} (h : TabM w B g sy E fs vf) (hB : B' ≤ B) : TabM w B' g sy E fs vf :=
  ⟨h.box.mono hB, h.outer.mono hB, h.ne, fun k f hf => ⟨(h.rows k f hf).1.mono hB, (h.rows k f hf).2⟩, h.apart⟩
end Go.Cm

/- The walks of the reading of a symbol by a table. Conditions: the table and the reader are there. -/
namespace Go.Cm
open Go.RowKit Go.Proofs

theorem Own.whole {w : World} {B T g n : Nat} {xs : List Value} (h : Own w B T (.slice (some ⟨g, 0, none⟩) n n) xs) : ∃ A, w.heap[g]? = some (.cells A T (0, 0)) ∧ A.size = n ∧ A.toList = xs := by
  have hl := h.len
  rcases h.1.2 with ⟨h1, _⟩ | ⟨g', cap, cur, h1, _, hg, hnc, hcm, hcs, htake⟩
  · cases h1
  · simp only [Value.slice.injEq, Option.some.injEq, Addr.mk.injEq, and_true] at h1
    obtain ⟨rfl, h2, rfl⟩ := h1
    have hs : cur.size = n := by omega
    refine ⟨cur, hg, hs, ?_⟩
    rw [← htake, List.take_of_length_le]
    rw [Array.length_toList]; omega
theorem results_one_cell {P : Program} {fn : Func} {tmps : Array Value} {w : World} {a t : Nat} {ad : Addr} {v : Value} (hf : fn.results = #[.cell a t]) (ha : tmps.getD a undef = .pointer (some ad)) (hl : (loadVar t ad).run P w = .ok v w) :
    (results fn tmps).run P w = .ok v w := by
  have ha' : tmps[a]?.getD undef = .pointer (some ad) := by simpa using ha
  simp [results, hf, asAddr, ha', hl]
theorem ret_one_cell {P : Program} {fn : Func} {a : Act} {w : World} {s t : Nat} {ad : Addr} {x : Value} {R : Ending → World → Prop} (hf : fn.results = #[.cell s t]) (ha : a.tmps.getD s undef = .pointer (some ad)) (hd : a.defers = [])
    (hl : (loadVar t ad).run P w = .ok x w) (h : R (.returned x) w) : bodyPost P fn R .ret a w :=
  bodyPost_ret (v := x) (results_one_cell hf ha hl) hd h
end Go.Cm

/- The walks of what finds the ops of a text. Conditions: the places lie in the text. -/
namespace Go.Cm
open Go.RowKit Go.Proofs

def bys (s : ByteArray) : Byts := s.data.toList
theorem bys_len (s : ByteArray) : (bys s).length = s.size := by simp [bys]
theorem index_by {P : Program} (T : TypeId) (hT : P.underlying T = some .string) {s : ByteArray} {i : Nat} (h : i < s.size) (W : World) : (Instr.index T (.string s) (.int .i64 i)).run P W = .ok (.int .u8 (((bys s).getD i 0).toNat : Nat)) W := by
  rw [run_index_string W T s .i64 i hT, dif_pos ⟨by omega, by omega⟩]
  have : (bys s).getD i 0 = s[i] := by
    have hl : i < (bys s).length := by rw [bys_len]; exact h
    rw [List.getD_eq_getElem?_getD, List.getElem?_eq_getElem hl]
    rfl
  rw [this]
  rfl
theorem byte_ne {a b : UInt8} (h : a ≠ b) : ((a.toNat : Int) == (b.toNat : Int)) = false := by
  have : a.toNat ≠ b.toNat := fun e => h (UInt8.toNat_inj.1 e)
  have h2 : (a.toNat : Int) ≠ (b.toNat : Int) := by omega
  simpa using h2
theorem results_cell {P : Program} {fn : Func} {tmps : Array Value} {w : World} {a t : Nat} {ad : Addr} {v : Value} (hf : fn.results = #[.cell a t]) (ha : tmps.getD a undef = .pointer (some ad)) (hl : (loadVar t ad).run P w = .ok v w) :
    (results fn tmps).run P w = .ok v w := by
  have ha' : tmps[a]?.getD undef = .pointer (some ad) := by simpa using ha
  simp [results, hf, asAddr, ha', hl]
theorem ret_cell {P : Program} {fn : Func} {tmps : Array Value} {w : World} {ds : List Deferred} {s t : Nat} {ad : Addr} {x : Value} {R : Ending → World → Prop} (hf : fn.results = #[.cell s t]) (ha : tmps.getD s undef = .pointer (some ad)) (hd : ds = [])
    (hl : (loadVar t ad).run P w = .ok x w) (h : R (.returned x) w) : bodyPost P fn R .ret ⟨tmps, ds⟩ w :=
  bodyPost_ret (v := x) (results_cell hf ha hl) hd h
theorem own_load {P : Program} {w : World} {B T g n : Nat} {xs : List Value} (h : Own w B T (.slice (some ⟨g, 0, none⟩) n n) xs) (d : TypeDesc) (hu : P.underlying T = some d) (hd : (match d with | .struct _ | .array _ _ => true | _ => false) = true) (hi : (P.info? T).map (·.size) = some n) :
    (loadVar T ⟨g, 0, none⟩).run P w = .ok (.agg xs.toArray) w := by
  obtain ⟨A, hg, hs, hA⟩ := h.whole
  have hl := run_loadVar_sub (P := P) w g 0 n T T A (0, 0) d hg hu hd hi (by omega)
  have e : A.extract 0 (0 + n) = xs.toArray := by rw [Nat.zero_add, ← hs, Array.extract_size, ← hA]
  rw [e] at hl
  exact hl
set_option maxRecDepth 100000 in
theorem runPk (s : ByteArray) (a d : Nat) (hs : s.size ≤ 4294967296) (ha : a ≤ s.size) (hd1 : 1 ≤ d) (hd : d ≤ a) (w : World) :
    Calls Try.prog 83 #[.string s, .int .i64 a, .int .i64 d] w fun e w' => e = .returned (.int .i64 (runN' (bys s) a d : Nat)) ∧ ∃ x, w' = ext w x := by
  have HIX := Lib.hid (fun (i : Nat) (h : i < s.size) (W : World) => index_by (P := Try.prog) 9 Try.underlying9 h W)
  have HL := Lib.hid (bys_len s)
  obtain ⟨R, hR⟩ : ∃ R, R = runN' (bys s) a d := ⟨_, rfl⟩
  rw [← hR]
  have HR := Lib.hid hR
  clear hR
  generalize bys s = t at *
  go_enter Try.func83, Try.ntmps83
  go_wp2
  go_loopg [7] 259 (fun gk nv wr => ∃ k : Nat, nv = .int .i64 k ∧ k ≤ 258 ∧ Hid (runFr t a d (259 - k) k = R) ∧ Below w.heap.size w wr ∧ gk = 259 - k)
  case atStart => exact ⟨0, rfl, by omega, Lib.hid (by rw [HR.out]; rfl), Below.refl _ _, rfl⟩
  case round =>
    obtain ⟨k, rfl, hk, HRR, hbel, rfl⟩ := hrel
    obtain ⟨f, hf⟩ : ∃ f, 259 - k = f + 1 := ⟨258 - k, by omega⟩
    have hf2 : 259 - (k + 1) = f := by omega
    have HF2 := Lib.hid hf2
    have HRS : Hid ((if k < 258 ∧ a + k < t.length ∧ t.getD (a + k - d) 0 = t.getD (a + k) 0 then runFr t a d f (k + 1) else k) = R) := Lib.hid (by have h := HRR.out; rw [hf] at h; exact h)
    have HEND : Hid (¬ (k < 258 ∧ a + k < s.size ∧ t.getD (a + k - d) 0 = t.getD (a + k) 0) → k = R) := Lib.hid (fun h => by have h2 := HRS.out; rw [HL.out, if_neg h] at h2; exact h2)
    clear hf hf2
    by_cases h1 : k < 258
    · have h1i : (k : Int) < 258 := by omega
      by_cases h2 : a + k < s.size
      · have hi1 := HIX.out (a + k) h2
        have hi2 := HIX.out (a + k - d) (by omega)
        have e1 : ((a + k : Nat) : Int) = (a : Int) + k := by omega
        have e2 : ((a + k - d : Nat) : Int) = (a : Int) + k - d := by omega
        rw [e1] at hi1
        rw [e2] at hi2
        have h2i : (a : Int) + (k : Int) < (s.size : Int) := by omega
        by_cases h3 : t.getD (a + k - d) 0 = t.getD (a + k) 0
        · have HRT : Hid (runFr t a d f (k + 1) = R) := Lib.hid (by rw [← HRS.out, if_pos ⟨h1, by rw [HL.out]; exact h2, h3⟩])
          rw [h3] at hi2
          generalize (t.getD (a + k) 0).toNat = y at *
          clear h3 HRS HEND
          go_wp2
          go_quiet (fail)
          go_wp2
          go_roundg (259 - (k + 1))
          case measure => omega
          case rel => exact ⟨k + 1, rfl, by omega, Lib.hid (by rw [HF2.out]; exact HRT.out), b_drewN hbel _, rfl⟩
        · have hne := byte_ne h3
          have HK := Lib.hid (HEND.out (fun h => h3 h.2.2))
          generalize (t.getD (a + k) 0).toNat = y at *
          generalize (t.getD (a + k - d) 0).toNat = z at *
          clear h3 HRS HEND
          go_wp2
          go_quiet (fail)
          go_wp2
          go_ret
          exact ⟨by rw [HK.out]; rfl, ex_ext (b_drewN hbel _)⟩
      · have h2i : decide ((a : Int) + (k : Int) < (s.size : Int)) = false := by rw [decide_eq_false_iff_not]; omega
        have HK := Lib.hid (HEND.out (fun h => h2 h.2.1))
        go_wp2
        go_quiet (fail)
        go_wp2
        go_ret
        exact ⟨by rw [HK.out]; rfl, ex_ext (b_drewN hbel _)⟩
    · have h1i : decide ((k : Int) < 258) = false := by rw [decide_eq_false_iff_not]; omega
      have HK := Lib.hid (HEND.out (fun h => h1 h.1))
      by_cases h2 : a + k < s.size
      · have h2i : (a : Int) + (k : Int) < (s.size : Int) := by omega
        go_wp2
        go_quiet (fail)
        go_wp2
        go_ret
        exact ⟨by rw [HK.out]; rfl, ex_ext (b_drewN hbel _)⟩
      · have h2i : decide ((a : Int) + (k : Int) < (s.size : Int)) = false := by rw [decide_eq_false_iff_not]; omega
        go_wp2
        go_quiet (fail)
        go_wp2
        go_ret
        exact ⟨by rw [HK.out]; rfl, ex_ext (b_drewN hbel _)⟩
set_option maxRecDepth 100000 in
theorem runRk (s : ByteArray) (a d : Nat) (hs : s.size ≤ 4294967296) (ha : a ≤ s.size) (hd1 : 1 ≤ d) (hd : d ≤ a) (w : World) :
    Calls Try.prog 55 #[.string s, .int .i64 a, .int .i64 d] w fun e w' => e = .returned (.int .i64 (runN' (bys s) a d : Nat)) ∧ ∃ x, w' = ext w x := by
  have HIX := Lib.hid (fun (i : Nat) (h : i < s.size) (W : World) => index_by (P := Try.prog) 9 Try.underlying9 h W)
  have HL := Lib.hid (bys_len s)
  obtain ⟨R, hR⟩ : ∃ R, R = runN' (bys s) a d := ⟨_, rfl⟩
  rw [← hR]
  have HR := Lib.hid hR
  clear hR
  generalize bys s = t at *
  go_enter Try.func55, Try.ntmps55
  go_wp2
  go_loopg [7] 259 (fun gk nv wr => ∃ k : Nat, nv = .int .i64 k ∧ k ≤ 258 ∧ Hid (runFr t a d (259 - k) k = R) ∧ Below w.heap.size w wr ∧ gk = 259 - k)
  case atStart => exact ⟨0, rfl, by omega, Lib.hid (by rw [HR.out]; rfl), Below.refl _ _, rfl⟩
  case round =>
    obtain ⟨k, rfl, hk, HRR, hbel, rfl⟩ := hrel
    obtain ⟨f, hf⟩ : ∃ f, 259 - k = f + 1 := ⟨258 - k, by omega⟩
    have hf2 : 259 - (k + 1) = f := by omega
    have HF2 := Lib.hid hf2
    have HRS : Hid ((if k < 258 ∧ a + k < t.length ∧ t.getD (a + k - d) 0 = t.getD (a + k) 0 then runFr t a d f (k + 1) else k) = R) := Lib.hid (by have h := HRR.out; rw [hf] at h; exact h)
    have HEND : Hid (¬ (k < 258 ∧ a + k < s.size ∧ t.getD (a + k - d) 0 = t.getD (a + k) 0) → k = R) := Lib.hid (fun h => by have h2 := HRS.out; rw [HL.out, if_neg h] at h2; exact h2)
    clear hf hf2
    by_cases h1 : k < 258
    · have h1i : (k : Int) < 258 := by omega
      by_cases h2 : a + k < s.size
      · have hi1 := HIX.out (a + k) h2
        have hi2 := HIX.out (a + k - d) (by omega)
        have e1 : ((a + k : Nat) : Int) = (a : Int) + k := by omega
        have e2 : ((a + k - d : Nat) : Int) = (a : Int) + k - d := by omega
        rw [e1] at hi1
        rw [e2] at hi2
        have h2i : (a : Int) + (k : Int) < (s.size : Int) := by omega
        by_cases h3 : t.getD (a + k - d) 0 = t.getD (a + k) 0
        · have HRT : Hid (runFr t a d f (k + 1) = R) := Lib.hid (by rw [← HRS.out, if_pos ⟨h1, by rw [HL.out]; exact h2, h3⟩])
          rw [h3] at hi2
          generalize (t.getD (a + k) 0).toNat = y at *
          clear h3 HRS HEND
          go_wp2
          go_quiet (fail)
          go_wp2
          go_roundg (259 - (k + 1))
          case measure => omega
          case rel => exact ⟨k + 1, rfl, by omega, Lib.hid (by rw [HF2.out]; exact HRT.out), b_drewN hbel _, rfl⟩
        · have hne := byte_ne h3
          have HK := Lib.hid (HEND.out (fun h => h3 h.2.2))
          generalize (t.getD (a + k) 0).toNat = y at *
          generalize (t.getD (a + k - d) 0).toNat = z at *
          clear h3 HRS HEND
          go_wp2
          go_quiet (fail)
          go_wp2
          go_ret
          exact ⟨by rw [HK.out]; rfl, ex_ext (b_drewN hbel _)⟩
      · have h2i : decide ((a : Int) + (k : Int) < (s.size : Int)) = false := by rw [decide_eq_false_iff_not]; omega
        have HK := Lib.hid (HEND.out (fun h => h2 h.2.1))
        go_wp2
        go_quiet (fail)
        go_wp2
        go_ret
        exact ⟨by rw [HK.out]; rfl, ex_ext (b_drewN hbel _)⟩
    · have h1i : decide ((k : Int) < 258) = false := by rw [decide_eq_false_iff_not]; omega
      have HK := Lib.hid (HEND.out (fun h => h1 h.1))
      by_cases h2 : a + k < s.size
      · have h2i : (a : Int) + (k : Int) < (s.size : Int) := by omega
        go_wp2
        go_quiet (fail)
        go_wp2
        go_ret
        exact ⟨by rw [HK.out]; rfl, ex_ext (b_drewN hbel _)⟩
      · have h2i : decide ((a : Int) + (k : Int) < (s.size : Int)) = false := by rw [decide_eq_false_iff_not]; omega
        go_wp2
        go_quiet (fail)
        go_wp2
        go_ret
        exact ⟨by rw [HK.out]; rfl, ex_ext (b_drewN hbel _)⟩
end Go.Cm

/- The walks of what finds the best copy, and of the ops of a text. Conditions: the places lie in the text. -/
namespace Go.Cm
open Go.RowKit Go.Proofs

theorem op_one (l : Nat) (n d : Int) : ∀ u ∈ (#[Value.int .u8 l, .int .i64 n, .int .i64 d] : Array Value).toList, u.oneCell' = true := by
  intro u hu
  simp only [List.mem_cons, List.not_mem_nil, or_false] at hu
  rcases hu with rfl | rfl | rfl <;> rfl
def opV (o : OpN) : List Value := [.int .u8 o.lit, .int .i64 o.len, .int .i64 o.dist]
theorem bestN_top {t : Byts} {a k : Nat} (h : 258 ≤ (bestN t a k).1) : ∀ j, bestN t a (k + j) = bestN t a k
  | 0 => rfl
  | j + 1 => by
    have ih := bestN_top h j
    rw [← Nat.add_assoc, bestN_succ, ih]
    unfold bestS
    have := runN_le t a (k + j + 1)
    rw [if_neg (by omega)]
/-- the op that the program holds after so many distances -/
def opK (t : Byts) (a k : Nat) : OpN := if 3 ≤ (bestN t a k).1 then ⟨0, (bestN t a k).1, (bestN t a k).2⟩ else ⟨(t.getD a 0).toNat, 0, 0⟩
def lenK (t : Byts) (a k : Nat) : Nat := if 3 ≤ (bestN t a k).1 then (bestN t a k).1 else 2
theorem opK_end {t : Byts} {a k : Nat} (h : k = min 256 a ∨ (258 ≤ lenK t a k ∧ k ≤ min 256 a)) : opK t a k = opAt t a := by
  have e : bestN t a (min 256 a) = bestN t a k := by
    rcases h with rfl | ⟨h, h2⟩
    · rfl
    · obtain ⟨j, hj⟩ : ∃ j, min 256 a = k + j := ⟨min 256 a - k, by omega⟩
      rw [hj]
      refine bestN_top ?_ j
      unfold lenK at h
      split at h <;> omega
  unfold opK opAt
  rw [e]
theorem opK_step {t : Byts} {a k r : Nat} (hr : r = runN' t a (k + 1)) : (lenK t a k < r → lenK t a (k + 1) = r ∧ opK t a (k + 1) = ⟨0, r, (k + 1 : Nat)⟩) ∧ (¬ lenK t a k < r → lenK t a (k + 1) = lenK t a k ∧ opK t a (k + 1) = opK t a k) := by
  unfold lenK opK
  rw [bestN_succ]
  unfold bestS
  rw [← hr]
  generalize bestN t a k = y
  obtain ⟨y1, y2⟩ := y
  constructor
  · intro h
    by_cases h3 : 3 ≤ y1
    · rw [if_pos h3] at h
      rw [if_pos h]
      simp only
      rw [if_pos (by omega), if_pos (by omega)]
      exact ⟨rfl, rfl⟩
    · rw [if_neg h3] at h
      rw [if_pos (show y1 < r by omega)]
      simp only
      rw [if_pos (by omega), if_pos (by omega)]
      exact ⟨rfl, rfl⟩
  · intro h
    by_cases h3 : 3 ≤ y1
    · rw [if_pos h3] at h
      rw [if_neg h]
      exact ⟨rfl, rfl⟩
    · rw [if_neg h3] at h
      by_cases h4 : y1 < r
      · rw [if_pos h4]
        simp only
        rw [if_neg (by omega), if_neg h3, if_neg (by omega), if_neg h3]
        exact ⟨rfl, rfl⟩
      · rw [if_neg h4]
        exact ⟨rfl, rfl⟩
set_option maxRecDepth 100000 in
theorem bestPk (s : ByteArray) (a : Nat) (hs : s.size ≤ 4294967296) (ha : a < s.size) (w : World) :
    Calls Try.prog 54 #[.string s, .int .i64 a] w fun e w' => e = .returned (.agg (opV (opAt (bys s) a)).toArray) ∧ ∃ x, w' = ext w x := by
  have HRUN := Lib.hid (fun (d : Nat) (W : World) (h1 : 1 ≤ d) (h2 : d ≤ a) => runPk s a d hs (by omega) h1 h2 W)
  have hi1 := fun W => index_by (P := Try.prog) 9 Try.underlying9 ha W
  have HS := Lib.hid (fun k r hr => opK_step (t := bys s) (a := a) (k := k) (r := r) hr)
  have he0 := fun k h => opK_end (t := bys s) (a := a) (k := k) h
  obtain ⟨oz, hoz⟩ : ∃ oz, oz = opAt (bys s) a := ⟨_, rfl⟩
  rw [← hoz] at he0 ⊢
  have HE := Lib.hid he0
  clear he0 hoz
  have H0 : Hid (lenK (bys s) a 0 = 2 ∧ opK (bys s) a 0 = ⟨((bys s).getD a 0).toNat, 0, 0⟩) := Lib.hid ⟨rfl, rfl⟩
  have hby : ((bys s).getD a 0).toNat < 256 := UInt8.toNat_lt _
  generalize ((bys s).getD a 0).toNat = y at *
  generalize bys s = t at *
  have hmin : min (a : Int) 256 = ((min 256 a : Nat) : Int) := by omega
  have hm1 : min 256 a ≤ 256 := by omega
  have hm2 : min 256 a ≤ a := by omega
  generalize min 256 a = m at *
  have HO0 : Hid (Own ((w.alloc (.cells #[.int .u8 0, .int .i64 0, .int .i64 0] 75)).alloc (.cells #[.int .u8 y, .int .i64 0, .int .i64 0] 75)) w.heap.size 75 (.slice (some ⟨w.heap.size, 0, none⟩) 3 3) [.int .u8 0, .int .i64 0, .int .i64 0]) := Lib.hid ((own_lit w w.heap.size #[.int .u8 0, .int .i64 0, .int .i64 0] 75 (by simp) (Nat.le_refl _)).up (below_alloc _ _))
  have HO1 : Hid (Own ((w.alloc (.cells #[.int .u8 0, .int .i64 0, .int .i64 0] 75)).alloc (.cells #[.int .u8 y, .int .i64 0, .int .i64 0] 75)) w.heap.size 75 (.slice (some ⟨w.heap.size + 1, 0, none⟩) 3 3) [.int .u8 y, .int .i64 0, .int .i64 0]) := Lib.hid (by
    have h := own_lit (w.alloc (.cells #[.int .u8 0, .int .i64 0, .int .i64 0] 75)) w.heap.size #[.int .u8 y, .int .i64 0, .int .i64 0] 75 (by simp) (by simp)
    simpa using h)
  have HBL : Hid (Below w.heap.size w ((w.alloc (.cells #[.int .u8 0, .int .i64 0, .int .i64 0] 75)).alloc (.cells #[.int .u8 y, .int .i64 0, .int .i64 0] 75))) := Lib.hid (by repeat (first | exact Below.refl _ _ | assumption | refine b_drewN ?_ _ | refine Below.drew ?_ | refine b_ext' ?_ _ | refine b_alloc' ?_ _))
  go_enter Try.func54, Try.ntmps54
  go_wp2
  go_loopg [6, 7] (m + 1) (fun gk nv dv wr => ∃ k : Nat, nv = .int .i64 (lenK t a k : Nat) ∧ dv = .int .i64 ((k : Int) + 1) ∧ k ≤ m ∧ Own wr w.heap.size 75 (.slice (some ⟨w.heap.size, 0, none⟩) 3 3) [.int .u8 0, .int .i64 0, .int .i64 0] ∧ Own wr w.heap.size 75 (.slice (some ⟨w.heap.size + 1, 0, none⟩) 3 3) (opV (opK t a k)) ∧ Below w.heap.size w wr ∧ gk = m + 1 - k)
  case atStart => exact ⟨0, by rw [H0.out.1]; rfl, rfl, Nat.zero_le _, HO0.out, by rw [H0.out.2]; exact HO1.out, HBL.out, rfl⟩
  case round =>
    clear HO0 HO1 HBL H0
    obtain ⟨k, rfl, rfl, hk, ho0, ho1, hbel, rfl⟩ := hrel
    have HO0 := Lib.hid ho0
    have HO1 := Lib.hid ho1
    have HBL := Lib.hid hbel
    have HEK := Lib.hid (HE.out k)
    have HSK := Lib.hid (fun r hr => HS.out k r hr)
    have hsz := hbel.size
    obtain ⟨A, hgA, hsA, hA⟩ := ho1.whole
    have hA' : A = #[.int .u8 (opK t a k).lit, .int .i64 (opK t a k).len, .int .i64 (opK t a k).dist] := by rw [← Array.toArray_toList (xs := A), hA]; rfl
    subst hA'
    clear ho0 ho1 hbel hA hsA HE HS
    obtain ⟨n, hn⟩ : ∃ n, n = lenK t a k := ⟨_, rfl⟩
    obtain ⟨ok, hok⟩ : ∃ ok, ok = opK t a k := ⟨_, rfl⟩
    rw [← hn, ← hok] at HEK
    rw [← hn, ← hok] at HSK
    rw [← hok] at hgA HO1
    rw [← hn]
    clear hn hok
    by_cases h1 : k + 1 ≤ m
    · have h1i : decide ((k : Int) + 1 ≤ (m : Int)) = true := by simp; omega
      by_cases h2 : n < 258
      · have h2i : decide ((n : Int) < 258) = true := by simp; omega
        have HRK := Lib.hid (HRUN.out (k + 1) wr (by omega) (by omega))
        rw [show ((k + 1 : Nat) : Int) = (k : Int) + 1 by omega] at HRK
        obtain ⟨r, hr⟩ : ∃ r, r = runN' t a (k + 1) := ⟨_, rfl⟩
        have hs2 := HSK.out r hr
        have hr258 : r ≤ 258 := by rw [hr]; exact runN_le _ _ _
        rw [← hr] at HRK
        clear hr HRUN HEK HSK
        by_cases h3 : n < r
        · have h3i : decide ((r : Int) > (n : Int)) = true := by simp; omega
          have HN := Lib.hid (hs2.1 h3)
          clear hs2
          go_wp2_with (first | (go_at_call 83; (with_reducible refine HRK.out.mono ?_); rintro e w2 ⟨rfl, x2, rfl⟩) | (refine wpList_store_agg rfl 75 _ _ rfl w.heap.size 75 (w.heap.size + 1) 3 3 rfl #[.int .u8 0, .int .i64 r, .int .i64 ((k : Int) + 1)] rfl (by kernel_rfl) _ (HO1.out.up (ext_below wr x2)) (Nat.le_refl 3) (op_one 0 r ((k : Int) + 1)) ?_; intro w3 ho3 hg3; have HO3 := Lib.hid ho3; have HG3 := Lib.hid hg3; clear ho3 hg3))
          all_goals
            go_roundg (m + 1 - (k + 1))
            case measure => omega
            case rel =>
              refine ⟨k + 1, by rw [HN.out.1], by go_num, h1, (HO0.out.up (ext_below wr x2)).keep HG3.out (.inr (by simp [Value.ownBlock])), ?_, (HBL.out.trans ((ext_below wr x2).mono hsz)).grown HG3.out (by have := size_ext wr x2; omega) (fun q hq => by cases hq; omega), rfl⟩
              rw [HN.out.2]
              exact HO3.out
        · have h3i : decide ((r : Int) > (n : Int)) = false := by rw [decide_eq_false_iff_not]; omega
          have HN := Lib.hid (hs2.2 h3)
          clear hs2
          go_wp2_with (go_at_call 83; (with_reducible refine HRK.out.mono ?_); rintro e w2 ⟨rfl, x2, rfl⟩)
          all_goals
            go_roundg (m + 1 - (k + 1))
            case measure => omega
            case rel =>
              refine ⟨k + 1, by rw [HN.out.1], by go_num, h1, HO0.out.up (ext_below wr x2), ?_, HBL.out.trans ((ext_below wr x2).mono hsz), rfl⟩
              rw [HN.out.2]
              exact HO1.out.up (ext_below wr x2)
      · have h2i : decide ((n : Int) < 258) = false := by rw [decide_eq_false_iff_not]; omega
        have HF := Lib.hid (HEK.out (.inr ⟨by omega, hk⟩))
        clear HRUN HEK HSK
        go_wp2_with (first | (refine load_box rfl 75 3 _ rfl (w.heap.size + 1) rfl #[.int .u8 ok.lit, .int .i64 ok.len, .int .i64 ok.dist] rfl hgA _ Try.underlying75 rfl (by kernel_rfl) ?_) | (refine wpList_store_agg rfl 75 _ _ rfl w.heap.size 75 w.heap.size 3 3 rfl #[.int .u8 ok.lit, .int .i64 ok.len, .int .i64 ok.dist] rfl (by kernel_rfl) _ HO0.out (Nat.le_refl 3) (op_one ok.lit ok.len ok.dist) ?_; intro w3 ho3 hg3; have HO3 := Lib.hid ho3; have HG3 := Lib.hid hg3; clear ho3 hg3))
        all_goals
          refine ret_cell rfl rfl rfl (own_load HO3.out _ Try.underlying75 rfl (by kernel_rfl)) ?_
          refine ⟨?_, ex_ext (HBL.out.grown HG3.out hsz (fun q hq => by cases hq; exact Nat.le_refl _))⟩
          rw [← HF.out]
          rfl
    · have h1i : decide ((k : Int) + 1 ≤ (m : Int)) = false := by rw [decide_eq_false_iff_not]; omega
      have HF := Lib.hid (HEK.out (.inl (by omega)))
      clear HRUN HEK HSK
      go_wp2_with (first | (refine load_box rfl 75 3 _ rfl (w.heap.size + 1) rfl #[.int .u8 ok.lit, .int .i64 ok.len, .int .i64 ok.dist] rfl hgA _ Try.underlying75 rfl (by kernel_rfl) ?_) | (refine wpList_store_agg rfl 75 _ _ rfl w.heap.size 75 w.heap.size 3 3 rfl #[.int .u8 ok.lit, .int .i64 ok.len, .int .i64 ok.dist] rfl (by kernel_rfl) _ HO0.out (Nat.le_refl 3) (op_one ok.lit ok.len ok.dist) ?_; intro w3 ho3 hg3; have HO3 := Lib.hid ho3; have HG3 := Lib.hid hg3; clear ho3 hg3))
      all_goals
        refine ret_cell rfl rfl rfl (own_load HO3.out _ Try.underlying75 rfl (by kernel_rfl)) ?_
        refine ⟨?_, ex_ext (HBL.out.grown HG3.out hsz (fun q hq => by cases hq; exact Nat.le_refl _))⟩
        rw [← HF.out]
        rfl
end Go.Cm

/- The walks of the ops of a text. Conditions: none. -/
namespace Go.Cm
open Go.RowKit Go.Proofs

theorem opVs_len (l : List OpN) : ∀ x ∈ l.map opV, x.length = 3 := by
  intro x hx; obtain ⟨o, -, rfl⟩ := List.mem_map.1 hx; rfl
theorem opVs_one (l : List OpN) : ∀ u ∈ (l.map opV).flatten, u.oneCell' = true := by
  intro u hu
  obtain ⟨x, hx, hu⟩ := List.mem_flatten.1 hu
  obtain ⟨o, -, rfl⟩ := List.mem_map.1 hx
  exact op_one o.lit o.len o.dist u hu
theorem opsFr_next {t : Byts} {f a : Nat} (h : a < t.length) (hf : t.length < a + f) : ∃ g, f = g + 1 ∧ opsFr t f a = opAt t a :: opsFr t g (a + stepAt t a) ∧ t.length < a + stepAt t a + g := by
  obtain ⟨g, rfl⟩ : ∃ g, f = g + 1 := ⟨f - 1, by omega⟩
  have := (stepAt_pos t a).1
  exact ⟨g, rfl, if_pos h, by omega⟩
theorem opsFr_stop {t : Byts} {a : Nat} (h : ¬ a < t.length) : ∀ f, opsFr t f a = []
  | 0 => rfl
  | _ + 1 => if_neg h
theorem opAt_len (t : Byts) (a : Nat) : ((opAt t a).len = 0 ∧ stepAt t a = 1) ∨ (3 ≤ stepAt t a ∧ (opAt t a).len = (stepAt t a : Nat)) := by
  unfold opAt stepAt
  by_cases h : 3 ≤ (bestN t a (min 256 a)).1
  · rw [if_pos h, if_pos h]; exact .inr ⟨h, rfl⟩
  · rw [if_neg h, if_neg h]; exact .inl ⟨rfl, rfl⟩
theorem op_box (w2 : World) (y : Nat) (n d : Int) : Own (w2.alloc (.cells #[.int .u8 y, .int .i64 n, .int .i64 d] 75)) w2.heap.size 75 (.slice (some ⟨w2.heap.size, 0, none⟩) 3 3) (opV ⟨y, n, d⟩) :=
  own_lit w2 w2.heap.size #[.int .u8 y, .int .i64 n, .int .i64 d] 75 (by simp) (Nat.le_refl _)
theorem app_op {w2 : World} {B : Nat} {v : Value} {l : List OpN} (h : OwnK 3 w2 B 75 v (l.map opV)) (y : Nat) (n d : Int) :
    OwnK 3 (w2.alloc (.cells #[.int .u8 y, .int .i64 n, .int .i64 d] 75)) B 75 v (l.map opV) ∧ SlK 3 (w2.alloc (.cells #[.int .u8 y, .int .i64 n, .int .i64 d] 75)) (.slice (some ⟨w2.heap.size, 0, none⟩) 1 1) [opV ⟨y, n, d⟩] := by
  have h2 := slK_lit 3 w2 #[.int .u8 y, .int .i64 n, .int .i64 d] 75 [opV ⟨y, n, d⟩] rfl (opVs_len [⟨y, n, d⟩]) (by simp)
  exact ⟨h.up (below_alloc _ _), by simpa using h2⟩
/-- a list of ops of the call's own -/
def RetOps (l : List OpN) (w : World) (e : Ending) (w' : World) : Prop := ∃ v, e = .returned v ∧ OwnK 3 w' w.heap.size 75 v (l.map opV) ∧ Below w.heap.size w w'
set_option maxRecDepth 100000 in
theorem opsPk (s : ByteArray) (hs : s.size ≤ 100000) (w : World) : Calls Try.prog 20 #[.string s] w (RetOps (opsOf (bys s)) w) := by
  have HBE := Lib.hid (fun (a : Nat) (ha : a < s.size) (W : World) => bestPk s a (by omega) ha W)
  have HL := Lib.hid (bys_len s)
  obtain ⟨R, hR⟩ : ∃ R, R = opsOf (bys s) := ⟨_, rfl⟩
  rw [← hR]
  have HR := Lib.hid hR
  clear hR
  generalize bys s = t at *
  go_enter Try.func20, Try.ntmps20
  go_wp2
  go_loopg [3, 4] (s.size + 1) (fun gk lv av wr => ∃ (a f : Nat) (l : List OpN), av = .int .i64 a ∧ a ≤ s.size ∧ Hid (l ++ opsFr t f a = R) ∧ Hid (t.length < a + f) ∧ l.length ≤ a ∧ OwnK 3 wr w.heap.size 75 lv (l.map opV) ∧ Below w.heap.size w wr ∧ gk = s.size + 1 - a)
  case atStart => exact ⟨0, t.length + 1, [], rfl, Nat.zero_le _, Lib.hid (by rw [HR.out]; rfl), Lib.hid (by omega), Nat.le_refl _, OwnK.nil _ _ _ _, Below.refl _ _, rfl⟩
  case round =>
    obtain ⟨a, f, l, rfl, ha, HLR, HF, hla, hown, hbel, rfl⟩ := hrel
    have HO := Lib.hid hown
    have HW := Lib.hid hbel
    have hsz := hbel.size
    clear hown hbel
    by_cases hlt : a < s.size
    · have HB := Lib.hid (HBE.out a hlt wr)
      obtain ⟨g, -, hg1, hg2⟩ := opsFr_next (t := t) (f := f) (a := a) (by rw [HL.out]; exact hlt) HF.out
      have hin := stepAt_in (t := t) (a := a) (by rw [HL.out]; exact hlt)
      rw [HL.out] at hin
      have hstep := opAt_len t a
      have HLR2 : Hid ((l ++ [opAt t a]) ++ opsFr t g (a + stepAt t a) = R) := Lib.hid (by rw [← HLR.out, hg1, List.append_assoc]; rfl)
      have HF2 := Lib.hid hg2
      clear hg1 hg2 HF HLR HBE HR
      generalize opAt t a = o at *
      generalize stepAt t a = st at *
      obtain ⟨y, n, d⟩ := o
      simp only at hstep
      have hHB : Hid (Calls Try.prog 54 #[.string s, .int .i64 a] wr fun e w' => e = .returned (.agg #[.int .u8 y, .int .i64 n, .int .i64 d]) ∧ ∃ x, w' = ext wr x) := HB
      clear HB
      have hmax : (max 1 n : Int) = (st : Nat) := by omega
      have hst1 : 1 ≤ st := by omega
      have HLN : Hid ((l.map opV).length + [opV ⟨y, n, d⟩].length ≤ 1000000000) := Lib.hid (by rw [List.length_map, List.length_singleton]; omega)
      have HAP := Lib.hid (fun (w2 : World) (hb : Below wr.heap.size wr w2) => app_op (w2 := w2.alloc (.cells #[.int .u8 y, .int .i64 n, .int .i64 d] 75)) (((HO.out.up hb)).up (below_alloc _ _)) y n d)
      go_wp2_with (first
        | (go_at_call 54; (with_reducible refine hHB.out.mono ?_); rintro e w2 ⟨rfl, x2, rfl⟩; have HX2 := Lib.hid (ext_below wr x2); generalize ext wr x2 = w2 at *; obtain ⟨ho, hx⟩ := HAP.out w2 HX2.out; rw [show (w2.alloc (.cells #[.int .u8 y, .int .i64 n, .int .i64 d] 75)).heap.size = w2.heap.size + 1 by simp] at hx; have HO2 := Lib.hid ho; have HN2 := Lib.hid hx; have hs2 := HX2.out.size; clear ho hx)
        | (at_builtin; go_loud (refine wpList_appK 3 rfl (.tmp 13) (.tmp 15) 32 rfl w.heap.size 75 (.agg #[.int .u8 0, .int .i64 0, .int .i64 0]) 24 Try.underlying32 (by kernel_rfl) rfl (by decide) (by decide) u3 _ rfl HO2.out _ _ rfl HN2.out (opVs_len [⟨y, n, d⟩]) (opVs_one [⟨y, n, d⟩]) HLN.out (Nat.le_trans (Nat.le_trans (Nat.le_trans hsz hs2) (below_alloc w2 (.cells #[.int .u8 y, .int .i64 n, .int .i64 d] 75)).size) (below_alloc _ _).size) ?_); intro v' w5 hown1 hg1 hk1; have HO1 := Lib.hid hown1; have HG1 := Lib.hid hg1; have h5 := ((op_box w2 y n d).up (below_alloc _ _)).keep hg1 (.inr (by intro e; have e2 : some w2.heap.size = u3.ownBlock := e; have := HO.out.lt _ e2.symm; omega)); have c5 : w5.cell? ⟨w2.heap.size, 1, none⟩ = some (.int .i64 n) := h5.cell (by simp [opV]); have b5 := h5.blk.2; clear hown1 hg1 hk1 h5))
      all_goals
        have HB5 : Hid (Below w.heap.size w w5) := Lib.hid ((((HW.out.trans (HX2.out.mono hsz)).alloc (by omega) _).alloc (Nat.le_trans (Nat.le_trans hsz hs2) (below_alloc w2 _).size) _).grown HG1.out (Nat.le_trans (Nat.le_trans (Nat.le_trans hsz hs2) (below_alloc w2 (.cells #[.int .u8 y, .int .i64 n, .int .i64 d] 75)).size) (below_alloc _ _).size) (fun k hk => (HO.out.lt k hk).1))
        go_roundg (s.size + 1 - (a + st))
        case measure => omega
        case rel => exact ⟨a + st, g, l ++ [⟨y, n, d⟩], by (first | rw [show ((a + st : Nat) : Int) = (a : Int) + n by omega] | rw [show ((a + st : Nat) : Int) = (a : Int) + 1 by omega]), hin, HLR2, HF2, by rw [List.length_append, List.length_singleton]; omega, by rw [List.map_append]; exact HO1.out, HB5.out, rfl⟩
    · have hlt2 : ¬ (a : Int) < (s.size : Int) := by omega
      go_wp2
      go_ret
      refine ⟨u3, rfl, ?_, HW.out⟩
      rw [← HLR.out, opsFr_stop (by rw [HL.out]; exact hlt), List.append_nil]
      exact HO.out
set_option maxRecDepth 100000 in
theorem opsRk (s : ByteArray) (hs : s.size ≤ 100000) (w : World) : Calls Try.prog 21 #[.string s] w (RetOps (opsOf (bys s)) w) := by
  have HRUN := Lib.hid (fun (a d : Nat) (W : World) (ha : a < s.size) (h1 : 1 ≤ d) (h2 : d ≤ a) => runRk s a d (by omega) (by omega) h1 h2 W)
  have HIX := Lib.hid (fun (i : Nat) (h : i < s.size) (W : World) => index_by (P := Try.prog) 9 Try.underlying9 h W)
  have HL := Lib.hid (bys_len s)
  obtain ⟨R, hR⟩ : ∃ R, R = opsOf (bys s) := ⟨_, rfl⟩
  rw [← hR]
  have HR := Lib.hid hR
  clear hR
  generalize bys s = t at *
  go_enter Try.func21, Try.ntmps21
  go_wp2
  go_loopg [3, 4] (s.size + 1) (fun gk lv av wr => ∃ (a f : Nat) (l : List OpN), av = .int .i64 a ∧ a ≤ s.size ∧ Hid (l ++ opsFr t f a = R) ∧ Hid (t.length < a + f) ∧ l.length ≤ a ∧ OwnK 3 wr w.heap.size 75 lv (l.map opV) ∧ Below w.heap.size w wr ∧ gk = s.size + 1 - a)
  case atStart => exact ⟨0, t.length + 1, [], rfl, Nat.zero_le _, Lib.hid (by rw [HR.out]; rfl), Lib.hid (by omega), Nat.le_refl _, OwnK.nil _ _ _ _, Below.refl _ _, rfl⟩
  case round =>
    obtain ⟨a, f, l, rfl, ha, HLR, HF, hla, hown, hbel, rfl⟩ := hrel
    have HO := Lib.hid hown
    have HW := Lib.hid hbel
    have hsz := hbel.size
    clear hown hbel
    generalize wr = wo at *
    by_cases hlt : a < s.size
    · obtain ⟨g, -, hg1, hg2⟩ := opsFr_next (t := t) (f := f) (a := a) (by rw [HL.out]; exact hlt) HF.out
      have hin := stepAt_in (t := t) (a := a) (by rw [HL.out]; exact hlt)
      rw [HL.out] at hin
      have HIN := Lib.hid hin
      have HLR2 : Hid ((l ++ [opAt t a]) ++ opsFr t g (a + stepAt t a) = R) := Lib.hid (by rw [← HLR.out, hg1, List.append_assoc]; rfl)
      have HF2 := Lib.hid hg2
      clear hg1 hg2 HF HLR HR hin
      obtain ⟨m, hm⟩ : ∃ m, m = min 256 a := ⟨_, rfl⟩
      have HM := Lib.hid hm
      have hm1 : m ≤ 256 := by omega
      have hm2 : m ≤ a := by omega
      have hm3 : ∀ k, k + 1 ≤ m ↔ (k + 1 ≤ 256 ∧ k + 1 ≤ a) := fun k => by omega
      have HM3 := Lib.hid hm3
      clear hm hm3
      go_wp2
      go_loopg [5, 6, 7] (m + 1) (fun gk bv dv kv wr => ∃ k : Nat, bv = .int .i64 ((bestN t a k).1 : Nat) ∧ dv = .int .i64 ((bestN t a k).2 : Nat) ∧ kv = .int .i64 ((k : Int) + 1) ∧ k ≤ m ∧ Below wo.heap.size wo wr ∧ gk = m + 1 - k)
      case atStart => exact ⟨0, rfl, rfl, rfl, Nat.zero_le _, Below.refl _ _, rfl⟩
      case round =>
        obtain ⟨k, rfl, rfl, rfl, hk, hbel, rfl⟩ := hrel
        have HB := Lib.hid hbel
        clear hbel
        have hst : bestN t a (k + 1) = bestS t a (bestN t a k) (k + 1) := bestN_succ t a k
        have hbn := bestN_spec t a k
        have HEND : Hid (k = m → opAt t a = (if 3 ≤ (bestN t a k).1 then ⟨0, (bestN t a k).1, (bestN t a k).2⟩ else ⟨(t.getD a 0).toNat, 0, 0⟩) ∧ stepAt t a = if 3 ≤ (bestN t a k).1 then (bestN t a k).1 else 1) := Lib.hid (fun h => by
          rw [h, HM.out]; exact ⟨rfl, rfl⟩)
        generalize bestN t a k = y at *
        obtain ⟨b1, b2⟩ := y
        simp only at hbn HEND ⊢
        have hb1 := hbn.1
        have HST := Lib.hid hst
        by_cases h1 : k + 1 ≤ m
        · obtain ⟨h2, h3⟩ := (HM3.out k).1 h1
          have h2i : decide ((k : Int) + 1 ≤ 256) = true := by simp; omega
          have h3i : decide ((k : Int) + 1 ≤ (a : Int)) = true := by simp; omega
          have HRK := Lib.hid (HRUN.out a (k + 1) wr hlt (by omega) h3)
          rw [show ((k + 1 : Nat) : Int) = (k : Int) + 1 by omega] at HRK
          obtain ⟨r, hr⟩ : ∃ r, r = runN' t a (k + 1) := ⟨_, rfl⟩
          have hr258 : r ≤ 258 := by rw [hr]; exact runN_le _ _ _
          rw [← hr] at HRK
          have HR2 := Lib.hid hr
          clear hr hst hbn HEND HRUN HIX HLR2 HF2
          by_cases h4 : b1 < r
          · have HN : Hid (bestN t a (k + 1) = (r, k + 1)) := Lib.hid (by rw [HST.out]; unfold bestS; rw [← HR2.out, if_pos h4])
            go_wp2_with (go_at_call 55; (with_reducible refine HRK.out.mono ?_); rintro e w2 ⟨rfl, x2, rfl⟩)
            go_roundg (m + 1 - (k + 1))
            case measure => omega
            case rel => exact ⟨k + 1, by rw [HN.out], by rw [HN.out]; go_num, by go_num, h1, HB.out.trans ((ext_below wr x2).mono HB.out.size), rfl⟩
          · have HN : Hid (bestN t a (k + 1) = (b1, b2)) := Lib.hid (by rw [HST.out]; unfold bestS; rw [← HR2.out, if_neg h4])
            go_wp2_with (go_at_call 55; (with_reducible refine HRK.out.mono ?_); rintro e w2 ⟨rfl, x2, rfl⟩)
            go_roundg (m + 1 - (k + 1))
            case measure => omega
            case rel => exact ⟨k + 1, by rw [HN.out], by rw [HN.out], by go_num, h1, HB.out.trans ((ext_below wr x2).mono HB.out.size), rfl⟩
        · have hkm : k = m := by omega
          obtain ⟨e1, e2⟩ := HEND.out hkm
          have hor : decide ((k : Int) + 1 ≤ 256) = false ∨ (decide ((k : Int) + 1 ≤ 256) = true ∧ decide ((k : Int) + 1 ≤ (a : Int)) = false) := by
            by_cases h2 : (k : Int) + 1 ≤ 256
            · exact .inr ⟨by simpa using h2, by rw [decide_eq_false_iff_not]; intro h3; exact h1 ((HM3.out k).2 (by omega))⟩
            · exact .inl (by simpa using h2)
          have hb2 : b1 ≠ 0 → 1 ≤ b2 ∧ b2 ≤ a := fun h => ⟨(hbn.2 h).2.1, by have := (hbn.2 h).2.2; omega⟩
          clear hst hbn HEND HRUN HST h1 hkm
          rw [e1, e2] at HLR2
          rw [e2] at HF2 HIN
          clear e1 e2
          have hW : Below w.heap.size w wr := HW.out.trans (HB.out.mono hsz)
          have HW2 := Lib.hid hW
          have HO2 := Lib.hid (HO.out.up HB.out)
          have hsz2 := hW.size
          clear hW HW HO HB
          by_cases h3 : 3 ≤ b1
          · rw [if_pos h3] at HLR2 HF2 HIN
            rw [if_pos h3] at HLR2
            have hin := HIN.out
            have h3i : decide ((b1 : Int) ≥ 3) = true := by simp; omega
            have HLN : Hid ((l.map opV).length + [opV ⟨0, b1, b2⟩].length ≤ 1000000000) := Lib.hid (by rw [List.length_map, List.length_singleton]; omega)
            obtain ⟨ho, hx⟩ := app_op HO2.out 0 b1 b2
            have HO3 := Lib.hid ho
            have HN3 := Lib.hid hx
            have hs3 := (below_alloc wr (.cells #[.int .u8 ((0 : Nat) : Int), .int .i64 (b1 : Int), .int .i64 (b2 : Int)] 75)).size
            have HS3 := Lib.hid hs3
            clear ho hx hs3
            rw [show ((0 : Nat) : Int) = 0 from rfl] at HO3 HN3 HS3
            rcases hor with h5 | ⟨h5, h6⟩ <;>
            · go_wp2_with (at_builtin; refine wpList_appK 3 rfl (.tmp 33) (.tmp 37) 32 rfl w.heap.size 75 (.agg #[.int .u8 0, .int .i64 0, .int .i64 0]) 24 Try.underlying32 (by kernel_rfl) rfl (by decide) (by decide) u3 _ rfl HO3.out _ _ rfl HN3.out (opVs_len [⟨0, b1, b2⟩]) (opVs_one [⟨0, b1, b2⟩]) HLN.out (Nat.le_trans hsz2 HS3.out) ?_; intro v' w5 hown1 hg1 hk1; have HO1 := Lib.hid hown1; have HG1 := Lib.hid hg1; clear hown1 hg1 hk1)
              have HB5 : Hid (Below w.heap.size w w5) := Lib.hid ((HW2.out.alloc hsz2 _).grown HG1.out (Nat.le_trans hsz2 HS3.out) (fun k hk => (HO2.out.lt k hk).1))
              go_roundg (s.size + 1 - (a + b1))
              case measure => omega
              case rel => exact ⟨a + b1, g, l ++ [⟨0, b1, b2⟩], by go_num, hin, HLR2, HF2, by rw [List.length_append, List.length_singleton]; omega, by rw [List.map_append]; exact HO1.out, HB5.out, rfl⟩
          · rw [if_neg h3] at HLR2 HF2 HIN
            rw [if_neg h3] at HLR2
            have hin := HIN.out
            have hi1 := HIX.out a hlt
            have h3i : decide ((b1 : Int) ≥ 3) = false := by rw [decide_eq_false_iff_not]; omega
            have hby : (t.getD a 0).toNat < 256 := UInt8.toNat_lt _
            generalize (t.getD a 0).toNat = y at *
            have HLN : Hid ((l.map opV).length + [opV ⟨y, 0, 0⟩].length ≤ 1000000000) := Lib.hid (by rw [List.length_map, List.length_singleton]; omega)
            obtain ⟨ho, hx⟩ := app_op HO2.out y 0 0
            have HO3 := Lib.hid ho
            have HN3 := Lib.hid hx
            have hs3 := (below_alloc wr (.cells #[.int .u8 (y : Int), .int .i64 0, .int .i64 0] 75)).size
            have HS3 := Lib.hid hs3
            clear ho hx hs3
            rcases hor with h5 | ⟨h5, h6⟩ <;>
            · go_wp2_with (at_builtin; refine wpList_appK 3 rfl (.tmp 42) (.tmp 47) 32 rfl w.heap.size 75 (.agg #[.int .u8 0, .int .i64 0, .int .i64 0]) 24 Try.underlying32 (by kernel_rfl) rfl (by decide) (by decide) u3 _ rfl HO3.out _ _ rfl HN3.out (opVs_len [⟨y, 0, 0⟩]) (opVs_one [⟨y, 0, 0⟩]) HLN.out (Nat.le_trans hsz2 HS3.out) ?_; intro v' w5 hown1 hg1 hk1; have HO1 := Lib.hid hown1; have HG1 := Lib.hid hg1; clear hown1 hg1 hk1)
              have HB5 : Hid (Below w.heap.size w w5) := Lib.hid ((HW2.out.alloc hsz2 _).grown HG1.out (Nat.le_trans hsz2 HS3.out) (fun k hk => (HO2.out.lt k hk).1))
              go_roundg (s.size + 1 - (a + 1))
              case measure => omega
              case rel => exact ⟨a + 1, g, l ++ [⟨y, 0, 0⟩], by go_num, hin, HLR2, HF2, by rw [List.length_append, List.length_singleton]; omega, by rw [List.map_append]; exact HO1.out, HB5.out, rfl⟩
    · have hlt2 : ¬ (a : Int) < (s.size : Int) := by omega
      go_wp2
      go_ret
      refine ⟨u3, rfl, ?_, HW.out⟩
      rw [← HLR.out, opsFr_stop (by rw [HL.out]; exact hlt), List.append_nil]
      exact HO.out
end Go.Cm

/- The walks of the further functions of the two bit readers. Conditions: the reader is there. -/
namespace Go.Cm
open Go.RowKit Go.Proofs

theorem BoxS.stay {w w' : World} {g p : Nat} {s : ByteArray} {row : Option Nat} (h : BoxS w g s p) (hg : w.grownBy w' row) (hne : row ≠ some g) : BoxS w' g s p := ⟨h.own.keep hg (.inr (fun e => hne e.symm))⟩
/-- what the next n bits are, what is wrong, and where the reader stands then -/
def bitsA (N T p n : Nat) : Nat × Nat × Nat := if p + n ≤ T then (valN N p n, 0, p + n) else (0, 2, p)
/-- on to a byte -/
def alignN (p : Nat) : Nat := (p + 7) / 8 * 8
end Go.Cm

/- The walk of the reading of a symbol by a table. Conditions: the table and the reader are there. -/
namespace Go.Cm
open Go.RowKit Go.Proofs

theorem BoxS.keep {w w' : World} {g p : Nat} {s : ByteArray} {row : Option Nat} (h : BoxS w g s p) (hg : w.grownBy w' row) (hne : row ≠ some g) : BoxS w' g s p := ⟨h.own.keep hg (.inr (fun e => hne e.symm))⟩
end Go.Cm

/- Whether all bits must be a code: the program's Fits and the document's. Conditions: the argument reads as a list. -/
namespace Go.Cm
open Go.RowKit Go.Proofs

/-- how many symbols have a code -/
def withN (L : List Nat) : Nat := L.length - L.count 0
/-- what is wrong of lengths, if all bits must be a code -/
def fitsE (l : List Int) (lone : Bool) : Nat :=
  if errI l ≠ 0 then errI l
  else if kraftN (l.map Int.toNat) = 32768 then 0
  else if lone = true ∧ (withN (l.map Int.toNat) = 0 ∨ (withN (l.map Int.toNat) = 1 ∧ (l.map Int.toNat).count 1 = 1)) then 0
  else if withN (l.map Int.toNat) = 0 then 17 else 8
theorem withN_cons (x : Nat) (L : List Nat) : withN (x :: L) = withN L + if x = 0 then 0 else 1 := by
  unfold withN
  have := List.count_le_length (a := 0) (l := L)
  rw [List.length_cons, List.count_cons]
  by_cases h : x = 0
  · subst h; simp
  · rw [if_neg h, if_neg (by simpa using h)]; omega
theorem withN_zero {L : List Nat} (h : withN L = 0) : kraftN L = 0 ∧ L.count 1 = 0 := by
  induction L with
  | nil => exact ⟨rfl, rfl⟩
  | cons x L ih =>
    rw [withN_cons] at h
    by_cases hx : x = 0
    · subst hx
      have := ih (by simpa using h)
      unfold kraftN at this ⊢
      simp only [List.map_cons, List.sum_cons, List.count_cons]
      exact ⟨by rw [this.1]; rfl, by rw [this.2]; rfl⟩
    · rw [if_neg hx] at h; omega
/-- one code alone has one bit just where the sum is half -/
theorem lone_iff {L : List Nat} (h15 : ∀ x ∈ L, x ≤ 15) (h : withN L = 1) : L.count 1 = 1 ↔ kraftN L = 16384 := by
  induction L with
  | nil => simp [withN] at h
  | cons x L ih =>
    rw [withN_cons] at h
    by_cases hx : x = 0
    · subst hx
      have := ih (fun y hy => h15 y (by simp [hy])) (by simpa using h)
      unfold kraftN at this ⊢
      simp only [List.map_cons, List.sum_cons, List.count_cons]
      simpa [kw] using this
    · rw [if_neg hx] at h
      obtain ⟨h1, h2⟩ := withN_zero (show withN L = 0 by omega)
      have hx15 := h15 x (by simp)
      unfold kraftN at h1 ⊢
      simp only [List.map_cons, List.sum_cons, List.count_cons]
      rw [h1, h2]
      by_cases hx1 : x = 1
      · subst hx1; decide
      · have e1 : (x == 1) = false := by simpa using hx1
        have e2 : kw x ≤ 2 ^ 13 := by
          unfold kw; rw [if_pos (by omega)]
          exact Nat.pow_le_pow_right (by decide) (by omega)
        rw [e1]
        have e3 : (2 : Nat) ^ 13 = 8192 := by decide
        constructor
        · intro hc; simp at hc
        · intro hk; omega
theorem withN_take_succ (L : List Nat) (k : Nat) (hk : k < L.length) : withN (L.take (k + 1)) = withN (L.take k) + if L.getD k 0 = 0 then 0 else 1 := by
  have h1 := count_take_succ L k 0 hk
  have h2 := List.count_le_length (a := 0) (l := L.take k)
  unfold withN
  rw [h1]
  simp only [List.length_take] at h2 ⊢
  by_cases h : L.getD k 0 = 0
  · rw [if_pos h, if_pos h]; omega
  · rw [if_neg h, if_neg h]; omega
theorem withN_take_le (L : List Nat) (k : Nat) : withN (L.take k) ≤ k := by
  unfold withN
  simp only [List.length_take]; omega
theorem fitsE_bad {l : List Int} (lone : Bool) (h : errI l ≠ 0) : fitsE l lone = errI l := by unfold fitsE; rw [if_pos h]
theorem fitsE_nls {L : List Nat} (lone : Bool) (h : errI (nls L) = 0) : fitsE (nls L) lone = if kraftN L = 32768 then 0 else if lone = true ∧ (withN L = 0 ∨ (withN L = 1 ∧ L.count 1 = 1)) then 0 else if withN L = 0 then 17 else 8 := by
  unfold fitsE; rw [if_neg (by omega), nls_toNat]
theorem errI_list {l : List Int} (h : errI l = 0) : ∃ L, l = nls L ∧ L.length ≤ 320 ∧ (∀ x ∈ L, x ≤ 15) ∧ kraftN L ≤ 32768 := by
  have hw : wrongI l = 0 := by
    apply Classical.byContradiction; intro hn
    rw [errI_of_wrong hn] at h; exact hn h
  obtain ⟨hlen, hall⟩ := wrongI_zero hw
  obtain ⟨L, rfl, h15⟩ := nls_of hall
  rw [nls_length] at hlen
  rw [errI_nls hlen h15] at h
  refine ⟨L, rfl, hlen, h15, ?_⟩
  apply Classical.byContradiction; intro hn
  rw [if_pos (by omega)] at h; cases h
theorem fitsR (v : Value) (l : List Int) (lone : Bool) (w : World) (h : IntsAt w v l) : Calls Try.prog 99 #[v, .bool lone] w fun e w' => e = .returned (.int .i64 (fitsE l lone : Nat)) ∧ Below w.heap.size w w' := by
  have HCO := Lib.hid (codesR v l w h)
  unfold RetCodes at HCO
  by_cases hz : errI l = 0
  · obtain ⟨L, rfl, hlen, h15, -⟩ := errI_list hz
    rw [fitsE_nls lone hz]
    rw [hz] at HCO
    have HKR : Hid (∀ w', Below w.heap.size w w' → Calls Try.prog 104 #[v] w' fun e w'' => e = .returned (.int .i64 (kraftN L : Nat)) ∧ ∃ x, w'' = ext w' x) := Lib.hid (fun w' hb => kraftR v L w' (h.up hb) hlen h15)
    have HLI := Lib.hid (lone_iff h15)
    obtain ⟨oa, cap, b, off, rfl, hd, hc⟩ := h.open
    rw [nls_length] at hd hc HKR HCO ⊢
    have hix := index_any (P := Try.prog) 39 3 Try.underlying39 (by kernel_rfl) hd
    have hm := hd.len
    have hbk := hd.hblk
    have HC : Hid (∀ W, Below w.heap.size w W → ∀ k, k < L.length → W.cell? ⟨b, off + k, none⟩ = some (.int .i64 (L.getD k 0 : Nat))) := Lib.hid (fun W hB k hk => by rw [hB.cell (hbk (by omega)), hc k hk, nls_getD])
    clear hc h hd hz h15
    obtain ⟨K, hK⟩ : ∃ K, K = kraftN L := ⟨_, rfl⟩
    rw [← hK] at HKR HLI ⊢
    clear hK
    by_cases hk : K = 32768
    · rw [if_pos hk]
      have hk2 : ((K : Int) == 32768) = true := by rw [hk]; rfl
      clear hk
      go_enter Try.func99, Try.ntmps99
      go_wp2_with (first | (go_at_call 82; refine HCO.out.mono ?_; rintro e w1 ⟨v1, rfl, -, hb1⟩; have HB1 := Lib.hid hb1; clear hb1) | (go_at_call 104; refine (HKR.out _ HB1.out).mono ?_; rintro e w2 ⟨rfl, y, rfl⟩))
      go_ret
      exact ⟨rfl, below_up HB1.out (ext_below _ _)⟩
    · rw [if_neg hk]
      have hk2 : ((K : Int) == 32768) = false := by simp; omega
      clear hk
      obtain ⟨r, hr⟩ : ∃ r : Nat, r = if lone = true ∧ (withN L = 0 ∨ (withN L = 1 ∧ L.count 1 = 1)) then 0 else if withN L = 0 then 17 else 8 := ⟨_, rfl⟩
      rw [← hr]
      have HR := Lib.hid hr
      clear hr
      go_enter Try.func99, Try.ntmps99
      go_wp2_with (first | (go_at_call 82; refine HCO.out.mono ?_; rintro e w1 ⟨v1, rfl, -, hb1⟩; have HB1 := Lib.hid hb1; clear hb1) | (go_at_call 104; refine (HKR.out _ HB1.out).mono ?_; rintro e w2 ⟨rfl, y, rfl⟩))
      have hb2 := below_up HB1.out (ext_below w1 y)
      have HC2 := Lib.hid (HC.out _ hb2)
      have HB2 := Lib.hid hb2
      clear hb2 HCO HKR HC HB1
      go_loop [8, 9] (fun c i => ∃ k : Nat, k ≤ L.length ∧ i = .int .i64 k ∧ c = .int .i64 (withN (L.take k) : Nat)) (fun _ i => L.length - (intOf i).toNat)
      case atStart => exact ⟨0, Nat.zero_le _, rfl, rfl⟩
      case round =>
        obtain ⟨k, hk, rfl, rfl⟩ := hrel
        by_cases hlt : k < L.length
        · have hcell := HC2.out k hlt
          have hbb := hbk (by omega)
          have HS := Lib.hid (withN_take_succ L k hlt)
          have hle := withN_take_le L k
          generalize withN (L.take k) = s at *
          generalize L.getD k 0 = z at *
          by_cases h0 : z = 0
          · have hy : ¬ (z : Int) > 0 := by omega
            rw [if_pos h0] at HS
            clear h0
            go_wp2
            go_round
            case rel => exact ⟨k + 1, by omega, by go_num, by rw [HS.out, Nat.add_zero]⟩
            case measure => simp [intOf]; omega
          · have hy : (z : Int) > 0 := by omega
            rw [if_neg h0] at HS
            clear h0
            go_wp2
            go_round
            case rel => exact ⟨k + 1, by omega, by go_num, by rw [HS.out]; go_num⟩
            case measure => simp [intOf]; omega
        · obtain rfl : k = L.length := by omega
          rw [List.take_length]
          clear hix hbk HC2 hlt hk
          generalize hm0 : withN L = m at *
          have hml : m ≤ 320 := by rw [← hm0]; unfold withN; omega
          clear hm0
          have hQ : (L.count 1 = 1 ↔ K = 16384) ∨ m ≠ 1 := by
            by_cases h1 : m = 1
            · exact .inl (HLI.out h1)
            · exact .inr h1
          generalize L.count 1 = ct at *
          clear HLI
          cases lone with
          | false =>
            by_cases h0 : m = 0
            · have hr : r = 17 := by rw [HR.out, h0]; rfl
              subst h0 hr
              clear HR hQ
              go_wp2
              go_ret
              exact ⟨rfl, HB2.out⟩
            · have hr : r = 8 := by rw [HR.out, if_neg (by simp), if_neg h0]
              have h0' : ((m : Int) == 0) = false := by simp; omega
              subst hr
              clear hQ h0 HR
              go_wp2
              go_ret
              exact ⟨rfl, HB2.out⟩
          | true =>
            by_cases h0 : m = 0
            · have hr : r = 0 := by rw [HR.out, if_pos ⟨rfl, .inl h0⟩]
              subst h0 hr
              clear hQ HR
              go_wp2
              go_ret
              exact ⟨rfl, HB2.out⟩
            · have h0' : ((m : Int) == 0) = false := by simp; omega
              by_cases h1 : m = 1
              · have hQ' := hQ.resolve_right (by simpa using h1)
                by_cases hK : K = 16384
                · have hr : r = 0 := by rw [HR.out, if_pos ⟨rfl, .inr ⟨h1, hQ'.2 hK⟩⟩]
                  clear hQ' HR hQ h0 h0'
                  subst hK hr h1
                  go_wp2
                  go_ret
                  exact ⟨rfl, HB2.out⟩
                · have hr : r = 8 := by rw [HR.out, if_neg (fun hh => hK (hQ'.1 (hh.2.resolve_left h0).2)), if_neg h0]
                  have hK' : ((K : Int) == 16384) = false := by simp; omega
                  clear hQ' hK HR hQ h0 h0'
                  subst hr h1
                  go_wp2
                  go_ret
                  exact ⟨rfl, HB2.out⟩
              · have hr : r = 8 := by rw [HR.out, if_neg (fun hh => hh.2.elim h0 (fun q => h1 q.1)), if_neg h0]
                have h1' : ((m : Int) == 1) = false := by simp; omega
                clear hQ h0 h1 HR
                subst hr
                go_wp2
                go_ret
                exact ⟨rfl, HB2.out⟩
  · rw [fitsE_bad lone hz]
    have hne : ((errI l : Nat) : Int) ≠ 0 := by omega
    generalize errI l = er at *
    obtain ⟨oa, cap, b, off, rfl, hd, hc⟩ := h.open
    clear hc hd h
    go_enter Try.func99, Try.ntmps99
    go_wp2_with (go_at_call 82; refine HCO.out.mono ?_; rintro e w1 ⟨v1, rfl, -, hb1⟩; have HB1 := Lib.hid hb1; clear hb1)
    go_ret
    exact ⟨rfl, HB1.out⟩
set_option maxRecDepth 100000 in
set_option maxHeartbeats 1000000 in
theorem fitsP (v : Value) (l : List Int) (lone : Bool) (w : World) (h : IntsAt w v l) : Calls Try.prog 116 #[v, .bool lone] w fun e w' => e = .returned (.int .i64 (fitsE l lone : Nat)) ∧ Below w.heap.size w w' := by
  have HCO := Lib.hid (codesP v l w h)
  unfold RetCodes at HCO
  by_cases hz : errI l = 0
  · have hw0 : wrongI l = 0 := by
      apply Classical.byContradiction; intro hn
      rw [errI_of_wrong hn] at hz; exact hn hz
    have HWR : Hid (∀ w', Below w.heap.size w w' → Calls Try.prog 130 #[v] w' (RetCounts l w')) := Lib.hid (fun w' hb => countsP v l w' (h.up hb))
    have hzz := zero_16
    obtain ⟨Z, hZ⟩ : ∃ Z, Z = z16 := ⟨_, rfl⟩
    rw [← hZ] at hzz
    have HZ := Lib.hid hZ
    clear hZ
    obtain ⟨L, rfl, hlen, h15, -⟩ := errI_list hz
    rw [fitsE_nls lone hz]
    rw [hz] at HCO
    unfold RetCounts at HWR
    rw [hw0] at HWR
    have HTP := Lib.hid (totalP L hlen)
    rw [totN_all L h15] at HTP
    have HCE : Hid (∀ c : List Nat, c.length = 16 → c = cntsN L → ∀ n, n < 16 → (nls c).getD n 0 = (L.count n : Nat)) := Lib.hid (fun c _ hc n hn => by rw [hc, nls_getD, cntsN_getD L n hn])
    have HBF : Hid (∀ w0 w1 w2 y : World, Below w.heap.size w w0 → Below w0.heap.size w0 w1 → (w1.alloc (.cells Z 173)).grownBy w2 (some w1.heap.size) → Below w.heap.size w (ext w2 y)) := Lib.hid (fun w0 w1 w2 y h0 h1 hg => by
      have h01 := below_up h0 h1
      have h02 : Below w.heap.size w w2 := (h01.trans ((below_alloc w1 _).mono h01.size)).grown hg (Nat.le_trans h01.size (by simp)) (fun k hk => by cases hk; exact h01.size)
      exact h02.trans ((ext_below w2 y).mono h02.size))
    obtain ⟨oa, cap, b, off, rfl, hd, hc⟩ := h.open
    rw [nls_length] at hd hc HWR HCO ⊢
    rw [nls_toNat] at HWR
    have hm := hd.len
    clear hc h hd hz h15 hw0
    have hwl : (L.length : Int) - (L.count 0 : Int) = ((withN L : Nat) : Int) := by
      have := List.count_le_length (a := 0) (l := L)
      unfold withN; omega
    have hml : withN L ≤ 320 := by unfold withN; omega
    have hc0l : L.count 0 ≤ 320 := Nat.le_trans List.count_le_length hlen
    have hc1l : L.count 1 ≤ 320 := Nat.le_trans List.count_le_length hlen
    generalize kraftN L = K at *
    generalize withN L = m at *
    obtain ⟨ct, hct⟩ : ∃ ct, ct = L.count 1 := ⟨_, rfl⟩
    rw [← hct] at hc1l ⊢
    have HCT := Lib.hid hct.symm
    clear hct
    by_cases hk : K = 32768
    · rw [if_pos hk]
      subst hk
      go_enter Try.func116, Try.ntmps116
      go_wp2_with (first | (go_at_call 112; refine HCO.out.mono ?_; rintro e w0 ⟨v1, rfl, -, hb0⟩; have HB0 := Lib.hid hb0; clear hb0) | (go_at_call 130; refine (HWR.out _ HB0.out).mono ?_; rintro e w1 ⟨c, hc1, rfl, hc2, hc3⟩; have HC1 := Lib.hid hc1; have HC2 := Lib.hid hc2; have HC3 := Lib.hid hc3; clear hc1 hc2 hc3) | (refine store_box rfl 173 16 _ _ rfl w1.heap.size rfl (nls (List.replicate 16 0)) (nls c) rfl (by rw [nls_length]; exact HC1.out) (by kernel_rfl) (box16 w1 Z HZ.out) ?_; intro w2 hb2 hg2; (obtain ⟨A, hgA, hsA, hA⟩ := hb2.open; have HAE := Lib.hid (congrArg List.toArray hA); have HB2 := Lib.hid hb2; have HG2 := Lib.hid hg2; have HT2 := Lib.hid (HTP.out); rw [← HC2.out (by trivial), ← HAE.out] at HT2; have hcl0 := hb2.cell (c := 0) (by omega); rw [HCE.out c HC1.out (HC2.out (by trivial)) 0 (by omega)] at hcl0; have hlt2 := hb2.lt; clear hb2 hg2 hA)) | (refine load_box rfl 173 16 _ rfl w1.heap.size rfl A hsA hgA _ Try.underlying173 rfl (by kernel_rfl) ?_) | (go_at_call 131; refine (HT2.out _).mono ?_; rintro e w3 ⟨rfl, y, rfl⟩; have hcl1 := (HB2.out.up (ext_below w2 y)).cell (c := 1) (by omega); rw [HCE.out c HC1.out (HC2.out (by trivial)) 1 (by omega)] at hcl1; have hlt3 := (HB2.out.up (ext_below w2 y)).lt))
      go_ret
      exact ⟨rfl, HBF.out w0 w1 w2 y HB0.out HC3.out HG2.out⟩
    · rw [if_neg hk]
      have hk2 : ((K : Int) == 32768) = false := by simp; omega
      clear hk
      cases lone with
      | false =>
        rw [if_neg (show ¬ (false = true ∧ (m = 0 ∨ (m = 1 ∧ ct = 1))) by simp)]
        by_cases h0 : m = 0
        · subst h0
          go_enter Try.func116, Try.ntmps116
          go_wp2_with (first | (go_at_call 112; refine HCO.out.mono ?_; rintro e w0 ⟨v1, rfl, -, hb0⟩; have HB0 := Lib.hid hb0; clear hb0) | (go_at_call 130; refine (HWR.out _ HB0.out).mono ?_; rintro e w1 ⟨c, hc1, rfl, hc2, hc3⟩; have HC1 := Lib.hid hc1; have HC2 := Lib.hid hc2; have HC3 := Lib.hid hc3; clear hc1 hc2 hc3) | (refine store_box rfl 173 16 _ _ rfl w1.heap.size rfl (nls (List.replicate 16 0)) (nls c) rfl (by rw [nls_length]; exact HC1.out) (by kernel_rfl) (box16 w1 Z HZ.out) ?_; intro w2 hb2 hg2; (obtain ⟨A, hgA, hsA, hA⟩ := hb2.open; have HAE := Lib.hid (congrArg List.toArray hA); have HB2 := Lib.hid hb2; have HG2 := Lib.hid hg2; have HT2 := Lib.hid (HTP.out); rw [← HC2.out (by trivial), ← HAE.out] at HT2; have hcl0 := hb2.cell (c := 0) (by omega); rw [HCE.out c HC1.out (HC2.out (by trivial)) 0 (by omega)] at hcl0; have hlt2 := hb2.lt; clear hb2 hg2 hA)) | (refine load_box rfl 173 16 _ rfl w1.heap.size rfl A hsA hgA _ Try.underlying173 rfl (by kernel_rfl) ?_) | (go_at_call 131; refine (HT2.out _).mono ?_; rintro e w3 ⟨rfl, y, rfl⟩; have hcl1 := (HB2.out.up (ext_below w2 y)).cell (c := 1) (by omega); rw [HCE.out c HC1.out (HC2.out (by trivial)) 1 (by omega), HCT.out] at hcl1; have hlt3 := (HB2.out.up (ext_below w2 y)).lt))
          go_ret
          exact ⟨rfl, HBF.out w0 w1 w2 y HB0.out HC3.out HG2.out⟩
        · rw [if_neg h0]
          have h0' : ((m : Int) == 0) = false := by simp; omega
          clear h0
          go_enter Try.func116, Try.ntmps116
          go_wp2_with (first | (go_at_call 112; refine HCO.out.mono ?_; rintro e w0 ⟨v1, rfl, -, hb0⟩; have HB0 := Lib.hid hb0; clear hb0) | (go_at_call 130; refine (HWR.out _ HB0.out).mono ?_; rintro e w1 ⟨c, hc1, rfl, hc2, hc3⟩; have HC1 := Lib.hid hc1; have HC2 := Lib.hid hc2; have HC3 := Lib.hid hc3; clear hc1 hc2 hc3) | (refine store_box rfl 173 16 _ _ rfl w1.heap.size rfl (nls (List.replicate 16 0)) (nls c) rfl (by rw [nls_length]; exact HC1.out) (by kernel_rfl) (box16 w1 Z HZ.out) ?_; intro w2 hb2 hg2; (obtain ⟨A, hgA, hsA, hA⟩ := hb2.open; have HAE := Lib.hid (congrArg List.toArray hA); have HB2 := Lib.hid hb2; have HG2 := Lib.hid hg2; have HT2 := Lib.hid (HTP.out); rw [← HC2.out (by trivial), ← HAE.out] at HT2; have hcl0 := hb2.cell (c := 0) (by omega); rw [HCE.out c HC1.out (HC2.out (by trivial)) 0 (by omega)] at hcl0; have hlt2 := hb2.lt; clear hb2 hg2 hA)) | (refine load_box rfl 173 16 _ rfl w1.heap.size rfl A hsA hgA _ Try.underlying173 rfl (by kernel_rfl) ?_) | (go_at_call 131; refine (HT2.out _).mono ?_; rintro e w3 ⟨rfl, y, rfl⟩; have hcl1 := (HB2.out.up (ext_below w2 y)).cell (c := 1) (by omega); rw [HCE.out c HC1.out (HC2.out (by trivial)) 1 (by omega), HCT.out] at hcl1; have hlt3 := (HB2.out.up (ext_below w2 y)).lt))
          go_ret
          exact ⟨rfl, HBF.out w0 w1 w2 y HB0.out HC3.out HG2.out⟩
      | true =>
        by_cases h0 : m = 0
        · subst h0
          rw [if_pos (show true = true ∧ (0 = 0 ∨ (0 = 1 ∧ ct = 1)) from ⟨rfl, .inl rfl⟩)]
          go_enter Try.func116, Try.ntmps116
          go_wp2_with (first | (go_at_call 112; refine HCO.out.mono ?_; rintro e w0 ⟨v1, rfl, -, hb0⟩; have HB0 := Lib.hid hb0; clear hb0) | (go_at_call 130; refine (HWR.out _ HB0.out).mono ?_; rintro e w1 ⟨c, hc1, rfl, hc2, hc3⟩; have HC1 := Lib.hid hc1; have HC2 := Lib.hid hc2; have HC3 := Lib.hid hc3; clear hc1 hc2 hc3) | (refine store_box rfl 173 16 _ _ rfl w1.heap.size rfl (nls (List.replicate 16 0)) (nls c) rfl (by rw [nls_length]; exact HC1.out) (by kernel_rfl) (box16 w1 Z HZ.out) ?_; intro w2 hb2 hg2; (obtain ⟨A, hgA, hsA, hA⟩ := hb2.open; have HAE := Lib.hid (congrArg List.toArray hA); have HB2 := Lib.hid hb2; have HG2 := Lib.hid hg2; have HT2 := Lib.hid (HTP.out); rw [← HC2.out (by trivial), ← HAE.out] at HT2; have hcl0 := hb2.cell (c := 0) (by omega); rw [HCE.out c HC1.out (HC2.out (by trivial)) 0 (by omega)] at hcl0; have hlt2 := hb2.lt; clear hb2 hg2 hA)) | (refine load_box rfl 173 16 _ rfl w1.heap.size rfl A hsA hgA _ Try.underlying173 rfl (by kernel_rfl) ?_) | (go_at_call 131; refine (HT2.out _).mono ?_; rintro e w3 ⟨rfl, y, rfl⟩; have hcl1 := (HB2.out.up (ext_below w2 y)).cell (c := 1) (by omega); rw [HCE.out c HC1.out (HC2.out (by trivial)) 1 (by omega), HCT.out] at hcl1; have hlt3 := (HB2.out.up (ext_below w2 y)).lt))
          go_ret
          exact ⟨rfl, HBF.out w0 w1 w2 y HB0.out HC3.out HG2.out⟩
        · have h0' : ((m : Int) == 0) = false := by simp; omega
          by_cases h1 : m = 1
          · subst h1
            clear h0 h0'
            by_cases hc : ct = 1
            · subst hc
              rw [if_pos (show true = true ∧ ((1:Nat) = 0 ∨ (1 = 1 ∧ 1 = 1)) from ⟨rfl, .inr ⟨rfl, rfl⟩⟩)]
              go_enter Try.func116, Try.ntmps116
              go_wp2_with (first | (go_at_call 112; refine HCO.out.mono ?_; rintro e w0 ⟨v1, rfl, -, hb0⟩; have HB0 := Lib.hid hb0; clear hb0) | (go_at_call 130; refine (HWR.out _ HB0.out).mono ?_; rintro e w1 ⟨c, hc1, rfl, hc2, hc3⟩; have HC1 := Lib.hid hc1; have HC2 := Lib.hid hc2; have HC3 := Lib.hid hc3; clear hc1 hc2 hc3) | (refine store_box rfl 173 16 _ _ rfl w1.heap.size rfl (nls (List.replicate 16 0)) (nls c) rfl (by rw [nls_length]; exact HC1.out) (by kernel_rfl) (box16 w1 Z HZ.out) ?_; intro w2 hb2 hg2; (obtain ⟨A, hgA, hsA, hA⟩ := hb2.open; have HAE := Lib.hid (congrArg List.toArray hA); have HB2 := Lib.hid hb2; have HG2 := Lib.hid hg2; have HT2 := Lib.hid (HTP.out); rw [← HC2.out (by trivial), ← HAE.out] at HT2; have hcl0 := hb2.cell (c := 0) (by omega); rw [HCE.out c HC1.out (HC2.out (by trivial)) 0 (by omega)] at hcl0; have hlt2 := hb2.lt; clear hb2 hg2 hA)) | (refine load_box rfl 173 16 _ rfl w1.heap.size rfl A hsA hgA _ Try.underlying173 rfl (by kernel_rfl) ?_) | (go_at_call 131; refine (HT2.out _).mono ?_; rintro e w3 ⟨rfl, y, rfl⟩; have hcl1 := (HB2.out.up (ext_below w2 y)).cell (c := 1) (by omega); rw [HCE.out c HC1.out (HC2.out (by trivial)) 1 (by omega), HCT.out] at hcl1; have hlt3 := (HB2.out.up (ext_below w2 y)).lt))
              go_ret
              exact ⟨rfl, HBF.out w0 w1 w2 y HB0.out HC3.out HG2.out⟩
            · rw [if_neg (show ¬ (true = true ∧ ((1:Nat) = 0 ∨ (1 = 1 ∧ ct = 1))) from fun hh => hc (hh.2.resolve_left (by simp)).2), if_neg (by simp)]
              have hc' : ((ct : Int) == 1) = false := by simp; omega
              clear hc
              go_enter Try.func116, Try.ntmps116
              go_wp2_with (first | (go_at_call 112; refine HCO.out.mono ?_; rintro e w0 ⟨v1, rfl, -, hb0⟩; have HB0 := Lib.hid hb0; clear hb0) | (go_at_call 130; refine (HWR.out _ HB0.out).mono ?_; rintro e w1 ⟨c, hc1, rfl, hc2, hc3⟩; have HC1 := Lib.hid hc1; have HC2 := Lib.hid hc2; have HC3 := Lib.hid hc3; clear hc1 hc2 hc3) | (refine store_box rfl 173 16 _ _ rfl w1.heap.size rfl (nls (List.replicate 16 0)) (nls c) rfl (by rw [nls_length]; exact HC1.out) (by kernel_rfl) (box16 w1 Z HZ.out) ?_; intro w2 hb2 hg2; (obtain ⟨A, hgA, hsA, hA⟩ := hb2.open; have HAE := Lib.hid (congrArg List.toArray hA); have HB2 := Lib.hid hb2; have HG2 := Lib.hid hg2; have HT2 := Lib.hid (HTP.out); rw [← HC2.out (by trivial), ← HAE.out] at HT2; have hcl0 := hb2.cell (c := 0) (by omega); rw [HCE.out c HC1.out (HC2.out (by trivial)) 0 (by omega)] at hcl0; have hlt2 := hb2.lt; clear hb2 hg2 hA)) | (refine load_box rfl 173 16 _ rfl w1.heap.size rfl A hsA hgA _ Try.underlying173 rfl (by kernel_rfl) ?_) | (go_at_call 131; refine (HT2.out _).mono ?_; rintro e w3 ⟨rfl, y, rfl⟩; have hcl1 := (HB2.out.up (ext_below w2 y)).cell (c := 1) (by omega); rw [HCE.out c HC1.out (HC2.out (by trivial)) 1 (by omega), HCT.out] at hcl1; have hlt3 := (HB2.out.up (ext_below w2 y)).lt))
              go_ret
              exact ⟨rfl, HBF.out w0 w1 w2 y HB0.out HC3.out HG2.out⟩
          · rw [if_neg (show ¬ (true = true ∧ (m = 0 ∨ (m = 1 ∧ ct = 1))) from fun hh => hh.2.elim h0 (fun q => h1 q.1)), if_neg h0]
            have h1' : ((m : Int) == 1) = false := by simp; omega
            clear h0 h1
            go_enter Try.func116, Try.ntmps116
            go_wp2_with (first | (go_at_call 112; refine HCO.out.mono ?_; rintro e w0 ⟨v1, rfl, -, hb0⟩; have HB0 := Lib.hid hb0; clear hb0) | (go_at_call 130; refine (HWR.out _ HB0.out).mono ?_; rintro e w1 ⟨c, hc1, rfl, hc2, hc3⟩; have HC1 := Lib.hid hc1; have HC2 := Lib.hid hc2; have HC3 := Lib.hid hc3; clear hc1 hc2 hc3) | (refine store_box rfl 173 16 _ _ rfl w1.heap.size rfl (nls (List.replicate 16 0)) (nls c) rfl (by rw [nls_length]; exact HC1.out) (by kernel_rfl) (box16 w1 Z HZ.out) ?_; intro w2 hb2 hg2; (obtain ⟨A, hgA, hsA, hA⟩ := hb2.open; have HAE := Lib.hid (congrArg List.toArray hA); have HB2 := Lib.hid hb2; have HG2 := Lib.hid hg2; have HT2 := Lib.hid (HTP.out); rw [← HC2.out (by trivial), ← HAE.out] at HT2; have hcl0 := hb2.cell (c := 0) (by omega); rw [HCE.out c HC1.out (HC2.out (by trivial)) 0 (by omega)] at hcl0; have hlt2 := hb2.lt; clear hb2 hg2 hA)) | (refine load_box rfl 173 16 _ rfl w1.heap.size rfl A hsA hgA _ Try.underlying173 rfl (by kernel_rfl) ?_) | (go_at_call 131; refine (HT2.out _).mono ?_; rintro e w3 ⟨rfl, y, rfl⟩; have hcl1 := (HB2.out.up (ext_below w2 y)).cell (c := 1) (by omega); rw [HCE.out c HC1.out (HC2.out (by trivial)) 1 (by omega), HCT.out] at hcl1; have hlt3 := (HB2.out.up (ext_below w2 y)).lt))
            go_ret
            exact ⟨rfl, HBF.out w0 w1 w2 y HB0.out HC3.out HG2.out⟩
  · rw [fitsE_bad lone hz]
    have hne : ((errI l : Nat) : Int) ≠ 0 := by omega
    generalize errI l = er at *
    obtain ⟨oa, cap, b, off, rfl, hd, hc⟩ := h.open
    clear hc hd h
    go_enter Try.func116, Try.ntmps116
    go_wp2_with (go_at_call 112; refine HCO.out.mono ?_; rintro e w1 ⟨v1, rfl, -, hb1⟩; have HB1 := Lib.hid hb1; clear hb1)
    go_ret
    exact ⟨rfl, HB1.out⟩
end Go.Cm

/- The reading of a block's head, in plain Lean, as steps over an error and a place. Conditions: none. -/
namespace Go.Cm

structure HeadN where
  fin : Bool
  kind : Nat
  size : Nat
  lits : List Nat
  dists : List Nat
def HeadN.zero : HeadN := ⟨false, 0, 0, [], []⟩
/-- the next bits, if nothing is wrong -/
def xb (N T n : Nat) (st : Nat × Nat) : Nat × (Nat × Nat) := if st.1 = 0 then ((bitsA N T st.2 n).1, (bitsA N T st.2 n).2.1, (bitsA N T st.2 n).2.2) else (0, st)
/-- what is wrong, if nothing was yet -/
def xf (e : Nat) (st : Nat × Nat) : Nat × Nat := if st.1 = 0 then (e, st.2) else st
def fixL : List Nat := List.replicate 144 8 ++ List.replicate 112 9 ++ List.replicate 24 7 ++ List.replicate 8 8
def fixD : List Nat := List.replicate 32 5
def ordN : List Nat := [16, 17, 18, 0, 8, 7, 9, 6, 10, 5, 11, 4, 12, 3, 13, 2, 14, 1, 15]
/-- the symbol that the next bits are -/
noncomputable def readF (L : List Nat) (V left : Nat) : Nat × Nat × Nat := @dite _ (∃ a, a < L.length ∧ hitN L V a ∧ L.getD a 0 ≤ left) (Classical.propDecidable _) (fun h => (Classical.choose h, 0, L.getD (Classical.choose h) 0)) (fun _ => (0, (if left < 15 then 2 else 9), 0))
/-- how often a symbol repeats, and what -/
def repN (N T sym : Nat) (l : List Nat) (st : Nat × Nat) : Nat × Nat × (Nat × Nat) :=
  if sym = 18 then (11 + (xb N T 7 st).1, 0, (xb N T 7 st).2)
  else if sym = 16 then (if l = [] then (0, 0, xf 4 st) else (3 + (xb N T 2 st).1, l.getD (l.length - 1) 0, (xb N T 2 st).2))
  else (3 + (xb N T 3 st).1, 0, (xb N T 3 st).2)
/-- lengths by a code of lengths -/
noncomputable def rowN (N T : Nat) (code : List Nat) (n : Nat) : Nat → List Nat → Nat × Nat → List Nat × (Nat × Nat)
  | 0, l, st => (l, st)
  | f + 1, l, st =>
    if st.1 = 0 ∧ l.length < n then
      if (readF code (N / 2 ^ st.2) (T - st.2)).2.1 ≠ 0 then (l, (readF code (N / 2 ^ st.2) (T - st.2)).2.1, st.2)
      else if (readF code (N / 2 ^ st.2) (T - st.2)).1 < 16 then rowN N T code n f (l ++ [(readF code (N / 2 ^ st.2) (T - st.2)).1]) (0, st.2 + (readF code (N / 2 ^ st.2) (T - st.2)).2.2)
      else if n < l.length + (repN N T (readF code (N / 2 ^ st.2) (T - st.2)).1 l (0, st.2 + (readF code (N / 2 ^ st.2) (T - st.2)).2.2)).1 then
        ([], xf 3 (repN N T (readF code (N / 2 ^ st.2) (T - st.2)).1 l (0, st.2 + (readF code (N / 2 ^ st.2) (T - st.2)).2.2)).2.2)
      else rowN N T code n f (l ++ List.replicate (repN N T (readF code (N / 2 ^ st.2) (T - st.2)).1 l (0, st.2 + (readF code (N / 2 ^ st.2) (T - st.2)).2.2)).1 (repN N T (readF code (N / 2 ^ st.2) (T - st.2)).1 l (0, st.2 + (readF code (N / 2 ^ st.2) (T - st.2)).2.2)).2.1)
        (repN N T (readF code (N / 2 ^ st.2) (T - st.2)).1 l (0, st.2 + (readF code (N / 2 ^ st.2) (T - st.2)).2.2)).2.2
    else (l, st)
def fits2 (lits dists : List Nat) : Nat := if lits.getD 256 0 = 0 then 21 else if fitsE (nls lits) true ≠ 0 then fitsE (nls lits) true else fitsE (nls dists) true
/-- the code of lengths: the first k of its lengths read -/
def codeK (N T c : Nat) : Nat → List Nat × (Nat × Nat) → List Nat × (Nat × Nat)
  | 0, x => x
  | k + 1, x => if k < 4 + c ∧ (codeK N T c k x).2.1 = 0 then ((codeK N T c k x).1.set (ordN.getD k 0) (xb N T 3 (codeK N T c k x).2).1, (xb N T 3 (codeK N T c k x).2).2) else codeK N T c k x
end Go.Cm

/- The source of a block: a reader and what went wrong with it; the walks of its small functions. Conditions: the source is there. -/
namespace Go.Cm
open Go.RowKit Go.Proofs

theorem Own.of_blk {w w' : World} {B E : Nat} {v : Value} {xs : List Value} (h : Own w B E v xs) (hb : ∀ k, v.ownBlock = some k → w'.heap[k]? = w.heap[k]?) : Own w' B E v xs := by
  refine ⟨⟨h.1.1, h.1.2.imp id ?_⟩, h.2⟩
  rintro ⟨g, cap, cur, rfl, h2, h3, h4⟩
  exact ⟨g, cap, cur, rfl, h2, by rw [hb g rfl]; exact h3, h4⟩
/-- only blocks of S were written to -/
structure Fx (S : Nat → Prop) (w w' : World) : Prop where
  os : w'.os = w.os
  tape : w'.tape = w.tape
  output : w'.output = w.output
  size : w.heap.size ≤ w'.heap.size
  block : ∀ k, k < w.heap.size → ¬ S k → w'.heap[k]? = w.heap[k]?
section
variable {S : Nat → Prop} {n : Nat} {w w1 w2 : World}
theorem Fx.refl (S : Nat → Prop) (w : World) : Fx S w w := ⟨rfl, rfl, rfl, Nat.le_refl _, fun _ _ _ => rfl⟩
theorem Fx.trans (h : Fx S w w1) (k : Fx S w1 w2) : Fx S w w2 := ⟨k.os.trans h.os, k.tape.trans h.tape, k.output.trans h.output, Nat.le_trans h.size k.size, fun i hi h1 => by rw [k.block i (Nat.lt_of_lt_of_le hi h.size) h1, h.block i hi h1]⟩
theorem Fx.mono {S' : Nat → Prop} (h : Fx S w w1) (hS : ∀ k, S k → S' k) : Fx S' w w1 := ⟨h.os, h.tape, h.output, h.size, fun k hk h1 => h.block k hk (fun e => h1 (hS k e))⟩
theorem fx_below (h : Below w.heap.size w w1) : Fx S w w1 := ⟨h.os, h.tape, h.output, h.size, fun k hk _ => h.block k hk⟩
theorem Fx.grown {row : Option Nat} (h : Fx S w w1) (hg : w1.grownBy w2 row) (hr : ∀ k, row = some k → S k ∨ w.heap.size ≤ k) : Fx S w w2 :=
  ⟨hg.os.trans h.os, hg.tape.trans h.tape, hg.output.trans h.output, Nat.le_trans h.size hg.size, fun k hk h1 => by
    rw [hg.block k (Nat.lt_of_lt_of_le hk h.size) (fun e => (hr k e.symm).elim h1 (fun z => by omega)), h.block k hk h1]⟩
/-- blocks that are new since n do not count -/
theorem Fx.below (h : Fx S w1 w2) (hb : Below n w w1) (hn : n ≤ w1.heap.size) (hS : ∀ k, S k → n ≤ k) : Below n w w2 := hb.trans ⟨h.os, h.tape, h.output, h.size, fun k hk => h.block k (by omega) (fun e => by have := hS k e; omega)⟩
theorem Fx.own {B E : Nat} {v : Value} {xs : List Value} (h : Fx S w w1) (ho : Own w B E v xs) (hv : ∀ k, v.ownBlock = some k → ¬ S k) : Own w1 B E v xs :=
  ho.of_blk fun k hk => h.block k (ho.lt k hk).2 (hv k hk)
theorem Fx.cell {b o : Nat} (h : Fx S w w1) (hb : b < w.heap.size) (hv : ¬ S b) : w1.cell? ⟨b, o, none⟩ = w.cell? ⟨b, o, none⟩ := World.cell?_of_block (w := w) (h.block b hb hv)
end

/-- the source in block q, of the reader in block g, with the error e -/
structure Src (w : World) (q g e : Nat) : Prop where
  own : Own w q 150 (.slice (some ⟨q, 0, none⟩) 2 2) [.pointer (some ⟨g, 0, none⟩), .int .i64 e]
section
variable {w : World} {q g e : Nat}
theorem Src.up {w' : World} (h : Src w q g e) (hb : Below w.heap.size w w') : Src w' q g e := ⟨h.own.up hb⟩
theorem Src.lt (h : Src w q g e) : q < w.heap.size := (h.own.lt q rfl).2
theorem Src.c0 (h : Src w q g e) : w.cell? ⟨q, 0, none⟩ = some (.pointer (some ⟨g, 0, none⟩)) := h.own.cell (by simp)
theorem Src.c1 (h : Src w q g e) : w.cell? ⟨q, 1, none⟩ = some (.int .i64 e) := h.own.cell (by simp)
theorem Src.free (h : Src w q g e) (c : Nat) : w.frozen? ⟨q, c, none⟩ = false := h.own.free c
theorem Src.set1 (h : Src w q g e) (r : Nat) : Src (w.setCell ⟨q, 1, none⟩ (.int .i64 r)) q g r ∧ w.grownBy (w.setCell ⟨q, 1, none⟩ (.int .i64 r)) (some q) := ⟨⟨(h.own.store 1 _).1⟩, (h.own.store 1 _).2⟩
theorem Src.keep {w' : World} {row : Option Nat} (h : Src w q g e) (hg : w.grownBy w' row) (hne : row ≠ some q) : Src w' q g e := ⟨h.own.keep hg (.inr (fun e => hne e.symm))⟩
end
/-- the source and its reader: what is wrong, and the place -/
structure SrcT (w : World) (q g : Nat) (s : ByteArray) (st : Nat × Nat) : Prop where
  src : Src w q g st.1
  box : BoxS w g s st.2
  ne : q ≠ g
  le : st.2 ≤ 8 * s.size
  err : st.1 ≤ 64
theorem SrcT.up {w w' : World} {q g : Nat} {s : ByteArray} {st : Nat × Nat} (h : SrcT w q g s st) (hb : Below w.heap.size w w') : SrcT w' q g s st := ⟨h.src.up hb, h.box.up hb, h.ne, h.le, h.err⟩
end Go.Cm

/- 'append(s, x...)', which leaves what stood there as it was; a world in which a row has grown behind its first cells. Conditions: none. -/
namespace Go.Cm
open Go.RowKit Go.Proofs

/-- a world in which the row in block b may have changed, but for its first n cells -/
noncomputable def kept (w : World) (b n : Nat) (x : World) : World := @ite _ (w.grownBy x (some b) ∧ ∀ o, o < n → x.cell? ⟨b, o, none⟩ = w.cell? ⟨b, o, none⟩) (Classical.propDecidable _) x w
theorem kept_grown (w : World) (b n : Nat) (x : World) : w.grownBy (kept w b n x) (some b) := by
  unfold kept; split
  · rename_i h; exact h.1
  · exact grown_refl w _
theorem ex_kept {w x : World} {b n : Nat} (h : w.grownBy x (some b)) (hc : ∀ o, o < n → x.cell? ⟨b, o, none⟩ = w.cell? ⟨b, o, none⟩) : ∃ y, x = kept w b n y := ⟨x, by unfold kept; rw [if_pos ⟨h, hc⟩]⟩
@[go_sem] theorem cell?_kept_other (w : World) (b n : Nat) (x : World) (k o : Nat) (h : k < w.heap.size) (hr : k ≠ b) : (kept w b n x).cell? ⟨k, o, none⟩ = w.cell? ⟨k, o, none⟩ := World.cell?_of_block ((kept_grown w b n x).block k h (fun e => hr (Option.some.inj e)))
@[go_sem] theorem frozen?_kept_other (w : World) (b n : Nat) (x : World) (k o : Nat) (h : k < w.heap.size) (hr : k ≠ b) : (kept w b n x).frozen? ⟨k, o, none⟩ = w.frozen? ⟨k, o, none⟩ := World.frozen?_of_block ((kept_grown w b n x).block k h (fun e => hr (Option.some.inj e)))
@[go_sem] theorem cell?_kept_same (w : World) (b n : Nat) (x : World) (o : Nat) (h : o < n) : (kept w b n x).cell? ⟨b, o, none⟩ = w.cell? ⟨b, o, none⟩ := by
  unfold kept; split
  · rename_i hh; exact hh.2 o h
  · rfl
theorem kept_below {w x : World} {b n : Nat} (h : Below w.heap.size w x) (hb : b < w.heap.size) : ∃ y, x = kept w b n y := ex_kept (grown_below h _) (fun o _ => h.cell (p := ⟨b, o, none⟩) hb)
/-- 'append(s, x...)' of one-cell elements: s is owned, x reads as a list. -/
theorem run_app2 {P : Program} (w : World) (B : Nat) (t ty E : TypeId) (z : Value) (bytes : Nat) (ht : P.underlying t = some (.slice E)) (hinf : (P.info? E).map (fun i => (i.zero, i.size, i.bytes)) = some (some z, 1, bytes)) (hz : z.cells.size = 1) (hby : bytes ≤ 24)
    (v : Value) (xs : List Value) (hown : Own w B E v xs) (xv : Value) (news : List Value) (hx : Sl w xv news) (h1 : ∀ u ∈ news, u.oneCell' = true) (hlen : xs.length + news.length ≤ 4294967296) (hB : B ≤ w.heap.size) :
    ∃ v' w', (Builtin.append_ #[t, t] ty #[v, xv]).run P w = .ok v' w' ∧ Own w' B E v' (xs ++ news) ∧ w.grownBy w' v.ownBlock ∧ (∀ k, v'.ownBlock = some k → v.ownBlock = some k ∨ w.heap.size ≤ k) ∧ (∀ g i, v.ownBlock = some g → i < xs.length → w'.cell? ⟨g, i, none⟩ = w.cell? ⟨g, i, none⟩) := by
  obtain ⟨i0, hi, hz0, hz1, hz2⟩ : ∃ i0, P.info? E = some i0 ∧ i0.zero = some z ∧ i0.size = 1 ∧ i0.bytes = bytes := by
    cases hq : P.info? E with
    | none => simp [hq] at hinf
    | some i0 => simp [hq] at hinf; exact ⟨i0, rfl, hinf.1, hinf.2.1, hinf.2.2⟩
  have hl1 : xs.length + news.length ≤ maxLen := by simp only [maxLen]; omega
  have hl2 : (xs.length + news.length) * bytes ≤ 140737488355328 := by
    have := Nat.mul_le_mul hlen hby; omega
  obtain ⟨oa, cx, b, off, rfl, hd, hc⟩ := hx
  have hlen' : xs.length + news.length ≤ 140737488351232 := by omega
  rcases hown with ⟨hrow, hsm⟩
  by_cases hn : news = []
  · subst hn
    refine ⟨v, w, ?_, ⟨by simpa using hrow, by simpa using hsm⟩, ⟨rfl, rfl, rfl, Nat.le_refl _, fun _ _ _ => rfl⟩, fun k hk => .inl hk, fun _ _ _ _ => rfl⟩
    rcases hrow.2 with ⟨rfl, hx0⟩ | ⟨g, cap, cur, rfl, _, _, hnc, _⟩
    · cases oa <;> simp [Builtin.append_, run_underlying ht, sizeOf, typeInfo, hi, Builtin.lenOf, Builtin.firstCells, loadCells, loadCellsFrom]
    · cases oa <;> simp [Builtin.append_, run_underlying ht, sizeOf, typeInfo, hi, Builtin.lenOf, Builtin.firstCells, loadCells, loadCellsFrom, hnc, storeCells]
  · have hpos : 0 < news.length := List.length_pos_iff.2 hn
    obtain rfl := hd.hat hpos
    have hnews : ∀ j u, news[j]? = some u → w.cell? ((⟨b, off, none⟩ : Addr).add j) = some u := fun j u hu => by
      have hj := (List.getElem?_eq_some_iff.1 hu).1
      rw [add_off, hc j hj]; simp [List.getD, hu]
    rcases hrow.2 with ⟨rfl, hx0⟩ | ⟨g, cap, cur, rfl, hbg, hg, hnc, hcm, hcs, htake⟩
    · obtain rfl : xs = [] := List.length_eq_zero_iff.1 hx0
      obtain ⟨v', w', hr, ho, hgr, -⟩ := run_append_own (P := P) w w.heap.size t ty E i0 z 1 bytes ht hi hz0 hz1 hz2 hz (by decide) (.slice none 0 0) 0 [] (World.ownsRow_nil _ _ _ _) ⟨b, off, none⟩ news.length cx news (by simp) hnews h1 (by simpa using hl1) (by simpa using hl2) (Nat.le_refl _)
      have hk := ho.lt
      refine ⟨v', w', hr, ⟨⟨by simp, ?_⟩, by simp only [List.nil_append]; omega⟩, hgr, fun k hk' => .inr (hk k hk').1, fun g i hg _ => by simp [Value.ownBlock] at hg⟩
      simp only [Nat.zero_add, List.nil_append] at ho
      rcases ho.2 with ⟨h1, h2⟩ | ⟨g, cap, cur, h1, h2, h3⟩
      · exact .inl ⟨h1, by simpa using h2⟩
      · exact .inr ⟨g, cap, cur, h1, by omega, by simpa using h3⟩
    · by_cases hroom : xs.length + news.length ≤ cap
      · obtain ⟨w', hr, ho, hgr⟩ := run_append_fits (P := P) w B t ty E i0 1 ht hi hz1 g xs.length cap xs ⟨hrow.1, .inr ⟨g, cap, cur, rfl, hbg, hg, hnc, hcm, hcs, htake⟩⟩ ⟨b, off, none⟩ news.length cx news (by simp) hnews h1 hroom
        have hown2 : Own w' B E (.slice (some ⟨g, 0, none⟩) (xs.length + news.length) cap) (xs ++ news) := ⟨by rw [List.length_append]; exact ho, by rw [List.length_append]; exact hlen'⟩
        have hown1 : Own w B E (.slice (some ⟨g, 0, none⟩) xs.length cap) xs := ⟨⟨hrow.1, .inr ⟨g, cap, cur, rfl, hbg, hg, hnc, hcm, hcs, htake⟩⟩, hsm⟩
        refine ⟨_, w', hr, hown2, hgr, fun k hk => .inl hk, fun g' i hg' hi' => ?_⟩
        obtain rfl : g = g' := by simpa [Value.ownBlock] using hg'
        rw [hown2.cell (by rw [List.length_append]; omega), hown1.cell hi']
        simp [List.getD, List.getElem?_append_left hi']
      · have holds : ∀ j u, xs[j]? = some u → w.cell? ((⟨g, 0, none⟩ : Addr).add j) = some u := World.ownsRow.cells (g := g) hrow rfl
        have hsmall : xs.length + news.length ≤ 9223372036854775807 := by omega
        have hr := run_append_grow (P := P) w t ty E i0 z ht hi hz0 ⟨g, 0, none⟩ xs.length cap xs (by rw [hz1]; exact hrow.1) holds ⟨b, off, none⟩ news.length cx news (by rw [hz1]; simp) hnews (by omega) (by omega) (growslice_fits (by omega) (by rw [hz2]; exact hl2))
        have hge := grownCap_ge w (xs.length + news.length) cap E
        have hcm' : grownCap w (xs.length + news.length) cap E ≤ maxLen := grownCap_le_maxLen w _ cap E hl1
        refine ⟨_, _, hr, ⟨⟨by simp, .inr ⟨w.heap.size, _, _, by rw [List.length_append], hB, heap_alloc_new w.drew _, by rw [List.length_append]; exact hge, hcm', ?_, ?_⟩⟩, by rw [List.length_append]; exact hlen'⟩, ⟨rfl, rfl, rfl, by simp, fun k hk _ => Below.heap_alloc w.drew _ k hk⟩, fun k hk => .inr (by simp [Value.ownBlock] at hk; omega), fun g' i hg' _ => ?_⟩
        · simp only [Array.size_append, List.size_toArray, size_zeroCells, hz]
          omega
        · simp only [Array.toList_append, List.append_assoc]
          rw [← List.append_assoc, Nat.mul_one]
          exact List.take_left
        · obtain rfl : g = g' := by simpa [Value.ownBlock] using hg'
          exact World.cell?_of_block (Below.heap_alloc w.drew _ g (Array.getElem?_eq_some_iff.1 hg).1)
theorem wpList_app2 {P : Program} {ops : Array Oper} {rest : List Oper} {o : Oper} {a : Act} {w : World} {Q : Exit → Act → World → Prop} (hgd : o.guard = none) (s x : Operand) (t : TypeId)
    (ho : o.op = .call { callee := .builtin .append, args := #[s, x], argTypes := #[t, t] })
    (B E : TypeId) (z : Value) (bytes : Nat) (ht : P.underlying t = some (.slice E)) (hinf : (P.info? E).map (fun i => (i.zero, i.size, i.bytes)) = some (some z, 1, bytes)) (hz : z.cells.size = 1) (hby : bytes ≤ 24)
    (v : Value) (xs : List Value) (hs : a.eval s = v) (hown : Own w B E v xs) (xv : Value) (news : List Value) (hxe : a.eval x = xv) (hx : Sl w xv news) (h1 : ∀ u ∈ news, u.oneCell' = true) (hlen : xs.length + news.length ≤ 4294967296) (hB : B ≤ w.heap.size)
    (h : ∀ v' w', Own w' B E v' (xs ++ news) → w.grownBy w' v.ownBlock → (∀ k, v'.ownBlock = some k → v.ownBlock = some k ∨ w.heap.size ≤ k) → (∀ g i, v.ownBlock = some g → i < xs.length → w'.cell? ⟨g, i, none⟩ = w.cell? ⟨g, i, none⟩) → wpList P ops Q rest (a.put o.dst v') w') : wpList P ops Q (o :: rest) a w := by
  obtain ⟨v', w', hr, h2, h3, h4, h5⟩ := run_app2 (P := P) w B t o.type E z bytes ht hinf hz hby v xs hown xv news hx h1 hlen hB
  refine wpList_plain hgd fun K hK => ?_
  unfold Oper.wp execOp
  simp only [ho, resolve, invoke, builtin, Sem.run_bind, Sem.run_pure, Result.andThen_ok, List.map_toArray, List.map_cons, List.map_nil, hs, hxe, hr]
  exact hK _ _ (h v' w' h2 h3 h4 h5)
end Go.Cm
