/- The walk of the bit writer's text. Conditions: none. -/
import Derived.Test.YtfeglklggadndaaBitQ
import Derived.Test.YtfeglklggadndaaByt
namespace Go.Cm
open Go.RowKit Go.Proofs

def wholeN (N k : Nat) : List UInt8 := (List.range k).map fun i => UInt8.ofNat (byteAt N i)
theorem bytesV_wholeN (N k : Nat) : bytesV (wholeN N k) = bytesN N k := by
  unfold bytesV wholeN bytesN
  rw [List.map_map]
  refine List.map_congr_left fun i _ => ?_
  simp only [Function.comp, UInt8.toNat_ofNat']
  rw [Nat.mod_eq_of_lt (byteAt_lt N i)]
theorem textP {w : World} {B g N L : Nat} (h : WrtP w B g N L) (hL : L ≤ 34359738368) : Calls Try.prog 12 #[.pointer (some ⟨g, 0, none⟩)] w fun e w' => e = .returned (.string ⟨(textN N L).toArray⟩) ∧ ∃ x, w' = ext w x := by
  obtain ⟨⟨vb, hbox, hown, hne⟩, hge, hlt⟩ := h
  have HB := Lib.hid hbox
  have c1 := hbox.c1
  have c2 := hbox.c2
  have c3 := hbox.c3
  have hg := hbox.lt
  have hsl := hown.sl
  rw [← bytesV_wholeN] at hsl
  have hcv := run_bytes_string (P := Try.prog) w 27 9 5 Try.underlying27 Try.underlying5 Try.underlying9 vb _ hsl
  clear hbox hown hsl
  by_cases h0 : L % 8 = 0
  · go_enter Try.func12, Try.ntmps12
    go_wp2_with (go_at_call 27; refine (thereP HB.out).mono ?_; rintro e w' ⟨rfl, hw'⟩; rw [hw']; clear hw')
    go_ret
    have e : textN N L = wholeN N (L / 8) := by unfold textN wholeN; rw [show (L + 7) / 8 = L / 8 by omega]
    rw [e]
    exact ⟨rfl, refl_ext _⟩
  · have hp : (0 : Int) < (L : Int) % 8 := by omega
    have hsl2 := sl_lit w #[.int .u8 ((byteAt N (L / 8) : Nat) : Int)] 5 (by simp)
    have hb1 : (#[Value.int .u8 ((byteAt N (L / 8) : Nat) : Int)]).toList = bytesV [UInt8.ofNat (byteAt N (L / 8))] := by
      simp [bytesV, Nat.mod_eq_of_lt (byteAt_lt N (L / 8))]
    rw [hb1] at hsl2
    have hcv2 := run_bytes_string (P := Try.prog) _ 27 9 5 Try.underlying27 Try.underlying5 Try.underlying9 _ _ hsl2
    have hby : ((N / 256 ^ (L / 8) : Nat) : Int) % 256 = (byteAt N (L / 8) : Nat) := by unfold byteAt; exact (Int.natCast_emod _ _).symm
    have e : textN N L = wholeN N (L / 8) ++ [UInt8.ofNat (byteAt N (L / 8))] := by unfold textN wholeN; rw [show (L + 7) / 8 = L / 8 + 1 by omega, List.range_succ, List.map_append]; rfl
    generalize N / 256 ^ (L / 8) = r at *
    generalize byteAt N (L / 8) = y at *
    change (convert 27 9 (.slice (some ⟨w.heap.size, 0, none⟩) 1 1)).run Try.prog _ = _ at hcv2
    rw [← hby] at hcv2
    clear hsl2 hb1 hby
    have hlen : ¬ 9223372036854775807 < (wholeN N (L / 8)).length + 1 := by simp [wholeN]; omega
    go_enter Try.func12, Try.ntmps12
    go_wp2_with (go_at_call 27; refine (thereP HB.out).mono ?_; rintro e w' ⟨rfl, hw'⟩; rw [hw']; clear hw')
    go_ret
    have e2 : (⟨(wholeN N (L / 8)).toArray⟩ : ByteArray) ++ ⟨#[UInt8.ofNat y]⟩ = ⟨(textN N L).toArray⟩ := by
      rw [e]; apply ByteArray.ext; simp
    refine ⟨?_, (ex_ext (by repeat (first | exact Below.refl _ _ | assumption | refine b_drewN ?_ _ | refine Below.drew ?_ | refine b_ext' ?_ _ | refine b_alloc' ?_ _)))⟩
    rw [← e2]; rfl
end Go.Cm
