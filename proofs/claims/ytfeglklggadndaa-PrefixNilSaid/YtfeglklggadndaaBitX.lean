/- The walk of the document's writer's text. Conditions: none. -/
import Derived.Test.YtfeglklggadndaaBitR
import Derived.Test.YtfeglklggadndaaBitT
namespace Go.Cm
open Go.RowKit Go.Proofs

def partB (N k : Nat) : List Value := bytesN (N % 2 ^ k) ((k + 7) / 8)
theorem mod_succ (N k : Nat) : N % 2 ^ (k + 1) = N % 2 ^ k + (N.testBit k).toNat * 2 ^ k := by
  rw [Nat.mod_pow_succ, Nat.testBit_eq_decide_div_mod_eq, Nat.mul_comm]
  by_cases h : N / 2 ^ k % 2 = 1
  · simp [h]
  · have : N / 2 ^ k % 2 = 0 := by omega
    simp [this]
theorem byteAt_zero {M k : Nat} (h : M < 2 ^ k) (h8 : k % 8 = 0) : byteAt M (k / 8) = 0 := by
  unfold byteAt
  have := rest_lt M k h
  rw [h8, Nat.pow_zero] at this
  have h0 : M / 256 ^ (k / 8) = 0 := by generalize M / 256 ^ (k / 8) = q at *; omega
  rw [h0]
theorem partB_new (N k : Nat) (h8 : k % 8 = 0) : partB N k ++ [.int .u8 0] = bytesN (N % 2 ^ k) (k / 8 + 1) := by
  unfold partB
  rw [show (k + 7) / 8 = k / 8 by omega, bytesN_succ, byteAt_zero (Nat.mod_lt _ (Nat.pow_pos (by decide))) h8]; rfl
theorem partB_old (N k : Nat) (h8 : k % 8 ≠ 0) : partB N k = bytesN (N % 2 ^ k) (k / 8 + 1) := by
  unfold partB
  rw [show (k + 7) / 8 = k / 8 + 1 by omega]
theorem byte_add (N k : Nat) : byteAt (N % 2 ^ (k + 1)) (k / 8) = byteAt (N % 2 ^ k) (k / 8) + (N.testBit k).toNat * 2 ^ (k % 8) ∧ byteAt (N % 2 ^ k) (k / 8) < 2 ^ (k % 8) := by
  have hlt : N % 2 ^ k < 2 ^ k := Nat.mod_lt _ (Nat.pow_pos (by decide))
  have h1 := rest_lt _ k hlt
  have h8 : 2 ^ (k % 8) ≤ 2 ^ 7 := Nat.pow_le_pow_right (by decide) (by omega)
  have hb : (N.testBit k).toNat ≤ 1 := by cases N.testBit k <;> simp
  have h2 : (N.testBit k).toNat * 2 ^ (k % 8) ≤ 2 ^ (k % 8) := by
    have := Nat.mul_le_mul_right (2 ^ (k % 8)) hb; omega
  unfold byteAt
  rw [mod_succ, rest_add]
  rw [Nat.mod_eq_of_lt (show N % 2 ^ k / 256 ^ (k / 8) < 256 by omega), Nat.mod_eq_of_lt (by omega)]
  exact ⟨rfl, h1⟩
theorem partB_set (N k : Nat) : (bytesN (N % 2 ^ k) (k / 8 + 1)).set (k / 8) (.int .u8 ((byteAt (N % 2 ^ k) (k / 8) + (N.testBit k).toNat * 2 ^ (k % 8) : Nat) : Int)) = partB N (k + 1) := by
  unfold partB
  rw [show (k + 1 + 7) / 8 = k / 8 + 1 by omega, ← (byte_add N k).1]
  refine List.ext_getElem (by simp [bytesN]) fun j h1 h2 => ?_
  rw [List.getElem_set]
  simp only [bytesN, List.getElem_map, List.getElem_range]
  by_cases h : k / 8 = j
  · subst h; rw [if_pos rfl]
  · rw [if_neg h, mod_succ, byteAt_add _ _ _ _ (by simp [bytesN] at h2; omega)]
theorem bytesN_getD (N k j : Nat) (h : j < k) : (bytesN N k).getD j undef = .int .u8 (byteAt N j : Nat) := by simp [bytesN, List.getD, h]
theorem bitsN_getD (N k j : Nat) (h : j < k) : (bitsN N k).getD j undef = .int .u8 ((N.testBit j).toNat : Nat) := by simp [bitsN, List.getD, h]
theorem partB_text {N L : Nat} (h : N < 2 ^ L) : partB N L = bytesV (textN N L) := by
  unfold partB textN
  rw [Nat.mod_eq_of_lt h]
  exact (bytesV_wholeN N _).symm

set_option maxRecDepth 100000 in
theorem textR {w : World} {B g N L : Nat} (h : WrtR w B g N L) (hL : L ≤ 2147483648) : Calls Try.prog 13 #[.pointer (some ⟨g, 0, none⟩)] w fun e w' => e = .returned (.string ⟨(textN N L).toArray⟩) ∧ Below w.heap.size w w' := by
  obtain ⟨⟨vb, hbox, hown, hne⟩, hge, hlt⟩ := h
  have c0 : w.cell? ⟨g, 0, none⟩ = some vb := hbox.cell (by simp)
  have hg := hbox.blk.2
  obtain ⟨ob, cb, gb, rfl, hdb, -, hcb, -⟩ := hown.cases
  rw [bitsN_length] at hdb hcb c0
  have hixb := index_any (P := Try.prog) 27 5 Try.underlying27 (by kernel_rfl) hdb
  have hbk := hdb.hblk
  have HCB : Hid (∀ i, i < L → w.cell? ⟨gb, i, none⟩ = some (.int .u8 ((N.testBit i).toNat : Nat))) := Lib.hid (fun i hi => by rw [hcb i hi, bitsN_getD N L i hi])
  have HPT := Lib.hid (partB_text hlt)
  clear hcb hdb hbox hown hne hlt
  go_enter Try.func13, Try.ntmps13
  go_wp2
  go_loopg [3, 4] (L + 1) (fun gk vo i wr => ∃ k : Nat, k ≤ L ∧ i = .int .i64 k ∧ Own wr w.heap.size 5 vo (partB N k) ∧ Below w.heap.size w wr ∧ gk = L + 1 - k)
  case atStart => exact ⟨0, Nat.zero_le _, rfl, Own.nil _ _ _, Below.refl _ _, rfl⟩
  case round =>
    obtain ⟨k, hk, rfl, hown, hbel, rfl⟩ := hrel
    have HO := Lib.hid hown
    have HE := Lib.hid hbel
    have hsz := hbel.size
    have c0w := (hbel.cell (p := ⟨g, 0, none⟩) hg).trans c0
    have hgw : g < wr.heap.size := by omega
    clear hown hbel
    by_cases hlt : k < L
    · have hcell := (HE.out.cell (p := ⟨gb, k, none⟩) (hbk (by omega))).trans (HCB.out k hlt)
      have HCB0 := Lib.hid (HCB.out k hlt)
      have hgb : gb < wr.heap.size := by have := hbk (by omega); omega
      have HS := Lib.hid (partB_set N k)
      have HBA := Lib.hid (byte_add N k).2
      have hb : (N.testBit k).toNat ≤ 1 := by cases N.testBit k <;> simp
      generalize (N.testBit k).toNat = b at *
      by_cases h8 : k % 8 = 0
      · have hpn := partB_new N k h8
        have h8i : ((k : Int) % 8 == 0) = true := by simp; omega
        have hlW := Lib.hid (below_alloc wr (.cells #[.int .u8 0] 5))
        have HX : Hid (Sl (wr.alloc (.cells #[.int .u8 0] 5)) (.slice (some ⟨wr.heap.size, 0, none⟩) 1 1) [.int .u8 0]) := Lib.hid (by simpa using sl_lit wr #[.int .u8 0] 5 (by simp))
        have HT1 := Lib.hid (HO.out.up hlW.out)
        have HT2 : Hid (∀ u ∈ [Value.int .u8 0], u.oneCell' = true) := Lib.hid (by intro u hu; simp at hu; subst hu; rfl)
        have HT3 : Hid ((partB N k).length + 1 ≤ 4294967296) := Lib.hid (by unfold partB; rw [bytesN_length]; omega)
        have HT4 : Hid (w.heap.size ≤ (wr.alloc (.cells #[.int .u8 0] 5)).heap.size) := Lib.hid (Nat.le_trans hsz hlW.out.size)
        have HPN := Lib.hid hpn
        clear hpn
        go_wp2_with (at_builtin; refine wpList_app rfl (.tmp 17) (.tmp 18) 27 rfl w.heap.size 5 (.int .u8 0) 1 Try.underlying27 (by kernel_rfl) rfl (by decide) u3 (partB N k) rfl HT1.out (.slice (some ⟨wr.heap.size, 0, none⟩) 1 1) [.int .u8 0] rfl HX.out HT2.out HT3.out HT4.out ?_; intro v' w5 hown1 hg1 hk1; have HO1 := Lib.hid hown1; have HG1 := Lib.hid hg1; clear hown1 hg1 hk1)
        have HE2 : Hid (Below w.heap.size w w5) := Lib.hid (below_grown (HE.out.trans (hlW.out.mono hsz)) HT4.out HT1.out HG1.out)
        have HO2 : Hid (Own w5 w.heap.size 5 v' (bytesN (N % 2 ^ k) (k / 8 + 1))) := Lib.hid (by rw [← HPN.out]; exact HO1.out)
        have hcell5 := (HE2.out.cell (p := ⟨gb, k, none⟩) (hbk (by omega))).trans (HCB0.out)
        have c05 := (HE2.out.cell (p := ⟨g, 0, none⟩) hg).trans c0
        have hsz5 := HE2.out.size
        have hg5 : g < w5.heap.size := by omega
        have hgb5 : gb < w5.heap.size := by have := hbk (by omega); omega
        clear hcell c0w HO HE HO1 HG1 HT1 HX hsz hgw hgb HT2 HT3 HT4 hlW HPN
        obtain ⟨oo, co, go, rfl, hdo, hgo, hco, hfo, hst⟩ := HO2.out.cases
        rw [bytesN_length] at hdo hgo hco hfo hst ⊢
        have hixo := index_any (P := Try.prog) 27 5 Try.underlying27 (by kernel_rfl) hdo
        have hco8 := hco (k / 8) (by omega)
        rw [bytesN_getD _ _ _ (by omega)] at hco8
        have hfo8 := hfo (k / 8) (by omega)
        have hgo8 := hdo.hblk (by omega)
        generalize byteAt (N % 2 ^ k) (k / 8) = y at *
        have HST := Lib.hid (hst (k / 8) (.int .u8 ((y + b * 2 ^ (k % 8) : Nat) : Int)) (by omega))
        have HGO := Lib.hid (hgo (by omega))
        clear hdo hgo hco hfo hst
        have hqi : (k : Int) / 8 = ((k / 8 : Nat) : Int) := by omega
        have hmi : (k : Int) % 8 = ((k % 8 : Nat) : Int) := by omega
        have hix8 := fun W => hixo W .i64 ((k / 8 : Nat) : Int) (by omega) (by omega)
        rw [show 0 + ((k / 8 : Nat) : Int).toNat = k / 8 by omega] at hix8
        have hm8 : k % 8 < 8 := by omega
        generalize k / 8 = q at *
        generalize hmm : k % 8 = m at *
        clear hixo
        have HV : Hid (((y + b * 2 ^ m : Nat) : Int) = ((y : Int) + (b : Int) * 2 ^ m) % 256) := Lib.hid (by
          have h1 : 2 ^ m ≤ 2 ^ 7 := Nat.pow_le_pow_right (by decide) (by omega)
          have h2 : b * 2 ^ m ≤ 1 * 2 ^ m := Nat.mul_le_mul_right _ hb
          have h3 := HBA.out
          have h4 : (b : Int) * 2 ^ m = ((b * 2 ^ m : Nat) : Int) := by norm_cast
          rw [h4]
          generalize b * 2 ^ m = z at *
          omega)
        refine wp_region_tailg [0,1,2,3,4,5,6,7,8,9,10,11,12,13,14,15,16,17,18,19,20] [] [21] (by kernel_rfl) (by kernel_rfl) ?_
        simp only [pick, List.map_cons, List.map_nil, List.getD_cons_zero, List.getD_cons_succ]
        repeat (go_big_quiet_step (fail))
        refine wpQuiet_nil ?_
        unfold wpAct
        unfold wpAct
        go_wp2
        refine ⟨trivial, ?_⟩
        unfold wpAct
        go_wp2
        go_roundg (L + 1 - (k + 1))
        case measure => omega
        case rel =>
          refine ⟨k + 1, by omega, by go_num, ?_, ?_, rfl⟩
          · have h5 := HST.out.1.up (below_drewN _ 1)
            rw [← World.drew_is_drewN, HS.out, HV.out] at h5
            rw [h8, Int.pow_zero, Int.mul_one] at h5
            exact h5
          · have h5 := (HE2.out.grown HST.out.2 HE2.out.size (fun k hk => by cases hk; exact HGO.out.2)).trans ((below_drewN _ 1).mono (Nat.le_trans HE2.out.size HST.out.2.size))
            rw [← World.drew_is_drewN, HV.out] at h5
            rw [h8, Int.pow_zero, Int.mul_one] at h5
            exact h5
      · have h8i : ((k : Int) % 8 == 0) = false := by simp; omega
        have hpo := partB_old N k h8
        rw [hpo] at HO
        clear hpo
        obtain ⟨oo, co, go, rfl, hdo, hgo, hco, hfo, hst⟩ := HO.out.cases
        rw [bytesN_length] at hdo hgo hco hfo hst ⊢
        have hixo := index_any (P := Try.prog) 27 5 Try.underlying27 (by kernel_rfl) hdo
        have hco8 := hco (k / 8) (by omega)
        rw [bytesN_getD _ _ _ (by omega)] at hco8
        have hfo8 := hfo (k / 8) (by omega)
        have hgo8 := hdo.hblk (by omega)
        generalize byteAt (N % 2 ^ k) (k / 8) = y at *
        have HST := Lib.hid (hst (k / 8) (.int .u8 ((y + b * 2 ^ (k % 8) : Nat) : Int)) (by omega))
        have HGO := Lib.hid (hgo (by omega))
        clear hdo hgo hco hfo hst
        have hqi : (k : Int) / 8 = ((k / 8 : Nat) : Int) := by omega
        have hmi : (k : Int) % 8 = ((k % 8 : Nat) : Int) := by omega
        have hix8 := fun W => hixo W .i64 ((k / 8 : Nat) : Int) (by omega) (by omega)
        rw [show 0 + ((k / 8 : Nat) : Int).toNat = k / 8 by omega] at hix8
        have hm8 : k % 8 < 8 := by omega
        generalize k / 8 = q at *
        generalize hmm : k % 8 = m at *
        clear hixo
        have HV : Hid (((y + b * 2 ^ m : Nat) : Int) = ((y : Int) + (b : Int) * 2 ^ m) % 256) := Lib.hid (by
          have h1 : 2 ^ m ≤ 2 ^ 7 := Nat.pow_le_pow_right (by decide) (by omega)
          have h2 : b * 2 ^ m ≤ 1 * 2 ^ m := Nat.mul_le_mul_right _ hb
          have h3 := HBA.out
          have h4 : (b : Int) * 2 ^ m = ((b * 2 ^ m : Nat) : Int) := by norm_cast
          rw [h4]
          generalize b * 2 ^ m = z at *
          omega)
        go_wp2
        refine wp_region_tailg [0,1,2,3,4,5,6,7,8,9,10,11,12,13,14,15,16,17,18,19,20] [] [21] (by kernel_rfl) (by kernel_rfl) ?_
        simp only [pick, List.map_cons, List.map_nil, List.getD_cons_zero, List.getD_cons_succ]
        repeat (go_big_quiet_step (fail))
        refine wpQuiet_nil ?_
        unfold wpAct
        unfold wpAct
        go_wp2
        refine ⟨trivial, ?_⟩
        unfold wpAct
        go_wp2
        go_roundg (L + 1 - (k + 1))
        case measure => omega
        case rel =>
          refine ⟨k + 1, by omega, by go_num, ?_, ?_, rfl⟩
          · have h5 := HST.out.1.up (below_drewN _ 1)
            rw [← World.drew_is_drewN, HS.out, HV.out] at h5
            exact h5
          · have h5 := (HE.out.grown HST.out.2 hsz (fun k hk => by cases hk; exact HGO.out.2)).trans ((below_drewN _ 1).mono (Nat.le_trans hsz HST.out.2.size))
            rw [← World.drew_is_drewN, HV.out] at h5
            exact h5
    · obtain rfl : k = L := by omega
      rw [HPT.out] at HO
      have hcv := run_bytes_string (P := Try.prog) wr 27 9 5 Try.underlying27 Try.underlying5 Try.underlying9 _ _ HO.out.sl
      go_wp2
      go_ret
      exact ⟨rfl, HE.out⟩
end Go.Cm
