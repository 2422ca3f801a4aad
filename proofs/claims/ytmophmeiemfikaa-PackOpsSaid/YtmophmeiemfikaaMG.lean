/- Texts of this claim, joined: walks of small functions and plain facts about them. Conditions: as each says. -/
import Derived.Test.YtmophmeiemfikaaMF
import Derived.Test.YtmophmeiemfikaaRows
import Derived.WalkKit
import Derived.WalkSpells
import Derived.WalkLawsBesides
import Derived.Deep.QuietTactic
import Derived.BigQuiet
import Derived.Lib.Hide
import Derived.Deep.LoopGhost
import Derived.Laws.BitsLemmas
import Derived.Laws.Small
import Derived.Deep.DeepCutAuto
import Derived.Deep.CutBlock
import Derived.Deep.CutRange
import Derived.Laws.IdiomStrings
/- Parts as blocks, in plain Lean: the bits, their number, what is wrong. Conditions: as each says. -/
namespace Go.Cm
open Go.RowKit Go.Proofs

/-- a part's block, behind bits -/
def encP (n i : Nat) (p : PtN) (st : Nat × Nat) : Nat × Nat × Nat :=
  if mayI p.kind p.text.size p.lits p.dists ≠ 0 then (mayI p.kind p.text.size p.lits p.dists, st)
  else if p.kind = 0 then (0, bytS (bys p.text) (alignW (wrI (decide (i + 1 = n)) p.kind p.text.size p.lits p.dists st)))
  else cAll (litsN p) (distsN p) p.ops (wrI (decide (i + 1 = n)) p.kind p.text.size p.lits p.dists st)
/-- .. so many parts' -/
def encK (l : List PtN) : Nat → Nat × Nat × Nat
  | 0 => (0, 0, 0)
  | k + 1 => if (encK l k).1 ≠ 0 then encK l k else encP l.length k (l.getD k zPt) (encK l k).2
theorem encK_next {l : List PtN} {k : Nat} (h : (encK l k).1 = 0) : encK l (k + 1) = encP l.length k (l.getD k zPt) (encK l k).2 := by
  show (if (encK l k).1 ≠ 0 then encK l k else _) = _
  rw [if_neg (by omega)]
theorem encK_stop {l : List PtN} {k : Nat} (h : (encK l k).1 ≠ 0) : ∀ m, encK l (k + m) = encK l k
  | 0 => rfl
  | m + 1 => by
    show (if (encK l (k + m)).1 ≠ 0 then encK l (k + m) else _) = _
    rw [encK_stop h m, if_pos h]
/-- the bytes of all blocks, or what is wrong -/
def encR (l : List PtN) : Nat × Byts :=
  if (textOf 10 17 l).1 ≠ 0 then ((textOf 10 17 l).1, [])
  else if (encK l l.length).1 ≠ 0 then ((encK l l.length).1, [])
  else (0, textN (encK l l.length).2.1 (encK l l.length).2.2)
/-- parts that are not too long -/
structure PtSm (p : PtN) : Prop where
  ops : p.ops.length ≤ 1000000
  text : p.text.size ≤ 1000000
theorem wrI_add {f : Bool} {k z : Int} {l1 l2 : List Int} {st : Nat × Nat} (hm : mayI k z l1 l2 = 0) : (wrI f k z l1 l2 st).2 ≤ st.2 + 1400 := by
  unfold wrI
  by_cases k0 : k = 0
  · rw [if_pos k0, putS_len]
    have h1 := putS_len [(finN f, 1), (0, 2)] st
    have e : (alignW (putS [(finN f, 1), (0, 2)] st)).2 = alignN (putS [(finN f, 1), (0, 2)] st).2 := rfl
    rw [e, h1]
    simp only [List.map_cons, List.map_nil, List.sum_cons, List.sum_nil]
    unfold alignN
    omega
  · rw [if_neg k0]
    by_cases k1 : k = 1
    · rw [if_pos k1, putS_len]
      simp only [List.map_cons, List.map_nil, List.sum_cons, List.sum_nil]
      omega
    · rw [if_neg k1]
      have hk : k = 2 := by
        unfold mayI at hm
        rw [if_neg k0, if_neg k1] at hm
        apply Classical.byContradiction; intro hn
        rw [if_neg hn] at hm
        cases hm
      subst hk
      obtain ⟨m1, m2, m3, m4, -⟩ := mayI_dyn hm
      unfold dynS
      rw [putS_append, putS_append, putS_append, codS_len, codS_len, putS_len ordS, putS_len (lenS _ _), putS_len [(finN f, 1), (2, 2)]]
      have e1 : (ordS.map Prod.snd).sum = 57 := by decide
      rw [e1]
      unfold lenS
      simp only [List.map_cons, List.map_nil, List.sum_cons, List.sum_nil, List.length_map]
      omega
theorem encP_len (n i : Nat) (p : PtN) (st : Nat × Nat) : (encP n i p st).2.2 ≤ st.2 + 1500 + 8 * p.text.size + 48 * p.ops.length := by
  unfold encP
  by_cases hm : mayI p.kind p.text.size p.lits p.dists ≠ 0
  · rw [if_pos hm]; simp only; omega
  · rw [if_neg hm]
    have hw := wrI_add (f := decide (i + 1 = n)) (st := st) (show mayI p.kind p.text.size p.lits p.dists = 0 by omega)
    generalize wrI (decide (i + 1 = n)) p.kind p.text.size p.lits p.dists st = s1 at *
    by_cases hk : p.kind = 0
    · rw [if_pos hk]
      simp only [bytS_len, bys_len]
      unfold alignW alignN
      simp only
      omega
    · rw [if_neg hk]
      unfold cAll
      have h1 := (cOps_len (litsN p) (distsN p) p.ops (0, s1)).2
      have h2 := (cPut_len (litsN p) 256 0 0 (cOps (litsN p) (distsN p) p.ops (0, s1))).2
      simp only at h1
      omega
theorem encK_len {l : List PtN} {M : Nat} (h : ∀ p ∈ l, 1500 + 8 * p.text.size + 48 * p.ops.length ≤ M) : ∀ k, k ≤ l.length → (encK l k).2.2 ≤ k * M
  | 0, _ => Nat.zero_le _
  | k + 1, hk => by
    have ih := encK_len h k (by omega)
    show (if (encK l k).1 ≠ 0 then encK l k else encP l.length k (l.getD k zPt) (encK l k).2).2.2 ≤ _
    rw [Nat.succ_mul]
    split
    · omega
    · have h1 := encP_len l.length k (l.getD k zPt) (encK l k).2
      have h2 : l.getD k zPt = l[k] := by simp [List.getD, show k < l.length by omega]
      have h3 := h _ (List.getElem_mem (show k < l.length by omega))
      rw [h2] at h1 ⊢
      omega
end Go.Cm

/- The walk of the document's writer's text. Conditions: none. -/
namespace Go.Cm
open Go.RowKit Go.Proofs

def partB (N k : Nat) : List Value := bytesN (N % 2 ^ k) ((k + 7) / 8)
theorem mod_succ (N k : Nat) : N % 2 ^ (k + 1) = N % 2 ^ k + (N.testBit k).toNat * 2 ^ k := by
  rw [Nat.mod_pow_succ, Nat.testBit_eq_decide_div_mod_eq, Nat.mul_comm]
  by_cases h : N / 2 ^ k % 2 = 1
  · simp [h]
  · have : N / 2 ^ k % 2 = 0 := by omega
    simp [this]
theorem byteAt_zero {M k : Nat} (h : M < 2 ^ k) (h8 : k % 8 = 0) : byteAt M (k / 8) = 0 := by
  unfold byteAt
  have := rest_lt M k h
  rw [h8, Nat.pow_zero] at this
  have h0 : M / 256 ^ (k / 8) = 0 := by generalize M / 256 ^ (k / 8) = q at *; omega
  rw [h0]
theorem partB_new (N k : Nat) (h8 : k % 8 = 0) : partB N k ++ [.int .u8 0] = bytesN (N % 2 ^ k) (k / 8 + 1) := by
  unfold partB
  rw [show (k + 7) / 8 = k / 8 by omega, bytesN_succ, byteAt_zero (Nat.mod_lt _ (Nat.pow_pos (by decide))) h8]; rfl
theorem partB_old (N k : Nat) (h8 : k % 8 ≠ 0) : partB N k = bytesN (N % 2 ^ k) (k / 8 + 1) := by
  unfold partB
  rw [show (k + 7) / 8 = k / 8 + 1 by omega]
theorem byte_add (N k : Nat) : byteAt (N % 2 ^ (k + 1)) (k / 8) = byteAt (N % 2 ^ k) (k / 8) + (N.testBit k).toNat * 2 ^ (k % 8) ∧ byteAt (N % 2 ^ k) (k / 8) < 2 ^ (k % 8) := by
  have hlt : N % 2 ^ k < 2 ^ k := Nat.mod_lt _ (Nat.pow_pos (by decide))
  have h1 := rest_lt _ k hlt
  have h8 : 2 ^ (k % 8) ≤ 2 ^ 7 := Nat.pow_le_pow_right (by decide) (by omega)
  have hb : (N.testBit k).toNat ≤ 1 := by cases N.testBit k <;> simp
  have h2 : (N.testBit k).toNat * 2 ^ (k % 8) ≤ 2 ^ (k % 8) := by
    have := Nat.mul_le_mul_right (2 ^ (k % 8)) hb; omega
  unfold byteAt
  rw [mod_succ, rest_add]
  rw [Nat.mod_eq_of_lt (show N % 2 ^ k / 256 ^ (k / 8) < 256 by omega), Nat.mod_eq_of_lt (by omega)]
  exact ⟨rfl, h1⟩
theorem partB_set (N k : Nat) : (bytesN (N % 2 ^ k) (k / 8 + 1)).set (k / 8) (.int .u8 ((byteAt (N % 2 ^ k) (k / 8) + (N.testBit k).toNat * 2 ^ (k % 8) : Nat) : Int)) = partB N (k + 1) := by
  unfold partB
  rw [show (k + 1 + 7) / 8 = k / 8 + 1 by omega, ← (byte_add N k).1]
  refine List.ext_getElem (by simp [bytesN]) fun j h1 h2 => ?_
  rw [List.getElem_set]
  simp only [bytesN, List.getElem_map, List.getElem_range]
  by_cases h : k / 8 = j
  · subst h; rw [if_pos rfl]
  · rw [if_neg h, mod_succ, byteAt_add _ _ _ _ (by simp [bytesN] at h2; omega)]
theorem bytesN_getD (N k j : Nat) (h : j < k) : (bytesN N k).getD j undef = .int .u8 (byteAt N j : Nat) := by simp [bytesN, List.getD, h]
theorem bitsN_getD (N k j : Nat) (h : j < k) : (bitsN N k).getD j undef = .int .u8 ((N.testBit j).toNat : Nat) := by simp [bitsN, List.getD, h]
theorem partB_text {N L : Nat} (h : N < 2 ^ L) : partB N L = bytesV (textN N L) := by
  unfold partB textN
  rw [Nat.mod_eq_of_lt h]
  exact (bytesV_wholeN N _).symm
set_option maxRecDepth 100000 in
theorem textR {w : World} {B g N L : Nat} (h : WrtR w B g N L) (hL : L ≤ 2147483648) : Calls Try.prog 53 #[.pointer (some ⟨g, 0, none⟩)] w fun e w' => e = .returned (.string ⟨(textN N L).toArray⟩) ∧ Below w.heap.size w w' := by
  obtain ⟨⟨vb, hbox, hown, hne⟩, hge, hlt⟩ := h
  have c0 : w.cell? ⟨g, 0, none⟩ = some vb := hbox.cell (by simp)
  have hg := hbox.blk.2
  obtain ⟨ob, cb, gb, rfl, hdb, -, hcb, -⟩ := hown.cases
  rw [bitsN_length] at hdb hcb c0
  have hixb := index_any (P := Try.prog) 43 5 Try.underlying43 (by kernel_rfl) hdb
  have hbk := hdb.hblk
  have HCB : Hid (∀ i, i < L → w.cell? ⟨gb, i, none⟩ = some (.int .u8 ((N.testBit i).toNat : Nat))) := Lib.hid (fun i hi => by rw [hcb i hi, bitsN_getD N L i hi])
  have HPT := Lib.hid (partB_text hlt)
  clear hcb hdb hbox hown hne hlt
  go_enter Try.func53, Try.ntmps53
  go_wp2
  go_loopg [3, 4] (L + 1) (fun gk vo i wr => ∃ k : Nat, k ≤ L ∧ i = .int .i64 k ∧ Own wr w.heap.size 5 vo (partB N k) ∧ Below w.heap.size w wr ∧ gk = L + 1 - k)
  case atStart => exact ⟨0, Nat.zero_le _, rfl, Own.nil _ _ _, Below.refl _ _, rfl⟩
  case round =>
    obtain ⟨k, hk, rfl, hown, hbel, rfl⟩ := hrel
    have HO := Lib.hid hown
    have HE := Lib.hid hbel
    have hsz := hbel.size
    have c0w := (hbel.cell (p := ⟨g, 0, none⟩) hg).trans c0
    have hgw : g < wr.heap.size := by omega
    clear hown hbel
    by_cases hlt : k < L
    · have hcell := (HE.out.cell (p := ⟨gb, k, none⟩) (hbk (by omega))).trans (HCB.out k hlt)
      have HCB0 := Lib.hid (HCB.out k hlt)
      have hgb : gb < wr.heap.size := by have := hbk (by omega); omega
      have HS := Lib.hid (partB_set N k)
      have HBA := Lib.hid (byte_add N k).2
      have hb : (N.testBit k).toNat ≤ 1 := by cases N.testBit k <;> simp
      generalize (N.testBit k).toNat = b at *
      by_cases h8 : k % 8 = 0
      · have hpn := partB_new N k h8
        have h8i : ((k : Int) % 8 == 0) = true := by simp; omega
        have hlW := Lib.hid (below_alloc wr (.cells #[.int .u8 0] 5))
        have HX : Hid (Sl (wr.alloc (.cells #[.int .u8 0] 5)) (.slice (some ⟨wr.heap.size, 0, none⟩) 1 1) [.int .u8 0]) := Lib.hid (by simpa using sl_lit wr #[.int .u8 0] 5 (by simp))
        have HT1 := Lib.hid (HO.out.up hlW.out)
        have HT2 : Hid (∀ u ∈ [Value.int .u8 0], u.oneCell' = true) := Lib.hid (by intro u hu; simp at hu; subst hu; rfl)
        have HT3 : Hid ((partB N k).length + 1 ≤ 4294967296) := Lib.hid (by unfold partB; rw [bytesN_length]; omega)
        have HT4 : Hid (w.heap.size ≤ (wr.alloc (.cells #[.int .u8 0] 5)).heap.size) := Lib.hid (Nat.le_trans hsz hlW.out.size)
        have HPN := Lib.hid hpn
        clear hpn
        go_wp2_with (at_builtin; refine wpList_app rfl (.tmp 17) (.tmp 18) 43 rfl w.heap.size 5 (.int .u8 0) 1 Try.underlying43 (by kernel_rfl) rfl (by decide) u3 (partB N k) rfl HT1.out (.slice (some ⟨wr.heap.size, 0, none⟩) 1 1) [.int .u8 0] rfl HX.out HT2.out HT3.out HT4.out ?_; intro v' w5 hown1 hg1 hk1; have HO1 := Lib.hid hown1; have HG1 := Lib.hid hg1; clear hown1 hg1 hk1)
        have HE2 : Hid (Below w.heap.size w w5) := Lib.hid (below_grown (HE.out.trans (hlW.out.mono hsz)) HT4.out HT1.out HG1.out)
        have HO2 : Hid (Own w5 w.heap.size 5 v' (bytesN (N % 2 ^ k) (k / 8 + 1))) := Lib.hid (by rw [← HPN.out]; exact HO1.out)
        have hcell5 := (HE2.out.cell (p := ⟨gb, k, none⟩) (hbk (by omega))).trans (HCB0.out)
        have c05 := (HE2.out.cell (p := ⟨g, 0, none⟩) hg).trans c0
        have hsz5 := HE2.out.size
        have hg5 : g < w5.heap.size := by omega
        have hgb5 : gb < w5.heap.size := by have := hbk (by omega); omega
        clear hcell c0w HO HE HO1 HG1 HT1 HX hsz hgw hgb HT2 HT3 HT4 hlW HPN
        obtain ⟨oo, co, go, rfl, hdo, hgo, hco, hfo, hst⟩ := HO2.out.cases
        rw [bytesN_length] at hdo hgo hco hfo hst ⊢
        have hixo := index_any (P := Try.prog) 43 5 Try.underlying43 (by kernel_rfl) hdo
        have hco8 := hco (k / 8) (by omega)
        rw [bytesN_getD _ _ _ (by omega)] at hco8
        have hfo8 := hfo (k / 8) (by omega)
        have hgo8 := hdo.hblk (by omega)
        generalize byteAt (N % 2 ^ k) (k / 8) = y at *
        have HST := Lib.hid (hst (k / 8) (.int .u8 ((y + b * 2 ^ (k % 8) : Nat) : Int)) (by omega))
        have HGO := Lib.hid (hgo (by omega))
        clear hdo hgo hco hfo hst
        have hqi : (k : Int) / 8 = ((k / 8 : Nat) : Int) := by omega
        have hmi : (k : Int) % 8 = ((k % 8 : Nat) : Int) := by omega
        have hix8 := fun W => hixo W .i64 ((k / 8 : Nat) : Int) (by omega) (by omega)
        rw [show 0 + ((k / 8 : Nat) : Int).toNat = k / 8 by omega] at hix8
        have hm8 : k % 8 < 8 := by omega
        generalize k / 8 = q at *
        generalize hmm : k % 8 = m at *
        clear hixo
        have HV : Hid (((y + b * 2 ^ m : Nat) : Int) = ((y : Int) + (b : Int) * 2 ^ m) % 256) := Lib.hid (by
          have h1 : 2 ^ m ≤ 2 ^ 7 := Nat.pow_le_pow_right (by decide) (by omega)
          have h2 : b * 2 ^ m ≤ 1 * 2 ^ m := Nat.mul_le_mul_right _ hb
          have h3 := HBA.out
          have h4 : (b : Int) * 2 ^ m = ((b * 2 ^ m : Nat) : Int) := by norm_cast
          rw [h4]
          generalize b * 2 ^ m = z at *
          omega)
        refine wp_region_tailg [0,1,2,3,4,5,6,7,8,9,10,11,12,13,14,15,16,17,18,19,20] [] [21] (by kernel_rfl) (by kernel_rfl) ?_
        simp only [pick, List.map_cons, List.map_nil, List.getD_cons_zero, List.getD_cons_succ]
        repeat (go_big_quiet_step (fail))
        refine wpQuiet_nil ?_
        unfold wpAct
        unfold wpAct
        go_wp2
        refine ⟨trivial, ?_⟩
        unfold wpAct
        go_wp2
        go_roundg (L + 1 - (k + 1))
        case measure => omega
        case rel =>
          refine ⟨k + 1, by omega, by go_num, ?_, ?_, rfl⟩
          · have h5 := HST.out.1.up (below_drewN _ 1)
            rw [← World.drew_is_drewN, HS.out, HV.out] at h5
            rw [h8, Int.pow_zero, Int.mul_one] at h5
            exact h5
          · have h5 := (HE2.out.grown HST.out.2 HE2.out.size (fun k hk => by cases hk; exact HGO.out.2)).trans ((below_drewN _ 1).mono (Nat.le_trans HE2.out.size HST.out.2.size))
            rw [← World.drew_is_drewN, HV.out] at h5
            rw [h8, Int.pow_zero, Int.mul_one] at h5
            exact h5
      · have h8i : ((k : Int) % 8 == 0) = false := by simp; omega
        have hpo := partB_old N k h8
        rw [hpo] at HO
        clear hpo
        obtain ⟨oo, co, go, rfl, hdo, hgo, hco, hfo, hst⟩ := HO.out.cases
        rw [bytesN_length] at hdo hgo hco hfo hst ⊢
        have hixo := index_any (P := Try.prog) 43 5 Try.underlying43 (by kernel_rfl) hdo
        have hco8 := hco (k / 8) (by omega)
        rw [bytesN_getD _ _ _ (by omega)] at hco8
        have hfo8 := hfo (k / 8) (by omega)
        have hgo8 := hdo.hblk (by omega)
        generalize byteAt (N % 2 ^ k) (k / 8) = y at *
        have HST := Lib.hid (hst (k / 8) (.int .u8 ((y + b * 2 ^ (k % 8) : Nat) : Int)) (by omega))
        have HGO := Lib.hid (hgo (by omega))
        clear hdo hgo hco hfo hst
        have hqi : (k : Int) / 8 = ((k / 8 : Nat) : Int) := by omega
        have hmi : (k : Int) % 8 = ((k % 8 : Nat) : Int) := by omega
        have hix8 := fun W => hixo W .i64 ((k / 8 : Nat) : Int) (by omega) (by omega)
        rw [show 0 + ((k / 8 : Nat) : Int).toNat = k / 8 by omega] at hix8
        have hm8 : k % 8 < 8 := by omega
        generalize k / 8 = q at *
        generalize hmm : k % 8 = m at *
        clear hixo
        have HV : Hid (((y + b * 2 ^ m : Nat) : Int) = ((y : Int) + (b : Int) * 2 ^ m) % 256) := Lib.hid (by
          have h1 : 2 ^ m ≤ 2 ^ 7 := Nat.pow_le_pow_right (by decide) (by omega)
          have h2 : b * 2 ^ m ≤ 1 * 2 ^ m := Nat.mul_le_mul_right _ hb
          have h3 := HBA.out
          have h4 : (b : Int) * 2 ^ m = ((b * 2 ^ m : Nat) : Int) := by norm_cast
          rw [h4]
          generalize b * 2 ^ m = z at *
          omega)
        go_wp2
        refine wp_region_tailg [0,1,2,3,4,5,6,7,8,9,10,11,12,13,14,15,16,17,18,19,20] [] [21] (by kernel_rfl) (by kernel_rfl) ?_
        simp only [pick, List.map_cons, List.map_nil, List.getD_cons_zero, List.getD_cons_succ]
        repeat (go_big_quiet_step (fail))
        refine wpQuiet_nil ?_
        unfold wpAct
        unfold wpAct
        go_wp2
        refine ⟨trivial, ?_⟩
        unfold wpAct
        go_wp2
        go_roundg (L + 1 - (k + 1))
        case measure => omega
        case rel =>
          refine ⟨k + 1, by omega, by go_num, ?_, ?_, rfl⟩
          · have h5 := HST.out.1.up (below_drewN _ 1)
            rw [← World.drew_is_drewN, HS.out, HV.out] at h5
            exact h5
          · have h5 := (HE.out.grown HST.out.2 hsz (fun k hk => by cases hk; exact HGO.out.2)).trans ((below_drewN _ 1).mono (Nat.le_trans hsz HST.out.2.size))
            rw [← World.drew_is_drewN, HV.out] at h5
            exact h5
    · obtain rfl : k = L := by omega
      rw [HPT.out] at HO
      have hcv := run_bytes_string (P := Try.prog) wr 43 9 5 Try.underlying43 Try.underlying5 Try.underlying9 _ _ HO.out.sl
      go_wp2
      go_ret
      exact ⟨rfl, HE.out⟩
end Go.Cm

/- The walk of the program's Encode. Conditions: the parts read as a list, and are not too long. -/
namespace Go.Cm
open Go.RowKit Go.Proofs

theorem WSt.from2 {w0 W W' : World} {B g : Nat} {vb0 vb : Value} {st' : Nat × Nat} (h1 : Below B w0 W) (h2 : Fr g vb0 vb w0 W) (h : WSt W B g vb st' W') : WSt w0 B g vb0 st' W' := by
  obtain ⟨vb', a, b, c⟩ := h
  exact ⟨vb', a, h1.trans b, h2.trans c⟩
set_option maxRecDepth 100000 in
set_option maxHeartbeats 4000000 in
theorem encodePk {w : World} {v : Value} {l : List PtN} (h : PartsAt w v l) (hok : ∀ p ∈ l, PtOk p) (hops : ∀ p ∈ l, ∀ o ∈ p.ops, OpOk o) (hsm : ∀ p ∈ l, PtSm p) (hsz : ∀ k, k ≤ l.length → (encK l k).2.2 ≤ 90000000) :
    Calls Try.prog 17 #[v] w (RetTextN (encR l) w) := by
  have HT := Lib.hid (textPk h hok)
  have hget : ∀ i, i < l.length → l.getD i zPt ∈ l := fun i hi => by
    have : l.getD i zPt = l[i] := by simp [List.getD, hi]
    rw [this]; exact List.getElem_mem hi
  have HOPS : Hid (∀ i, i < l.length → ∀ o ∈ (l.getD i zPt).ops, OpOk o) := Lib.hid (fun i hi => hops _ (hget i hi))
  have HSM : Hid (∀ i, i < l.length → PtSm (l.getD i zPt)) := Lib.hid (fun i hi => hsm _ (hget i hi))
  have HSZ := Lib.hid hsz
  obtain ⟨oa, cap, bl, off, rfl, hd, hco⟩ := h.open
  have HCO := Lib.hid hco
  have HD := Lib.hid hd
  obtain ⟨y, hy⟩ : ∃ y, y = encR l := ⟨_, rfl⟩
  rw [← hy]
  have HY := Lib.hid hy
  unfold encR at HY
  have hm := hd.len
  clear hy h hok hd hco hget hops hsm hsz
  generalize textOf 10 17 l = z at *
  obtain ⟨er, tb⟩ := z
  simp only at HY
  unfold RetTextN at HT
  simp only at HT
  by_cases her : er = 0
  · subst her
    have HYA : Hid (y = if (encK l l.length).1 ≠ 0 then ((encK l l.length).1, []) else (0, textN (encK l l.length).2.1 (encK l l.length).2.2)) := Lib.hid (by rw [HY.out, if_neg (fun h => h rfl)])
    clear HY
    go_enter Try.func17, Try.ntmps17
    go_upto_region 4 with (go_at_call 14; (with_reducible refine HT.out.mono ?_); rintro e w1 ⟨rfl, x1, rfl⟩; have HB1 := Lib.hid (ext_below w x1); generalize ext w x1 = w1 at *; clear HT)
    go_wp2_with (go_at_call 42; refine (openP w1).mono ?_; rintro e w2 ⟨g, rfl, hw, hb2⟩; have HW2 := Lib.hid hw; have HB2 := Lib.hid hb2; clear hw hb2)
    obtain ⟨vb2, hv2⟩ := HW2.out.v
    have HV2 := Lib.hid hv2
    have hB1 : w.heap.size ≤ w1.heap.size := HB1.out.size
    obtain ⟨B, hB⟩ : ∃ B, B = w1.heap.size := ⟨_, rfl⟩
    rw [← hB] at HV2 HB2 hB1
    have HBB := Lib.hid hB
    have HB12 : Hid (∀ W, Below B w2 W → Below w.heap.size w W) := Lib.hid (fun W hb => HB1.out.trans ((HB2.out.trans hb).mono hB1))
    clear hv2 HW2 hB
    go_loopg [21] (l.length + 1) (fun gk iv wr => ∃ k : Nat, iv = .int .i64 k ∧ k ≤ l.length ∧ (encK l k).1 = 0 ∧ WSt w2 B g vb2 (encK l k).2 wr ∧ gk = l.length + 1 - k)
    case atStart => exact ⟨0, rfl, Nat.zero_le _, rfl, WSt.start HV2.out, rfl⟩
    case round =>
      clear HV2
      obtain ⟨k, rfl, hk, hk0, hst, rfl⟩ := hrel
      have HS := Lib.hid hst
      have HK0 := Lib.hid hk0
      have hlen := HSZ.out k hk
      have hglt := hst.lt
      clear hst hk0
      by_cases hlt : k < l.length
      · have hix := index_anyK (P := Try.prog) 5 28 41 Try.underlying28 (by kernel_rfl) HD.out
        have hix2 := fun W kd => hix W kd (k : Int) (by omega) (by omega)
        simp only [Int.toNat_natCast] at hix2
        obtain ⟨oo, oc, o1, c1, o2, c2, hcc, hs, hi1, hi2⟩ := HCO.out k hlt
        have hsm := HSM.out k hlt
        have hops := HOPS.out k hlt
        have HNX := Lib.hid (encK_next (l := l) (k := k) HK0.out)
        have hbb := HD.out.hblk (by omega)
        obtain ⟨p, hp⟩ : ∃ p, p = l.getD k zPt := ⟨_, rfl⟩
        rw [← hp] at hcc hs hi1 hi2 hsm hops HNX
        clear hp
        have hBW := HB12.out _ HS.out.bel
        have hwr : w.heap.size ≤ wr.heap.size := hBW.size
        obtain ⟨wk, hwk⟩ : ∃ wk, wk = wr.alloc (.cells #[.int .i64 p.kind, .string p.text, .slice oo p.ops.length oc, .slice o1 p.lits.length c1, .slice o2 p.dists.length c2] 41) := ⟨_, rfl⟩
        have hAL := below_alloc wr (.cells #[.int .i64 p.kind, .string p.text, .slice oo p.ops.length oc, .slice o1 p.lits.length c1, .slice o2 p.dists.length c2] 41)
        have hPT := own_lit wr wr.heap.size #[.int .i64 p.kind, .string p.text, .slice oo p.ops.length oc, .slice o1 p.lits.length c1, .slice o2 p.dists.length c2] 41 (by simp) (Nat.le_refl _)
        rw [← hwk] at hAL hPT
        have hBr : B ≤ wr.heap.size := by omega
        obtain ⟨vbk, hvr, hbr, hfr⟩ := HS.out
        have hnq : vbk.ownBlock ≠ some wr.heap.size := fun e => by have := (hvr.own.lt _ e).2; omega
        have hvk := hvr.up hAL
        have HVK := Lib.hid hvk
        have HBR := Lib.hid (hbr.trans (hAL.mono hBr))
        have HFR := Lib.hid (hfr.below hAL)
        have hgq : g ≠ wr.heap.size := by omega
        have HC5 : Hid (∀ c, c < 5 → wr.cell? ⟨bl, off + k * 5 + c, none⟩ = some ((#[.int .i64 p.kind, .string p.text, .slice oo p.ops.length oc, .slice o1 p.lits.length c1, .slice o2 p.dists.length c2] : Array Value).getD c undef)) := Lib.hid (fun c hc => (hBW.cell (p := ⟨bl, off + k * 5 + c, none⟩) hbb).trans (hcc c hc))
        have hBK : Below w.heap.size w wk := hBW.trans (hAL.mono hwr)
        have HPT := Lib.hid hPT
        have HWK := Lib.hid hwk
        have hBwk : B ≤ wk.heap.size := Nat.le_trans hBr hAL.size
        have HWS : Hid (∀ st' W, WSt wk B g vbk st' W → WSt w2 B g vb2 st' W) := Lib.hid (fun st' W hw => hw.from2 HBR.out HFR.out)
        have HPS : Hid (∀ st' W, WSt wk B g vbk st' W → Own W wr.heap.size 41 (.slice (some ⟨wr.heap.size, 0, none⟩) 5 5) [.int .i64 p.kind, .string p.text, .slice oo p.ops.length oc, .slice o1 p.lits.length c1, .slice o2 p.dists.length c2]) := Lib.hid (fun st' W hw => hw.own HPT.out (by intro e; have e2 : some wr.heap.size = some g := e; injection e2 with e2; omega) (by intro q e; have e2 : some wr.heap.size = some q := e; injection e2 with e2; subst e2; exact hnq))
        have HHD := Lib.hid (writeHP hvk (decide (k + 1 = l.length)) p.kind p.text.size (.slice o1 p.lits.length c1) (.slice o2 p.dists.length c2) p.lits p.dists (fun W hb => hi1.up (hBK.trans (hb.mono (by rw [HBB.out]; exact HB1.out.size)))) (fun W hb => hi2.up (hBK.trans (hb.mono (by rw [HBB.out]; exact HB1.out.size)))) (by omega))
        have hfl : ((k : Int) == (l.length : Int) - 1) = decide (k + 1 = l.length) := by
          by_cases e : k + 1 = l.length
          · rw [decide_eq_true e]; simp; omega
          · rw [decide_eq_false e]; simp; omega
        have hmi : ∀ st', (encP l.length k p (encK l k).2) = st' → st'.1 ≠ 0 → y = (st'.1, []) := fun st' h1 h2 => by
          have e : encK l (k + 1) = st' := by rw [HNX.out, h1]
          have e2 := encK_stop (l := l) (k := k + 1) (by rw [e]; exact h2) (l.length - (k + 1))
          rw [show k + 1 + (l.length - (k + 1)) = l.length by omega, e] at e2
          rw [HYA.out, e2, if_pos h2]
        have HERR := Lib.hid hmi
        have HNX2 : Hid (∀ st', (encP l.length k p (encK l k).2) = st' → encK l (k + 1) = st') := Lib.hid (fun st' h => by rw [HNX.out, h])
        have p0 : wk.cell? ⟨wr.heap.size, 0, none⟩ = some (.int .i64 p.kind) := hPT.cell (by simp)
        have p1 : wk.cell? ⟨wr.heap.size, 1, none⟩ = some (.string p.text) := hPT.cell (by simp)
        have p3 : wk.cell? ⟨wr.heap.size, 3, none⟩ = some (.slice o1 p.lits.length c1) := hPT.cell (by simp)
        have p4 : wk.cell? ⟨wr.heap.size, 4, none⟩ = some (.slice o2 p.dists.length c2) := hPT.cell (by simp)
        have hp := hPT.blk.2
        have htx : p.text.size ≤ 1000000 := hsm.text
        have HCOD : Hid (∀ W st', WSt wk B g vbk st' W → st'.2 ≤ 100000000 → Calls Try.prog 45 #[.pointer (some ⟨g, 0, none⟩), .agg #[.int .i64 p.kind, .string p.text, .slice oo p.ops.length oc, .slice o1 p.lits.length c1, .slice o2 p.dists.length c2]] W fun e w' => e = .returned (.int .i64 ((cAll (litsN p) (distsN p) p.ops st').1 : Nat)) ∧ WSt wk B g vbk (cAll (litsN p) (distsN p) p.ops st').2 w') := Lib.hid (fun W st' hw hl => hw.join (Q := fun e => e = .returned (.int .i64 ((cAll (litsN p) (distsN p) p.ops st').1 : Nat))) (fun vb hb => codedP hb hB1 (hBK.trans (hw.bel.mono (by omega))) p oo o1 o2 oc c1 c2 hs hi1 hi2 hops (by have := hsm.ops; omega)))
        obtain ⟨m, hmm⟩ : ∃ m, m = mayI p.kind p.text.size p.lits p.dists := ⟨_, rfl⟩
        rw [← hmm] at HHD
        have HMM := Lib.hid hmm
        clear hmm hmi hcc hs hi1 hi2 hsm hops HNX hix hAL hPT hwk hvr hbr hfr hvk HSM HOPS HCO HVK
        obtain ⟨st, hst⟩ : ∃ st, st = (encK l k).2 := ⟨_, rfl⟩
        rw [← hst] at HHD HERR HNX2 hlen
        clear hst
        by_cases hm0 : m = 0
        · subst hm0
          rw [if_pos rfl] at HHD
          have hw1 := wrI_add (f := decide (k + 1 = l.length)) (st := st) HMM.out.symm
          have HEP : Hid (encP l.length k p st = if p.kind = 0 then (0, bytS (bys p.text) (alignW (wrI (decide (k + 1 = l.length)) p.kind p.text.size p.lits p.dists st))) else cAll (litsN p) (distsN p) p.ops (wrI (decide (k + 1 = l.length)) p.kind p.text.size p.lits p.dists st)) := Lib.hid (by
            unfold encP; rw [← HMM.out, if_neg (fun h => h rfl)])
          rw [show (st.1, st.2) = st from rfl] at HHD
          obtain ⟨s1, hs1⟩ : ∃ s1, s1 = wrI (decide (k + 1 = l.length)) p.kind p.text.size p.lits p.dists st := ⟨_, rfl⟩
          rw [← hs1] at HHD HEP hw1
          clear hs1 HMM
          generalize decide (k + 1 = l.length) = fl at *
          by_cases hk0 : p.kind = 0
          · have hk0i : (p.kind == 0) = true := by simpa using hk0
            rw [if_pos hk0] at HEP
            have HBY := Lib.hid (fun (W : World) (hw : WSt wk B g vbk s1 W) => bytesWP hw p.text htx (by omega))
            have HK1 := Lib.hid (HNX2.out _ HEP.out)
            clear hk0 HCOD HERR HNX2 HEP
            generalize p.lits.length = n1 at *
            generalize p.dists.length = n2 at *
            generalize p.ops.length = n3 at *
            go_upto_region 8 with (refine wpList_load_cells rfl 41 _ rfl bl (off + k * 5) 5 rfl #[.int .i64 p.kind, .string p.text, .slice oo n3 oc, .slice o1 n1 c1, .slice o2 n2 c2] _ HC5.out rfl Try.underlying41 rfl (by kernel_rfl) ?_)
            rw [← HWK.out]
            go_wp2_with (first
              | (go_at_call 43; (with_reducible refine HHD.out.mono ?_); rintro e w5 ⟨rfl, hw5⟩; have HW5 := Lib.hid hw5; have q0 : w5.cell? ⟨wr.heap.size, 0, none⟩ = some (.int .i64 p.kind) := (HPS.out _ _ hw5).cell (by simp); have q1 : w5.cell? ⟨wr.heap.size, 1, none⟩ = some (.string p.text) := (HPS.out _ _ hw5).cell (by simp); have hq5 := (HPS.out _ _ hw5).blk.2; clear hw5)
              | (go_at_call 44; (with_reducible refine (HBY.out _ HW5.out).mono ?_); rintro e w6 ⟨rfl, hw6⟩; have HW6 := Lib.hid hw6; clear hw6))
            go_roundg (l.length + 1 - (k + 1))
            case measure => omega
            case rel => exact ⟨k + 1, by go_num, by omega, by rw [HK1.out], by rw [HK1.out]; exact HWS.out _ _ HW6.out, rfl⟩
          · have hk0i : (p.kind == 0) = false := by simpa using hk0
            rw [if_neg hk0] at HEP
            have HCD := Lib.hid (fun (W : World) (hw : WSt wk B g vbk s1 W) => HCOD.out W s1 hw (by omega))
            have HK1 := Lib.hid (HNX2.out _ HEP.out)
            have HE1 := Lib.hid (HERR.out _ HEP.out)
            clear hk0 HCOD HERR HNX2 HEP
            generalize cAll (litsN p) (distsN p) p.ops s1 = z at *
            obtain ⟨ez, sz⟩ := z
            simp only at HCD HK1 HE1
            generalize p.lits.length = n1 at *
            generalize p.dists.length = n2 at *
            generalize p.ops.length = n3 at *
            by_cases hez : ez = 0
            · subst hez
              go_upto_region 8 with (refine wpList_load_cells rfl 41 _ rfl bl (off + k * 5) 5 rfl #[.int .i64 p.kind, .string p.text, .slice oo n3 oc, .slice o1 n1 c1, .slice o2 n2 c2] _ HC5.out rfl Try.underlying41 rfl (by kernel_rfl) ?_)
              rw [← HWK.out]
              go_wp2_with (first
                | (go_at_call 43; (with_reducible refine HHD.out.mono ?_); rintro e w5 ⟨rfl, hw5⟩; have HW5 := Lib.hid hw5; have q0 : w5.cell? ⟨wr.heap.size, 0, none⟩ = some (.int .i64 p.kind) := (HPS.out _ _ hw5).cell (by simp); have hq5 := (HPS.out _ _ hw5).blk.2; obtain ⟨A5, hA5, hs5, hl5⟩ := (HPS.out _ _ hw5).whole; have he5 : A5 = #[.int .i64 p.kind, .string p.text, .slice oo n3 oc, .slice o1 n1 c1, .slice o2 n2 c2] := (by rw [← Array.toArray_toList (xs := A5), hl5]); subst he5; clear hw5 hs5 hl5)
                | (refine load_box rfl 41 5 _ rfl wr.heap.size rfl #[.int .i64 p.kind, .string p.text, .slice oo n3 oc, .slice o1 n1 c1, .slice o2 n2 c2] rfl hA5 _ Try.underlying41 rfl (by kernel_rfl) ?_)
                | (go_at_call 45; (with_reducible refine (HCD.out _ HW5.out).mono ?_); rintro e w6 ⟨rfl, hw6⟩; have HW6 := Lib.hid hw6; clear hw6))
              go_roundg (l.length + 1 - (k + 1))
              case measure => omega
              case rel => exact ⟨k + 1, by go_num, by omega, by rw [HK1.out], by rw [HK1.out]; exact HWS.out _ _ HW6.out, rfl⟩
            · have hezi : ((ez : Int) != 0) = true := by simpa using hez
              have HE := Lib.hid (HE1.out hez)
              clear hez HE1 HK1
              go_upto_region 8 with (refine wpList_load_cells rfl 41 _ rfl bl (off + k * 5) 5 rfl #[.int .i64 p.kind, .string p.text, .slice oo n3 oc, .slice o1 n1 c1, .slice o2 n2 c2] _ HC5.out rfl Try.underlying41 rfl (by kernel_rfl) ?_)
              rw [← HWK.out]
              go_wp2_with (first
                | (go_at_call 43; (with_reducible refine HHD.out.mono ?_); rintro e w5 ⟨rfl, hw5⟩; have HW5 := Lib.hid hw5; have q0 : w5.cell? ⟨wr.heap.size, 0, none⟩ = some (.int .i64 p.kind) := (HPS.out _ _ hw5).cell (by simp); have hq5 := (HPS.out _ _ hw5).blk.2; obtain ⟨A5, hA5, hs5, hl5⟩ := (HPS.out _ _ hw5).whole; have he5 : A5 = #[.int .i64 p.kind, .string p.text, .slice oo n3 oc, .slice o1 n1 c1, .slice o2 n2 c2] := (by rw [← Array.toArray_toList (xs := A5), hl5]); subst he5; clear hw5 hs5 hl5)
                | (refine load_box rfl 41 5 _ rfl wr.heap.size rfl #[.int .i64 p.kind, .string p.text, .slice oo n3 oc, .slice o1 n1 c1, .slice o2 n2 c2] rfl hA5 _ Try.underlying41 rfl (by kernel_rfl) ?_)
                | (go_at_call 45; (with_reducible refine (HCD.out _ HW5.out).mono ?_); rintro e w6 ⟨rfl, hw6⟩; have HW6 := Lib.hid hw6; clear hw6))
              go_ret2
              exact ⟨by rw [HE.out]; rfl, ex_ext (HB12.out _ (HWS.out _ _ HW6.out).bel)⟩
        · have hm0i : ((m : Int) != 0) = true := by simpa using hm0
          have hm0j : ((m : Int) == 0) = false := by simpa using hm0
          have HE : Hid (y = (m, [])) := Lib.hid (HERR.out (m, st) (by unfold encP; rw [← HMM.out, if_pos hm0]) hm0)
          clear hm0 HERR HNX2 HMM HCOD
          generalize decide (k + 1 = l.length) = fl at *
          generalize p.lits.length = n1 at *
          generalize p.dists.length = n2 at *
          generalize p.ops.length = n3 at *
          go_upto_region 8 with (refine wpList_load_cells rfl 41 _ rfl bl (off + k * 5) 5 rfl #[.int .i64 p.kind, .string p.text, .slice oo n3 oc, .slice o1 n1 c1, .slice o2 n2 c2] _ HC5.out rfl Try.underlying41 rfl (by kernel_rfl) ?_)
          rw [← HWK.out]
          go_wp2_with (go_at_call 43; (with_reducible refine HHD.out.mono ?_); rintro e w5 ⟨rfl, hw5⟩; have HW5 := Lib.hid hw5; have q0 : w5.cell? ⟨wr.heap.size, 0, none⟩ = some (.int .i64 p.kind) := (HPS.out _ _ hw5).cell (by simp); have hq5 := (HPS.out _ _ hw5).blk.2; clear hw5)
          go_ret2
          exact ⟨by rw [HE.out]; rfl, ex_ext (HB12.out _ (HWS.out _ _ HW5.out).bel)⟩
      · obtain rfl : k = l.length := by omega
        obtain ⟨vbk, hvr, hbr, hfr⟩ := HS.out
        have HTX := Lib.hid (textP hvr.p (by omega))
        have HE : Hid (y = (0, textN (encK l l.length).2.1 (encK l l.length).2.2)) := Lib.hid (by rw [HYA.out, if_neg (by have := HK0.out; omega)])
        have HBW := Lib.hid (HB12.out _ hbr)
        clear hlt hvr hbr hfr HYA
        generalize textN (encK l l.length).2.1 (encK l l.length).2.2 = tn at *
        go_wp2_with (go_at_call 46; (with_reducible refine HTX.out.mono ?_); rintro e w5 ⟨rfl, x5, rfl⟩)
        go_ret2
        exact ⟨by rw [HE.out]; rfl, ex_ext (HBW.out.trans ((ext_below wr x5).mono HBW.out.size))⟩
  · have hei : ((er : Int) != 0) = true := by simpa using her
    have HE : Hid (y = (er, [])) := Lib.hid (by rw [HY.out, if_pos her])
    clear her HY
    go_enter Try.func17, Try.ntmps17
    go_wp2_with (go_at_call 14; (with_reducible refine HT.out.mono ?_); rintro e w1 ⟨rfl, x1, rfl⟩)
    go_ret2
    exact ⟨by rw [HE.out]; rfl, (ex_ext (by repeat (first | exact Below.refl _ _ | assumption | refine b_drewN ?_ _ | refine Below.drew ?_ | refine b_ext' ?_ _ | refine b_alloc' ?_ _)))⟩
end Go.Cm

/- The walk of the document's op. Conditions: the text is a list of the caller's own. -/
namespace Go.Cm
open Go.RowKit Go.Proofs

def RetOpR (y : Nat × Byts) (B : Nat) (v : Value) (w : World) (e : Ending) (w' : World) : Prop := ∃ v', e = .returned (.tuple #[v', .int .i64 (y.1 : Nat)]) ∧ Own w' B 5 v' (bytesV y.2) ∧ w.grownBy w' v.ownBlock ∧ (∀ q, v'.ownBlock = some q → v.ownBlock = some q ∨ w.heap.size ≤ q)
theorem grown_step {w w1 w2 : World} {r0 r1 : Option Nat} (h : w.grownBy w1 r0) (hq : ∀ q, r1 = some q → r0 = some q ∨ w.heap.size ≤ q) (hg : w1.grownBy w2 r1) : w.grownBy w2 r0 :=
  ⟨hg.os.trans h.os, hg.tape.trans h.tape, hg.output.trans h.output, Nat.le_trans h.size hg.size, fun i hi hr => by
    rw [hg.block i (Nat.lt_of_lt_of_le hi h.size) (fun e => by
      rcases hq i e.symm with h1 | h1
      · exact hr h1.symm
      · omega), h.block i hi hr]⟩
theorem sl_byte (w : World) (l : Nat) : Sl (w.alloc (.cells #[.int .u8 (l : Nat)] 5)) (.slice (some ⟨w.heap.size, 0, none⟩) 1 1) [.int .u8 (l : Nat)] := by
  simpa using sl_lit w #[.int .u8 (l : Nat)] 5 (by simp)
theorem one_byte (l : Nat) : ∀ u ∈ [Value.int .u8 (l : Nat)], u.oneCell' = true := by intro u hu; simp at hu; subst hu; rfl
set_option maxRecDepth 100000 in
set_option maxHeartbeats 4000000 in
theorem opRk {w : World} {B : Nat} {v : Value} {b : Byts} (h : Own w B 5 v (bytesV b)) (hlen : b.length ≤ 100000000) (hBw : B ≤ w.heap.size) (l : Nat) (n d : Int) (hl : l < 256) :
    Calls Try.prog 41 #[v, .agg #[.int .u8 l, .int .i64 n, .int .i64 d]] w (RetOpR (opN 10 b ⟨l, n, d⟩) B v w) := by
  obtain ⟨w1, hw1⟩ : ∃ w1, w1 = w.alloc (.cells #[.int .u8 (l : Nat), .int .i64 n, .int .i64 d] 75) := ⟨_, rfl⟩
  have hb1 : Below w.heap.size w w1 := by rw [hw1]; exact below_alloc _ _
  have hop := op_box w l n d
  rw [← hw1] at hop
  have HX := Lib.hid (h.up hb1)
  have HBL := Lib.hid (grown_below hb1 v.ownBlock)
  have HOP := Lib.hid hop
  have HLEN := Lib.hid hlen
  have HW1 := Lib.hid hw1
  have p0 : w1.cell? ⟨w.heap.size, 0, none⟩ = some (.int .u8 (l : Nat)) := hop.cell (by simp [opV])
  have p1 : w1.cell? ⟨w.heap.size, 1, none⟩ = some (.int .i64 n) := hop.cell (by simp [opV])
  have p2 : w1.cell? ⟨w.heap.size, 2, none⟩ = some (.int .i64 d) := hop.cell (by simp [opV])
  have hp := hop.blk.2
  have hs1 : w1.heap.size = w.heap.size + 1 := by rw [hw1]; simp
  obtain ⟨ov, cv, gv, hvb, hdv, hgv, -⟩ := h.cases
  rw [bytesV_length] at hvb hdv hgv
  obtain ⟨y, hy⟩ : ∃ y, y = opN 10 b ⟨l, n, d⟩ := ⟨_, rfl⟩
  rw [← hy]
  have HY := Lib.hid hy
  unfold opN at HY
  simp only at HY
  have HVL : Hid (∀ q, v.ownBlock = some q → q < w.heap.size) := Lib.hid (fun q hq => (h.lt q hq).2)
  have hm := hdv.len
  have HS1 := Lib.hid hs1
  subst hvb
  clear hy hw1 hb1 hop hlen h hs1 hdv hgv
  by_cases hn0 : n = 0
  · rw [if_pos hn0] at HY
    subst hn0
    have HT1 := Lib.hid (HX.out.up (below_alloc w1 (.cells #[.int .u8 (l : Nat)] 5)))
    have HXT := Lib.hid (sl_byte w1 l)
    have HT2 := Lib.hid (one_byte l)
    have HT3 : Hid ((bytesV b).length + 1 ≤ 4294967296) := Lib.hid (by rw [bytesV_length]; have := HLEN.out; omega)
    have HT4 : Hid (B ≤ (w1.alloc (.cells #[.int .u8 (l : Nat)] 5)).heap.size) := Lib.hid (Nat.le_trans (Nat.le_trans hBw (Nat.le_of_lt hp)) (below_alloc w1 _).size)
    go_enter Try.func41, Try.ntmps41
    go_upto_region 1 with fail
    rw [← HW1.out]
    go_wp2_with (at_builtin; refine wpList_app rfl (.tmp 10) (.tmp 13) 43 rfl B 5 (.int .u8 0) 1 Try.underlying43 (by kernel_rfl) rfl (by decide) _ (bytesV b) rfl HT1.out (.slice (some ⟨w1.heap.size, 0, none⟩) 1 1) [.int .u8 (l : Nat)] rfl HXT.out HT2.out HT3.out HT4.out ?_; intro v' w5 hown1 hg1 hk1; have HO1 := Lib.hid hown1; have HG1 := Lib.hid hg1; have HK1 := Lib.hid hk1; clear hown1 hg1 hk1)
    go_ret2
    refine ⟨v', by rw [HY.out]; rfl, ?_, ?_, ?_⟩
    · rw [HY.out, bytesV_append, byte_u8 l hl]; exact HO1.out
    · exact grown_trans (grown_trans HBL.out (grown_below (below_alloc _ _) _)) HG1.out
    · intro q hq
      rcases HK1.out q hq with h | h
      · exact .inl h
      · exact .inr (by have := HBL.out.size; have := (below_alloc w1 (.cells #[.int .u8 (l : Nat)] 5)).size; omega)
  · rw [if_neg hn0] at HY
    have hn0i : (n == 0) = false := by simpa using hn0
    by_cases hbad : n < 3 ∨ 258 < n ∨ d < 1 ∨ 32768 < d
    · have hor : decide (n < 3) = true ∨ (decide (n < 3) = false ∧ decide (n > 258) = true) ∨ (decide (n < 3) = false ∧ decide (n > 258) = false ∧ decide (d < 1) = true) ∨ (decide (n < 3) = false ∧ decide (n > 258) = false ∧ decide (d < 1) = false ∧ decide (d > 32768) = true) := by
        simp only [decide_eq_true_eq, decide_eq_false_iff_not]; omega
      rw [if_pos hbad] at HY
      clear hbad
      rcases hor with h1 | ⟨h1, h2⟩ | ⟨h1, h2, h3⟩ | ⟨h1, h2, h3, h4⟩ <;>
      · go_enter Try.func41, Try.ntmps41
        go_upto_region 1 with fail
        rw [← HW1.out]
        go_wp2
        go_ret2
        exact ⟨_, by rw [HY.out]; rfl, by rw [HY.out]; exact HX.out, HBL.out, fun q h => .inl h⟩
    · rw [if_neg hbad] at HY
      have h1 : decide (n < 3) = false := by rw [decide_eq_false_iff_not]; omega
      have h2 : decide (n > 258) = false := by rw [decide_eq_false_iff_not]; omega
      have h3 : decide (d < 1) = false := by rw [decide_eq_false_iff_not]; omega
      have h4 : decide (d > 32768) = false := by rw [decide_eq_false_iff_not]; omega
      obtain ⟨m, rfl⟩ : ∃ m : Nat, n = m := ⟨n.toNat, by omega⟩
      obtain ⟨e, rfl⟩ : ∃ e : Nat, d = e := ⟨d.toNat, by omega⟩
      have hm3 : 3 ≤ m ∧ m ≤ 258 := by omega
      have he1 : 1 ≤ e ∧ e ≤ 32768 := by omega
      clear hbad
      by_cases hfar : (b.length : Int) < e
      · rw [if_pos hfar] at HY
        have h6 : decide (b.length < e) = true := by rw [decide_eq_true_iff]; omega
        have h7 : b.length < e := by omega
        clear hfar
        generalize b.length = L at *
        go_enter Try.func41, Try.ntmps41
        go_upto_region 1 with fail
        rw [← HW1.out]
        go_wp2
        go_ret2
        exact ⟨_, by rw [HY.out]; rfl, by rw [HY.out]; exact HX.out, HBL.out, fun q h => .inl h⟩
      · rw [if_neg hfar] at HY
        simp only [Int.toNat_natCast] at HY
        have h6 : e ≤ b.length := by omega
        have h7 : decide (b.length < e) = false := by rw [decide_eq_false_iff_not]; omega
        have HCP := Lib.hid (fun k => copyN_len b e k)
        have HOV : Hid ((Value.slice ov b.length cv).ownBlock ≠ some w.heap.size) := Lib.hid (by intro e2; have := HVL.out _ e2; omega)
        have hLb := HLEN.out
        obtain ⟨L, hL⟩ : ∃ L, L = b.length := ⟨_, rfl⟩
        rw [← hL] at h6 h7 HCP HOV HX HBL hLb hm ⊢
        clear hL hfar HVL HLEN
        go_enter Try.func41, Try.ntmps41
        go_upto_region 1 with fail
        rw [← HW1.out]
        go_wp2
        go_loopg [0, 6] (m + 1) (fun gk vb iv wr => ∃ (k : Nat) (bk : Byts), iv = .int .i64 k ∧ k ≤ m ∧ Hid (bk = copyN b e k) ∧ Own wr B 5 vb (bytesV bk) ∧ w.grownBy wr (Value.slice ov L cv).ownBlock ∧ (∀ q, vb.ownBlock = some q → (Value.slice ov L cv).ownBlock = some q ∨ w.heap.size ≤ q) ∧ Own wr w.heap.size 75 (.slice (some ⟨w.heap.size, 0, none⟩) 3 3) (opV ⟨l, m, e⟩) ∧ vb.ownBlock ≠ some w.heap.size ∧ gk = m + 1 - k)
        case atStart => exact ⟨0, b, rfl, Nat.zero_le _, Lib.hid rfl, HX.out, HBL.out, fun q h => .inl h, HOP.out, HOV.out, rfl⟩
        case round =>
          clear HX HBL HOP HOV
          obtain ⟨k, bk, rfl, hk, HBK, hx, hbl, hvk, hop, hvq, rfl⟩ := hrel
          have HX := Lib.hid hx
          have HBL := Lib.hid hbl
          have HOP := Lib.hid hop
          have HVQ := Lib.hid hvq
          have HVK := Lib.hid hvk
          have hszr := hbl.size
          have p1 : wr.cell? ⟨w.heap.size, 1, none⟩ = some (.int .i64 m) := hop.cell (by simp [opV])
          have p2 : wr.cell? ⟨w.heap.size, 2, none⟩ = some (.int .i64 e) := hop.cell (by simp [opV])
          have hp := hop.blk.2
          have hBr : B ≤ wr.heap.size := by omega
          by_cases hlt : k < m
          · have hlti : decide ((k : Int) < (m : Int)) = true := by rw [decide_eq_true_iff]; omega
            have hbl2 : bk.length = L + k := by rw [HBK.out, HCP.out]
            have HBN : Hid (copyN b e (k + 1) = bk ++ [bk.getD (L + k - e) 0]) := Lib.hid (by
              show copyN b e k ++ [(copyN b e k).getD ((copyN b e k).length - e) 0] = _
              rw [← HBK.out, hbl2])
            obtain ⟨ov, cv, gv, hvb, hdv, hgv, hcv, -⟩ := hx.cases
            rw [bytesV_length] at hvb hdv hgv hcv
            rw [hbl2] at hvb hdv hgv hcv
            have hix := index_any (P := Try.prog) 43 5 Try.underlying43 (by kernel_rfl) hdv
            have hcell := hcv (L + k - e) (by omega)
            rw [bytesV_getD _ _ (by rw [hbl2]; omega)] at hcell
            have hby : (bk.getD (L + k - e) 0).toNat < 256 := UInt8.toNat_lt _
            have HOF : Hid (UInt8.ofNat (bk.getD (L + k - e) 0).toNat = bk.getD (L + k - e) 0) := Lib.hid (by simp)
            generalize hxx : (bk.getD (L + k - e) 0).toNat = x at *
            have hsub : ((L + k : Nat) : Int) - (e : Int) = ((L + k - e : Nat) : Int) := by omega
            have hix2 := fun W => hix W .i64 ((L + k - e : Nat) : Int) (by omega) (by omega)
            simp only [Int.toNat_natCast, Nat.zero_add] at hix2
            rw [← hsub] at hix2
            have hgvb := hdv.hblk (by omega)
            obtain ⟨M, hM⟩ : ∃ M, M = L + k := ⟨_, rfl⟩
            have HT3 : Hid ((bytesV bk).length + 1 ≤ 4294967296) := Lib.hid (by rw [bytesV_length, hbl2]; omega)
            have hM2 : M ≤ 100001000 := by omega
            rw [← hM] at hvb hsub hix2 hcell
            subst hvb
            have HT1 := Lib.hid (HX.out.up (below_alloc wr (.cells #[.int .u8 (x : Nat)] 5)))
            have HXT := Lib.hid (sl_byte wr x)
            have HT2 := Lib.hid (one_byte x)
            have HT4 : Hid (B ≤ (wr.alloc (.cells #[.int .u8 (x : Nat)] 5)).heap.size) := Lib.hid (Nat.le_trans hBr (below_alloc wr _).size)
            clear hx hbl hvk hop hdv hgv hcv hix hxx hbl2 hvq hM hsub
            go_wp2_with (at_builtin; refine wpList_app rfl (.tmp 47) (.tmp 56) 43 rfl B 5 (.int .u8 0) 1 Try.underlying43 (by kernel_rfl) rfl (by decide) _ (bytesV bk) rfl HT1.out (.slice (some ⟨wr.heap.size, 0, none⟩) 1 1) [.int .u8 (x : Nat)] rfl HXT.out HT2.out HT3.out HT4.out ?_; intro v' w5 hown1 hg1 hk1; have HO1 := Lib.hid hown1; have HG1 := Lib.hid hg1; have HK1 := Lib.hid hk1; clear hown1 hg1 hk1)
            go_roundg (m + 1 - (k + 1))
            case measure => omega
            case rel =>
              refine ⟨k + 1, bk ++ [UInt8.ofNat x], by go_num, by omega, Lib.hid (by rw [HBN.out, HOF.out]), by rw [bytesV_append, byte_u8 x hby]; exact HO1.out, grown_step (grown_trans HBL.out (grown_below (below_alloc wr _) _)) HVK.out HG1.out, fun q hq => ?_, (HOP.out.up (below_alloc wr _)).keep HG1.out (.inr (fun e => HVQ.out e.symm)), fun e => ?_, rfl⟩
              · rcases HK1.out _ hq with h | h
                · exact HVK.out q h
                · exact .inr (by have := (below_alloc wr (.cells #[.int .u8 (x : Nat)] 5)).size; omega)
              rcases HK1.out _ e with h | h
              · exact HVQ.out h
              · have := (below_alloc wr (.cells #[.int .u8 (x : Nat)] 5)).size; omega
          · obtain rfl : k = m := by omega
            have hlti : decide ((k : Int) < (k : Int)) = false := by rw [decide_eq_false_iff_not]; omega
            clear hlt hx hbl hvk hop hvq
            go_wp2
            go_ret2
            exact ⟨_, by rw [HY.out]; rfl, by rw [HY.out, ← HBK.out]; exact HX.out, HBL.out, HVK.out⟩
end Go.Cm

/- The walk of the document's Text. Conditions: the parts read as a list. -/
namespace Go.Cm
open Go.RowKit Go.Proofs

set_option maxRecDepth 100000 in
set_option maxHeartbeats 8000000 in
theorem textRk {w : World} {v : Value} {l : List PtN} (h : PartsAt w v l) (hok : ∀ p ∈ l, PtOk p) : Calls Try.prog 16 #[v] w (RetTextN (textOf 10 17 l) w) := by
  have HOK : Hid (∀ i, i < l.length → PtOk (l.getD i zPt)) := Lib.hid (fun i hi => by
    have : l.getD i zPt = l[i] := by simp [List.getD, hi]
    rw [this]; exact hok _ (List.getElem_mem hi))
  obtain ⟨oa, cap, bl, off, rfl, hd, hco⟩ := h.open
  have HCO := Lib.hid hco
  have HD := Lib.hid hd
  obtain ⟨y, hy⟩ : ∃ y, y = textOf 10 17 l := ⟨_, rfl⟩
  rw [← hy]
  have HY := Lib.hid hy
  unfold textOf at HY
  have hm := hd.len
  clear hy h hok hd hco
  by_cases hl : l = []
  · rw [if_pos hl] at HY
    subst hl
    go_enter Try.func16, Try.ntmps16
    go_wp2
    go_ret2
    exact ⟨by rw [HY.out]; rfl, (ex_ext (by repeat (first | exact Below.refl _ _ | assumption | refine b_drewN ?_ _ | refine Below.drew ?_ | refine b_ext' ?_ _ | refine b_alloc' ?_ _)))⟩
  · rw [if_neg hl] at HY
    have hl0 : 0 < l.length := List.length_pos_iff.2 hl
    have hl1 : ((l.length : Int) == 0) = false := by simp; exact hl
    clear hl
    go_enter Try.func16, Try.ntmps16
    go_wp2
    go_loopg [4, 5] (l.length + 1) (fun gk vb iv wr => ∃ (k : Nat) (b : Byts), iv = .int .i64 k ∧ k ≤ l.length ∧ Hid (partsN 10 (l.take k) = (0, b)) ∧ b.length ≤ 16777216 ∧ Own wr w.heap.size 5 vb (bytesV b) ∧ Below w.heap.size w wr ∧ gk = l.length + 1 - k)
    case atStart => exact ⟨0, [], rfl, Nat.zero_le _, Lib.hid rfl, Nat.zero_le _, Own.nil _ _ _, Below.refl _ _, rfl⟩
    case round =>
      obtain ⟨k, b, rfl, hk, HK, hbk, hx, hbl, rfl⟩ := hrel
      have HX := Lib.hid hx
      have HBW := Lib.hid hbl
      have hsz := hbl.size
      obtain ⟨ov, cv, gv, hvb, hdv, -⟩ := hx.cases
      rw [bytesV_length] at hvb hdv
      have hmv := hdv.len
      subst hvb
      generalize wr = wo at *
      have HX0 := Lib.hid HX.out
      clear hx hbl hdv
      by_cases hlt : k < l.length
      · have hix := index_anyK (P := Try.prog) 5 22 80 Try.underlying22 (by kernel_rfl) HD.out
        have hix2 := fun W kd => hix W kd (k : Int) (by omega) (by omega)
        simp only [Int.toNat_natCast] at hix2
        obtain ⟨oo, oc, o1, c1, o2, c2, hcc, hs, hi1, hi2⟩ := HCO.out k hlt
        have hok := HOK.out k hlt
        have HSK := Lib.hid (partsN_take hlt HK.out)
        have HSTOP := Lib.hid (partsN_stop (eD := 10) (l := l) (k := k + 1))
        have hbb := HD.out.hblk (by omega)
        obtain ⟨p, hp⟩ : ∃ p, p = l.getD k zPt := ⟨_, rfl⟩
        rw [← hp] at hcc hs hi1 hi2 hok HSK
        clear hp
        obtain ⟨kd, tx, ops, lits, dists⟩ := p
        simp only at hcc hs hi1 hi2
        obtain ⟨hlit, htx⟩ := hok
        simp only at hlit htx
        have HC5 : Hid (∀ c, c < 5 → wo.cell? ⟨bl, off + k * 5 + c, none⟩ = some ((#[.int .i64 kd, .string tx, .slice oo ops.length oc, .slice o1 lits.length c1, .slice o2 dists.length c2] : Array Value).getD c undef)) := Lib.hid (fun c hc => (HBW.out.cell (p := ⟨bl, off + k * 5 + c, none⟩) hbb).trans (hcc c hc))
        obtain ⟨wp, hwp⟩ : ∃ wp, wp = wo.alloc (.cells #[.int .i64 kd, .string tx, .slice oo ops.length oc, .slice o1 lits.length c1, .slice o2 dists.length c2] 80) := ⟨_, rfl⟩
        have hAL := below_alloc wo (.cells #[.int .i64 kd, .string tx, .slice oo ops.length oc, .slice o1 lits.length c1, .slice o2 dists.length c2] 80)
        have hPT := own_lit wo wo.heap.size #[.int .i64 kd, .string tx, .slice oo ops.length oc, .slice o1 lits.length c1, .slice o2 dists.length c2] 80 (by simp) (Nat.le_refl _)
        rw [← hwp] at hAL hPT
        have HAL := Lib.hid hAL
        have HPT := Lib.hid hPT
        have HWP := Lib.hid hwp
        have HXP := Lib.hid (HX.out.up hAL)
        have HBP := Lib.hid (HBW.out.trans (hAL.mono hsz))
        have HSO := Lib.hid (fun (W : World) (hb : Below w.heap.size w W) => hs.up hb)
        have hq0 : wp.cell? ⟨wo.heap.size, 0, none⟩ = some (.int .i64 kd) := hPT.cell (by simp)
        have hq1 : wp.cell? ⟨wo.heap.size, 1, none⟩ = some (.string tx) := hPT.cell (by simp)
        have hq2 : wp.cell? ⟨wo.heap.size, 2, none⟩ = some (.slice oo ops.length oc) := hPT.cell (by simp)
        have hqb := hPT.blk.2
        have hno : ops.length ≤ 9223372036854775807 := by
          obtain ⟨oa', cap', b', off', hv', hd', -⟩ := ops_open hs
          injection hv' with e1 e2 e3
          have := hd'.len
          omega
        unfold pkPart at HSK
        simp only at HSK
        clear hcc hi1 hi2 hs hix hAL hPT hwp HX HD HCO HOK
        go_upto_region 8 with (refine wpList_load_cells rfl 80 _ rfl bl (off + k * 5) 5 rfl #[.int .i64 kd, .string tx, .slice oo ops.length oc, .slice o1 lits.length c1, .slice o2 dists.length c2] _ HC5.out rfl Try.underlying80 rfl (by kernel_rfl) ?_)
        rw [← HWP.out]
        have HEE : Hid (∀ er b2, er ≠ 0 → partsN 10 (l.take (k + 1)) = (er, b2) → y = (er, [])) := Lib.hid (fun er b2 he h => by
          have h2 := HSTOP.out (by rw [h]; exact he)
          rw [h] at h2
          rw [HY.out, h2, if_pos he])
        have HYK := Lib.hid HY.out
        clear HY HSTOP HC5 HK
        by_cases hbad : kd < 0 ∨ 2 < kd
        · have hor : decide (kd < 0) = true ∨ (decide (kd < 0) = false ∧ decide (kd > 2) = true) := by
            simp only [decide_eq_true_eq, decide_eq_false_iff_not]; omega
          have HE := Lib.hid (HEE.out 1 b (by decide) (by rw [HSK.out, if_neg (by omega), if_neg (by omega)]))
          clear hbad
          rcases hor with h1 | ⟨h1, h2⟩ <;>
          · go_wp2
            go_ret2
            exact ⟨by rw [HE.out]; rfl, ex_ext HBP.out⟩
        · have h1 : decide (kd < 0) = false := by rw [decide_eq_false_iff_not]; omega
          have h2 : decide (kd > 2) = false := by rw [decide_eq_false_iff_not]; omega
          by_cases k0 : kd = 0
          · subst k0
            by_cases hbig : 65535 < tx.size
            · have hbi : decide ((tx.size : Int) > 65535) = true := by rw [decide_eq_true_iff]; omega
              have HE := Lib.hid (HEE.out 1 b (by decide) (by rw [HSK.out, if_pos rfl, if_pos hbig]))
              clear hbad hbig
              go_wp2
              go_ret2
              exact ⟨by rw [HE.out]; rfl, ex_ext HBP.out⟩
            · have hbi : decide ((tx.size : Int) > 65535) = false := by rw [decide_eq_false_iff_not]; omega
              have HSK2 : Hid (partsN 10 (l.take (k + 1)) = chkN (0, b ++ tx.data.toList)) := Lib.hid (by rw [HSK.out, if_pos rfl, if_neg hbig])
              have HT3 : Hid ((bytesV b).length + tx.size ≤ 4294967296) := Lib.hid (by rw [bytesV_length]; omega)
              have HT4 : Hid (w.heap.size ≤ wp.heap.size) := Lib.hid HBP.out.size
              have hlA : (bytesV b ++ bytesV tx.data.toList).length = b.length + tx.size := by rw [List.length_append, bytesV_length, bytesV_length]; simp
              have HLA := Lib.hid hlA
              have htx2 : tx.size ≤ 65535 := by omega
              clear hbad hbig HSK hlA
              go_wp2_with (at_builtin; refine wpList_app_str rfl (.tmp 45) (.tmp 47) 43 9 rfl w.heap.size 5 (.int .u8 0) 1 Try.underlying43 Try.underlying9 (by kernel_rfl) rfl (by decide) _ (bytesV b) rfl HXP.out tx rfl HT3.out HT4.out ?_; intro v' w5 hown1 hg1 hk1; have HO1 := Lib.hid hown1; have HG1 := Lib.hid hg1; have HP5 := Lib.hid (HPT.out.keep hg1 (.inr (by intro e; have e2 : some wo.heap.size = (Value.slice ov b.length cv).ownBlock := e; have := (HXP.out.lt _ e2.symm).2; have h9 := (HX0.out.lt _ e2.symm).2; omega))); clear hown1 hg1 hk1)
              have HB5 := Lib.hid (below_grown HBP.out HT4.out HXP.out HG1.out)
              obtain ⟨o5, k5, g5, hv5, hd5, -⟩ := HO1.out.cases
              rw [HLA.out] at hv5 hd5
              subst hv5
              have hq0 : w5.cell? ⟨wo.heap.size, 0, none⟩ = some (.int .i64 0) := HP5.out.cell (by simp)
              have hq2 : w5.cell? ⟨wo.heap.size, 2, none⟩ = some (.slice oo ops.length oc) := HP5.out.cell (by simp)
              have hqb := HP5.out.blk.2
              have hO5 : Own w5 w.heap.size 5 (.slice o5 (b.length + tx.size) k5) (bytesV (b ++ tx.data.toList)) := by rw [bytesV_append]; exact HO1.out
              have HO5 := Lib.hid hO5
              have hl5 : (b ++ tx.data.toList).length = b.length + tx.size := by rw [List.length_append]; simp
              have HL5 := Lib.hid hl5
              clear HO1 hd5 HP5 hO5 hl5
              obtain ⟨L5, hL5⟩ : ∃ L5, L5 = b.length + tx.size := ⟨_, rfl⟩
              rw [← hL5] at HO5 HL5 ⊢
              have hL5b : L5 ≤ 16842752 := by omega
              clear hL5
              go_loopg [4, 7] 1 (fun gk vb iv wr => vb = .slice o5 L5 k5 ∧ iv = .int .i64 0 ∧ wr = w5 ∧ gk = 1)
              case atStart => exact ⟨rfl, rfl, rfl, rfl⟩
              case round =>
                obtain ⟨rfl, rfl, rfl, rfl⟩ := hrel
                have fin : ∀ Pr : Prop, ((16777216 < L5 → Hid (y = (3, [])) → Pr) ∧ (¬ 16777216 < L5 → Hid (partsN 10 (l.take (k + 1)) = (0, b ++ tx.data.toList)) → Pr)) → Pr := fun Pr hP => by
                  by_cases hmx : 16777216 < L5
                  · refine hP.1 hmx (Lib.hid (HEE.out 3 (b ++ tx.data.toList) (by decide) ?_))
                    rw [HSK2.out]
                    unfold chkN
                    rw [if_neg (fun h => h rfl), HL5.out, if_pos hmx]
                  · refine hP.2 hmx (Lib.hid ?_)
                    rw [HSK2.out]
                    unfold chkN
                    rw [if_neg (fun h => h rfl), HL5.out, if_neg hmx]
                have hor : decide (0 < ops.length) = true ∨ decide (0 < ops.length) = false := by
                  cases decide (0 < ops.length) <;> simp
                refine fin _ ⟨fun hmx HE => ?_, fun hmx HE => ?_⟩
                · have hmi : (L5 : Int) > 16777216 := by omega
                  rcases hor with h5 | h5 <;>
                  · go_wp2
                    go_ret2
                    exact ⟨by rw [HE.out]; rfl, ex_ext HB5.out⟩
                · have hmi : ¬ (L5 : Int) > 16777216 := by omega
                  rcases hor with h5 | h5 <;>
                  · go_wp2
                    go_roundg (l.length + 1 - (k + 1))
                    case measure => omega
                    case rel => exact ⟨k + 1, b ++ tx.data.toList, by go_num, by omega, HE, by rw [HL5.out]; omega, HO5.out, HB5.out, rfl⟩
          · have hk0 : (kd == 0) = false := by simpa using k0
            have hkp : decide (kd > 0) = true := by rw [decide_eq_true_iff]; omega
            have HSK2 : Hid (partsN 10 (l.take (k + 1)) = chkN (opsN 10 b ops)) := Lib.hid (by rw [HSK.out, if_neg k0, if_pos (by omega)])
            have HDO := Lib.hid (fun (W : World) (vb : Value) (bk : Byts) (o : OpN) (ho : o ∈ ops) (ht : Own W w.heap.size 5 vb (bytesV bk)) (hB : w.heap.size ≤ W.heap.size) (hb : bk.length ≤ 16777216) => opRk ht (by omega) hB o.lit o.len o.dist (hlit o ho))
            have HST : Hid (∀ j bk, (hj : j < ops.length) → opsN 10 b (ops.take j) = (0, bk) → opsN 10 b (ops.take (j + 1)) = if (opN 10 bk ops[j]).1 ≠ 0 then opN 10 bk ops[j] else if 16777216 < (opN 10 bk ops[j]).2.length then (3, (opN 10 bk ops[j]).2) else opN 10 bk ops[j]) := Lib.hid (fun j bk hj h => opsN_take hj h)
            have HSTOP : Hid (∀ j, (opsN 10 b (ops.take j)).1 ≠ 0 → opsN 10 b ops = opsN 10 b (ops.take j)) := Lib.hid (fun j h => opsN_stop h)
            have HMEM : Hid (∀ j, (hj : j < ops.length) → ops[j] ∈ ops) := Lib.hid (fun j hj => List.getElem_mem hj)
            have HNQ : Hid ((Value.slice ov b.length cv).ownBlock ≠ some wo.heap.size) := Lib.hid (fun e => by have := (HX0.out.lt _ e).2; omega)
            clear hbad HSK hlit k0
            go_wp2
            go_loopg [4, 7] (ops.length + 1) (fun gk vb jv wr => ∃ (j : Nat) (bk : Byts), jv = .int .i64 j ∧ j ≤ ops.length ∧ Hid (opsN 10 b (ops.take j) = (0, bk)) ∧ bk.length ≤ 16777216 ∧ Own wr w.heap.size 5 vb (bytesV bk) ∧ Own wr wo.heap.size 80 (.slice (some ⟨wo.heap.size, 0, none⟩) 5 5) [.int .i64 kd, .string tx, .slice oo ops.length oc, .slice o1 lits.length c1, .slice o2 dists.length c2] ∧ vb.ownBlock ≠ some wo.heap.size ∧ Below w.heap.size w wr ∧ gk = ops.length + 1 - j)
            case atStart => exact ⟨0, b, rfl, Nat.zero_le _, Lib.hid rfl, hbk, HXP.out, HPT.out, HNQ.out, HBP.out, rfl⟩
            case round =>
              clear HXP HPT HBP HNQ HBW HX0 hq0 hq1 hq2 hqb HAL
              obtain ⟨j, bk, rfl, hj, HJ, hbj, hx, hpt, hnq, hbl, rfl⟩ := hrel
              have HX := Lib.hid hx
              have HPT := Lib.hid hpt
              have HNQ := Lib.hid hnq
              have HBL := Lib.hid hbl
              have hszr := hbl.size
              have hq0 : wr.cell? ⟨wo.heap.size, 0, none⟩ = some (.int .i64 kd) := hpt.cell (by simp)
              have hq2 : wr.cell? ⟨wo.heap.size, 2, none⟩ = some (.slice oo ops.length oc) := hpt.cell (by simp)
              have hqb := hpt.blk.2
              clear hx hpt hnq hbl
              by_cases hlt2 : j < ops.length
              · have hltj : decide ((j : Int) < (ops.length : Int)) = true := by rw [decide_eq_true_iff]; omega
                have hltj2 : decide (j < ops.length) = true := by rw [decide_eq_true_iff]; omega
                obtain ⟨oo', oc', ob', off', hv', hdo, hco⟩ := ops_open (HSO.out wr HBL.out)
                obtain ⟨rfl, -, rfl⟩ : oo = oo' ∧ ops.length = ops.length ∧ oc = oc' := by
                  injection hv' with e1 e2 e3; exact ⟨e1, rfl, e3⟩
                have hix := index_anyK (P := Try.prog) 3 32 75 Try.underlying32 (by kernel_rfl) hdo
                have hix2 := fun W kd => hix W kd (j : Int) (by omega) (by omega)
                simp only [Int.toNat_natCast] at hix2
                have hcc := hco j hlt2
                have hbb := hdo.hblk (by omega)
                have hst := HST.out j bk hlt2 HJ.out
                have HD1 := Lib.hid (HDO.out wr _ bk ops[j] (HMEM.out j hlt2) HX.out hszr hbj)
                have hsk := HSTOP.out (j + 1)
                rw [hst] at hsk
                have hlen2 := opN_len (eD := 10) (b := bk) (o := ops[j])
                generalize ops[j] = o at *
                obtain ⟨ol, on, od⟩ := o
                simp only at HD1
                generalize hyo : opN 10 bk ⟨ol, on, od⟩ = yo at *
                obtain ⟨er, b2⟩ := yo
                simp only at HD1 hst hsk hlen2
                have HC3 : Hid (∀ c, c < 3 → wr.cell? ⟨ob', off' + j * 3 + c, none⟩ = some ((#[.int .u8 (ol : Nat), .int .i64 on, .int .i64 od] : Array Value).getD c undef)) := Lib.hid (fun c hc => by
                  rw [hcc c hc]
                  match c, hc with
                  | 0, _ => rfl
                  | 1, _ => rfl
                  | 2, _ => rfl)
                have HST2 := Lib.hid hst
                have HSK3 := Lib.hid hsk
                clear hco hix hdo hv' hcc hst hsk hyo HSTOP HST HMEM HDO HSO
                unfold RetOpR at HD1
                simp only at HD1
                by_cases her : er = 0
                · subst her
                  go_upto_region 18 with (first
                    | (refine wpList_load_cells rfl 75 _ rfl ob' (off' + j * 3) 3 rfl #[.int .u8 (ol : Nat), .int .i64 on, .int .i64 od] _ HC3.out rfl Try.underlying75 rfl (by kernel_rfl) ?_)
                    | (go_at_call 41; (with_reducible refine HD1.out.mono ?_); rintro e w5 ⟨v5, rfl, hx5, hg5, hk5⟩; have HX5 := Lib.hid hx5; have HP5 := Lib.hid (HPT.out.keep hg5 (.inr (fun e => HNQ.out e.symm))); have HN5 : Hid (v5.ownBlock ≠ some wo.heap.size) := Lib.hid (fun e => (by rcases hk5 _ e with h | h; exact HNQ.out h; omega)); have HB5 := Lib.hid (below_grown HBL.out hszr HX.out hg5); clear hx5 hg5 hk5))
                  obtain ⟨o5, k5, q5, hv5, hd5, -⟩ := HX5.out.cases
                  rw [bytesV_length] at hv5 hd5
                  have hl5 := hd5.len
                  subst hv5
                  clear hd5
                  by_cases hmx : 16777216 < b2.length
                  · have hmi : (b2.length : Int) > 16777216 := by omega
                    have HE := Lib.hid (HEE.out 3 b2 (by decide) (by
                      have h2 := HSK3.out
                      rw [if_neg (fun h => h rfl), if_pos hmx] at h2
                      rw [HSK2.out, h2 (by intro h; cases h)]
                      rfl))
                    clear HSK3 HST2
                    generalize b2.length = l2 at *
                    go_wp2
                    go_ret2
                    exact ⟨by rw [HE.out]; rfl, ex_ext HB5.out⟩
                  · have hmi : ¬ (b2.length : Int) > 16777216 := by omega
                    have HK2 : Hid (opsN 10 b (ops.take (j + 1)) = (0, b2)) := Lib.hid (by
                      rw [HST2.out, if_neg (fun h => h rfl), if_neg hmx])
                    clear HSK3 HST2
                    obtain ⟨l2, hl2⟩ : ∃ l2, l2 = b2.length := ⟨_, rfl⟩
                    rw [← hl2] at hmi HX5 HN5 hl5 hmx ⊢
                    have HL2 := Lib.hid hl2
                    clear hl2
                    go_wp2
                    go_roundg (ops.length + 1 - (j + 1))
                    case measure => omega
                    case rel => exact ⟨j + 1, b2, by go_num, by omega, HK2, by rw [← HL2.out]; omega, HX5.out, HP5.out, HN5.out, HB5.out, rfl⟩
                · have hei : ((er : Int) != 0) = true := by simpa using her
                  have HE := Lib.hid (HEE.out er b2 her (by
                    have h2 := HSK3.out
                    rw [if_pos her] at h2
                    rw [HSK2.out, h2 her]
                    unfold chkN
                    rw [if_pos her]))
                  clear her HSK3 HST2
                  go_wp2_with (first
                    | (refine wpList_load_cells rfl 75 _ rfl ob' (off' + j * 3) 3 rfl #[.int .u8 (ol : Nat), .int .i64 on, .int .i64 od] _ HC3.out rfl Try.underlying75 rfl (by kernel_rfl) ?_)
                    | (go_at_call 41; (with_reducible refine HD1.out.mono ?_); rintro e w5 ⟨v5, rfl, hx5, hg5, hk5⟩; have HB5 := Lib.hid (below_grown HBL.out hszr HX.out hg5); clear hx5 hg5 hk5))
                  go_ret2
                  exact ⟨by rw [HE.out]; rfl, ex_ext HB5.out⟩
              · obtain rfl : j = ops.length := by omega
                have hltj : decide (ops.length < ops.length) = false := by simp
                have HK2 : Hid (partsN 10 (l.take (k + 1)) = (0, bk)) := Lib.hid (by
                  have h2 := HJ.out
                  rw [List.take_length] at h2
                  rw [HSK2.out, h2]
                  unfold chkN
                  rw [if_neg (fun h => h rfl), if_neg (by simp only; omega)])
                obtain ⟨o5, k5, q5, hv5, hd5, -⟩ := HX.out.cases
                rw [bytesV_length] at hv5 hd5
                subst hv5
                clear hd5 hlt2
                have hmi : ¬ (bk.length : Int) > 16777216 := by omega
                go_wp2
                go_roundg (l.length + 1 - (k + 1))
                case measure => omega
                case rel => exact ⟨k + 1, bk, by go_num, by omega, HK2, hbj, HX.out, HBL.out, rfl⟩
      · obtain rfl : k = l.length := by omega
        have HE : Hid (y = (0, b)) := Lib.hid (by
          have h2 := HK.out
          rw [List.take_length] at h2
          rw [HY.out, h2, if_neg (fun h => h rfl)])
        have hcv := run_bytes_string (P := Try.prog) wo 43 9 5 Try.underlying43 Try.underlying5 Try.underlying9 _ b HX.out.sl
        clear hlt
        generalize b.length = l2 at *
        go_wp2
        go_ret2
        exact ⟨by rw [HE.out]; rfl, ex_ext HBW.out⟩
end Go.Cm

/- The walks of what tells whether ops, and parts, are alike. Conditions: both read as the same list. -/
namespace Go.Cm
open Go.RowKit Go.Proofs

theorem part_i64 (W : World) (A : Array Value) (o : Nat) (v : Int) (h : A[o]? = some (.int .i64 v)) : (part 3 A o).run Try.prog W = .ok (.int .i64 v) W := by
  unfold part
  have h1 : (isAgg 3).run Try.prog W = .ok false W := by unfold isAgg; rw [Sem.run_bind, run_underlying Try.underlying3]; rfl
  rw [Sem.run_bind, h1]
  simp only [Result.andThen_ok, h]; rfl
theorem part_by (W : World) (A : Array Value) (o : Nat) (v : Int) (h : A[o]? = some (.int .u8 v)) : (part 5 A o).run Try.prog W = .ok (.int .u8 v) W := by
  unfold part
  have h1 : (isAgg 5).run Try.prog W = .ok false W := by unfold isAgg; rw [Sem.run_bind, run_underlying Try.underlying5]; rfl
  rw [Sem.run_bind, h1]
  simp only [Result.andThen_ok, h]; rfl
def opA (a n d : Int) : Array Value := #[.int .u8 a, .int .i64 n, .int .i64 d]
theorem run_equal_op (W : World) (a n d a' n' d' : Int) : (Op.equalIn 10000 75 (.agg (opA a n d)) (.agg (opA a' n' d'))).run Try.prog W = .ok (decide (a = a' ∧ n = n' ∧ d = d')) W := by
  have hu : Try.prog.underlying 75 = some (.struct (Try.prog.fieldsOf 75)) := by simp only [Program.fieldsOf, Try.underlying75]
  rw [run_equalIn_struct W 9999 75 _ _ hu (by kernel_rfl)]
  simp only [Program.fieldsOf, Try.underlying75]
  have p0 := fun (W : World) (a n d : Int) => part_by W (opA a n d) 0 a rfl
  have p1 := fun (W : World) (a n d : Int) => part_i64 W (opA a n d) 1 n rfl
  have p2 := fun (W : World) (a n d : Int) => part_i64 W (opA a n d) 2 d rfl
  have ei : ∀ (a b : Int) (W : World), (Op.equalIn 9999 3 (.int .i64 a) (.int .i64 b)).run Try.prog W = .ok (a == b) W := fun a b W => run_equalIn_int W 9998 3 .i64 .i64 a b Try.underlying3
  have e8 : ∀ (a b : Int) (W : World), (Op.equalIn 9999 5 (.int .u8 a) (.int .u8 b)).run Try.prog W = .ok (a == b) W := fun a b W => run_equalIn_int W 9998 5 .u8 .u8 a b Try.underlying5
  simp only [Op.eqFields, ne_eq, String.reduceEq, not_false_eq_true, if_true, Sem.run_bind, Sem.run_ite, Sem.run_pure, p0, p1, p2, Result.andThen_ok, ei, e8]
  have hd : decide (a = a' ∧ n = n' ∧ d = d') = (a == a' && (n == n' && d == d')) := by
    rw [Bool.eq_iff_iff, decide_eq_true_iff]
    simp only [Bool.and_eq_true, beq_iff_eq]
  rw [hd]
  generalize (a == a') = b1
  generalize (n == n') = b2
  generalize (d == d') = b3
  cases b1 <;> cases b2 <;> cases b3 <;> rfl
theorem cmp_op (W : World) (a n d a' n' d' : Int) : (binOp .neq 75 (.agg #[.int .u8 a, .int .i64 n, .int .i64 d]) (.agg #[.int .u8 a', .int .i64 n', .int .i64 d'])).run Try.prog W = .ok (.bool (!decide (a = a' ∧ n = n' ∧ d = d'))) W := by
  have h := run_equal_op W a n d a' n' d'
  rw [run_neq_struct]
  unfold opA at h
  rw [h]; rfl
theorem cmq_op (W : World) (a n d a' n' d' : Int) : (binOp .eql 75 (.agg #[.int .u8 a, .int .i64 n, .int .i64 d]) (.agg #[.int .u8 a', .int .i64 n', .int .i64 d'])).run Try.prog W = .ok (.bool (decide (a = a' ∧ n = n' ∧ d = d'))) W := by
  have h := run_equal_op W a n d a' n' d'
  rw [run_eql_struct]
  unfold opA at h
  rw [h]; rfl
theorem eqGuard_op (W : World) (o : BinOp) (x y : Operand) (X Y : Array Value) : (eqGuard o 75 x y (.agg X) (.agg Y)).run Try.prog W = .ok () W := run_eqGuard_agg W o 75 x y X Y (by kernel_rfl)
set_option maxRecDepth 100000 in
set_option maxHeartbeats 4000000 in
theorem opsSameR {w : World} {v1 v2 : Value} {l : List OpN} (h1 : SlK 3 w v1 (l.map opV)) (h2 : SlK 3 w v2 (l.map opV)) : Calls Try.prog 19 #[v1, v2] w fun e w' => e = .returned (.bool true) ∧ ∃ x, w' = ext w x := by
  obtain ⟨oa, ca, ba, fa, rfl, hda, hca⟩ := ops_open h1
  obtain ⟨ob, cb, bb, fb, rfl, hdb, hcb⟩ := ops_open h2
  have hm := hda.len
  have HCA := Lib.hid hca
  have HCB := Lib.hid hcb
  have HDA := Lib.hid hda
  have HDB := Lib.hid hdb
  have cm := cmp_op
  have eg := eqGuard_op
  clear h1 h2 hda hca hdb hcb
  go_enter Try.func19, Try.ntmps19
  go_wp2
  go_loopg [5] (l.length + 1) (fun gk iv wr => ∃ k : Nat, iv = .int .i64 k ∧ k ≤ l.length ∧ (∃ x, wr = ext w x) ∧ gk = l.length + 1 - k)
  case atStart => exact ⟨0, rfl, Nat.zero_le _, (ex_ext (by repeat (first | exact Below.refl _ _ | assumption | refine b_drewN ?_ _ | refine Below.drew ?_ | refine b_ext' ?_ _ | refine b_alloc' ?_ _))), rfl⟩
  case round =>
    obtain ⟨k, rfl, hk, hbl, rfl⟩ := hrel
    have HBL := Lib.hid (below_ext hbl)
    clear hbl
    by_cases hlt : k < l.length
    · have hlti : decide (k < l.length) = true := by rw [decide_eq_true_iff]; omega
      have hixa := fun W kd => index_anyK (P := Try.prog) 3 32 75 Try.underlying32 (by kernel_rfl) HDA.out W kd (k : Int) (by omega) (by omega)
      have hixb := fun W kd => index_anyK (P := Try.prog) 3 32 75 Try.underlying32 (by kernel_rfl) HDB.out W kd (k : Int) (by omega) (by omega)
      simp only [Int.toNat_natCast] at hixa hixb
      have HBA := Lib.hid (HDA.out.hblk (by omega))
      have HBB := Lib.hid (HDB.out.hblk (by omega))
      have HKA := Lib.hid (HCA.out k hlt)
      have HKB := Lib.hid (HCB.out k hlt)
      generalize l[k] = o at *
      obtain ⟨a, n, d⟩ := o
      have HQA : Hid (∀ w', (∃ x, w' = ext wr x) → ∀ c, c < 3 → w'.cell? ⟨ba, fa + k * 3 + c, none⟩ = some ((#[.int .u8 a, .int .i64 n, .int .i64 d] : Array Value).getD c undef)) := Lib.hid (fun w' hw' c hc => by
        rw [(HBL.out.trans ((below_ext hw').mono HBL.out.size)).cell (p := ⟨ba, fa + k * 3 + c, none⟩) HBA.out, HKA.out c hc]
        rcases (show c = 0 ∨ c = 1 ∨ c = 2 by omega) with rfl | rfl | rfl <;> rfl)
      have HQB : Hid (∀ w', (∃ x, w' = ext wr x) → ∀ c, c < 3 → w'.cell? ⟨bb, fb + k * 3 + c, none⟩ = some ((#[.int .u8 a, .int .i64 n, .int .i64 d] : Array Value).getD c undef)) := Lib.hid (fun w' hw' c hc => by
        rw [(HBL.out.trans ((below_ext hw').mono HBL.out.size)).cell (p := ⟨bb, fb + k * 3 + c, none⟩) HBB.out, HKB.out c hc]
        rcases (show c = 0 ∨ c = 1 ∨ c = 2 by omega) with rfl | rfl | rfl <;> rfl)
      go_wp2_with (fail)
      refine wp_region_ext (by kernel_rfl) (by kernel_rfl) ?_
      repeat (first
        | (go_big_quiet_want; refine quiet_load_cells 75 3 _ rfl ba (fa + k * 3) rfl #[.int .u8 a, .int .i64 n, .int .i64 d] rfl HQA.out _ Try.underlying75 rfl (by kernel_rfl) ?_; go_simp; go_big_quiet_on)
        | (go_big_quiet_want; refine quiet_load_cells 75 3 _ rfl bb (fb + k * 3) rfl #[.int .u8 a, .int .i64 n, .int .i64 d] rfl HQB.out _ Try.underlying75 rfl (by kernel_rfl) ?_; go_simp; go_big_quiet_on)
        | go_big_quiet_step (fail))
      refine wpQuiet_nil ?_
      intro w7 hw7
      have HB7 := Lib.hid (HBL.out.trans ((below_ext hw7).mono HBL.out.size))
      clear hw7 HQA HQB
      go_wp2
      go_roundg (l.length + 1 - (k + 1))
      case measure => omega
      case rel => exact ⟨k + 1, by go_num, by omega, ex_ext HB7.out, rfl⟩
    · have hlti : decide (k < l.length) = false := by rw [decide_eq_false_iff_not]; omega
      go_wp2
      go_ret
      exact ⟨rfl, ex_ext HBL.out⟩
set_option maxRecDepth 100000 in
set_option maxHeartbeats 4000000 in
theorem sameR {w : World} {v1 v2 : Value} {l : List PtN} (h1 : PartsAt w v1 l) (h2 : PartsAt w v2 l) : Calls Try.prog 22 #[v1, v2] w fun e w' => e = .returned (.bool true) ∧ ∃ x, w' = ext w x := by
  obtain ⟨oa, ca, ba, fa, rfl, hda, hca⟩ := h1.open
  obtain ⟨ob, cb, bb, fb, rfl, hdb, hcb⟩ := h2.open
  have hm := hda.len
  have HCA := Lib.hid hca
  have HCB := Lib.hid hcb
  have HDA := Lib.hid hda
  have HDB := Lib.hid hdb
  clear h1 h2 hda hca hdb hcb
  go_enter Try.func22, Try.ntmps22
  go_wp2
  go_loopg [5] (l.length + 1) (fun gk iv wr => ∃ k : Nat, iv = .int .i64 k ∧ k ≤ l.length ∧ (∃ x, wr = ext w x) ∧ gk = l.length + 1 - k)
  case atStart => exact ⟨0, rfl, Nat.zero_le _, (ex_ext (by repeat (first | exact Below.refl _ _ | assumption | refine b_drewN ?_ _ | refine Below.drew ?_ | refine b_ext' ?_ _ | refine b_alloc' ?_ _))), rfl⟩
  case round =>
    obtain ⟨k, rfl, hk, hbl, rfl⟩ := hrel
    have HBL := Lib.hid (below_ext hbl)
    clear hbl
    by_cases hlt : k < l.length
    · have hlti : decide (k < l.length) = true := by rw [decide_eq_true_iff]; omega
      have hixa := fun W kd => index_anyK (P := Try.prog) 5 22 80 Try.underlying22 (by kernel_rfl) HDA.out W kd (k : Int) (by omega) (by omega)
      have hixb := fun W kd => index_anyK (P := Try.prog) 5 22 80 Try.underlying22 (by kernel_rfl) HDB.out W kd (k : Int) (by omega) (by omega)
      simp only [Int.toNat_natCast] at hixa hixb
      have HBA := Lib.hid (HDA.out.hblk (by omega))
      have HBB := Lib.hid (HDB.out.hblk (by omega))
      obtain ⟨a1, n1, a2, n2, a3, n3, hA, sA, -, -⟩ := HCA.out k hlt
      obtain ⟨b1, m1, b2, m2, b3, m3, hB, sB, -, -⟩ := HCB.out k hlt
      have HO := Lib.hid (fun x => opsSameR ((sA.up HBL.out).up (ext_below wr x)) ((sB.up HBL.out).up (ext_below wr x)))
      generalize l.getD k zPt = p at *
      obtain ⟨kd, tx, ops, lits, dists⟩ := p
      simp only at hA hB HO
      have HKA := Lib.hid (fun c hc => (HBL.out.cell (p := ⟨ba, fa + k * 5 + c, none⟩) HBA.out).trans (hA c hc))
      have HKB := Lib.hid (fun c hc => (HBL.out.cell (p := ⟨bb, fb + k * 5 + c, none⟩) HBB.out).trans (hB c hc))
      generalize ops.length = q1 at *
      generalize lits.length = q2 at *
      generalize dists.length = q3 at *
      have HBR : Hid (ba < wr.heap.size ∧ bb < wr.heap.size) := Lib.hid ⟨by have := HBL.out.size; have := HBA.out; omega, by have := HBL.out.size; have := HBB.out; omega⟩
      clear hA hB sA sB
      have e0 : wr.cell? ⟨ba, fa + k * 5, none⟩ = some (.int .i64 kd) := HKA.out 0 (by decide)
      have e1 : wr.cell? ⟨ba, fa + k * 5 + 1, none⟩ = some (.string tx) := HKA.out 1 (by decide)
      have e2 : wr.cell? ⟨ba, fa + k * 5 + 2, none⟩ = some (.slice a1 q1 n1) := HKA.out 2 (by decide)
      have e3 : wr.cell? ⟨ba, fa + k * 5 + 3, none⟩ = some (.slice a2 q2 n2) := HKA.out 3 (by decide)
      have e4 : wr.cell? ⟨ba, fa + k * 5 + 4, none⟩ = some (.slice a3 q3 n3) := HKA.out 4 (by decide)
      have f0 : wr.cell? ⟨bb, fb + k * 5, none⟩ = some (.int .i64 kd) := HKB.out 0 (by decide)
      have f1 : wr.cell? ⟨bb, fb + k * 5 + 1, none⟩ = some (.string tx) := HKB.out 1 (by decide)
      have f2 : wr.cell? ⟨bb, fb + k * 5 + 2, none⟩ = some (.slice b1 q1 m1) := HKB.out 2 (by decide)
      have f3 : wr.cell? ⟨bb, fb + k * 5 + 3, none⟩ = some (.slice b2 q2 m2) := HKB.out 3 (by decide)
      have f4 : wr.cell? ⟨bb, fb + k * 5 + 4, none⟩ = some (.slice b3 q3 m3) := HKB.out 4 (by decide)
      obtain ⟨g1, g2⟩ := HBR.out
      go_wp2_with (fail)
      refine wp_region_ext (by kernel_rfl) (by kernel_rfl) ?_
      simp only [List.append_eq, List.cons_append, List.nil_append]
      repeat (go_big_quiet_step ((go_at_call 19; exact calls_in (HO.out _))))
      refine wpQuiet_nil ?_
      intro w7 hw7
      have HB7 := Lib.hid (HBL.out.trans ((below_ext hw7).mono HBL.out.size))
      clear hw7 e0 e1 e2 e3 e4 f0 f1 f2 f3 f4 g1 g2
      go_wp2
      go_roundg (l.length + 1 - (k + 1))
      case measure => omega
      case rel => exact ⟨k + 1, by go_num, by omega, ex_ext HB7.out, rfl⟩
    · have hlti : decide (k < l.length) = false := by rw [decide_eq_false_iff_not]; omega
      go_wp2
      go_ret
      exact ⟨rfl, ex_ext HBL.out⟩
end Go.Cm

/- What the laws of package pack know of the code's own constants. Conditions: none. -/
namespace Go.Cm
open Go.RowKit Go.Proofs

def knP : List PtN := [⟨1, ⟨#[]⟩, [⟨97, 0, 0⟩], [], []⟩]
theorem kn_text : textOf 10 17 knP = (0, [97]) := by kernel_rfl
theorem kn_enc : encR knP = (0, [75, 4, 0]) := by kernel_rfl
theorem kn_enck : (encK knP 1).2.2 ≤ 90000000 := by decide +kernel
theorem kn_ops : opsOf [97, 97, 97, 97] = [⟨97, 0, 0⟩, ⟨0, 3, 1⟩] := by kernel_rfl
theorem kn_split : (splitN [] 0).length = 1 := by kernel_rfl
theorem kn_nil : textOf 10 17 [] = (17, []) := rfl
theorem kn_parts (w : World) : PartsAt ((w.alloc (.cells #[.int .u8 97, .int .i64 0, .int .i64 0] 75)).alloc (.cells #[.int .i64 1, .string ⟨#[]⟩, .slice (some ⟨w.heap.size, 0, none⟩) 1 1, .slice none 0 0, .slice none 0 0] 41)) (.slice (some ⟨w.heap.size + 1, 0, none⟩) 1 1) knP := by
  have h1 := slK_lit 3 w #[.int .u8 97, .int .i64 0, .int .i64 0] 75 [[.int .u8 97, .int .i64 0, .int .i64 0]] rfl (by intro x hx; simp at hx; subst hx; rfl) (by simp)
  have h1' : SlK 3 (w.alloc (.cells #[.int .u8 97, .int .i64 0, .int .i64 0] 75)) (.slice (some ⟨w.heap.size, 0, none⟩) 1 1) [[.int .u8 97, .int .i64 0, .int .i64 0]] := by simpa using h1
  have h2 := part_lit (w.alloc (.cells #[.int .u8 97, .int .i64 0, .int .i64 0] 75)) 41 1 ⟨#[]⟩ (some ⟨w.heap.size, 0, none⟩) 1 1
  refine ⟨_, by simpa using h2, rfl, fun i hi => ?_⟩
  obtain rfl : i = 0 := by simp [knP] at hi; omega
  exact ⟨_, _, _, rfl, h1'.up (below_alloc _ _), Sl.nil _, Sl.nil _⟩
theorem kn_ok : (∀ p ∈ knP, PtOk p) ∧ (∀ p ∈ knP, ∀ o ∈ p.ops, OpOk o) ∧ (∀ p ∈ knP, PtSm p) := by
  refine ⟨fun p hp => ?_, fun p hp o ho => ?_, fun p hp => ?_⟩
  · simp [knP] at hp; subst hp
    exact ⟨fun o ho => by simp at ho; subst ho; decide, by decide⟩
  · simp [knP] at hp; subst hp
    simp at ho; subst ho
    exact ⟨by decide, by decide, by decide, by decide, by decide⟩
  · simp [knP] at hp; subst hp
    exact ⟨by decide, by decide⟩
theorem kn_encode (w : World) {v : Value} (h : PartsAt w v knP) : Calls Try.prog 17 #[v] w fun e w' => e = .returned (.tuple #[.string ⟨#[75, 4, 0]⟩, .int .i64 0]) ∧ ∃ x, w' = ext w x := by
  have := encodePk h kn_ok.1 kn_ok.2.1 kn_ok.2.2 (fun k hk => by
    rcases (show k = 0 ∨ k = 1 by have : knP.length = 1 := rfl; omega) with rfl | rfl
    · decide
    · exact kn_enck)
  rw [kn_enc] at this
  exact this
theorem kn_textc (w : World) {v : Value} (h : PartsAt w v knP) : Calls Try.prog 14 #[v] w fun e w' => e = .returned (.tuple #[.string ⟨#[97]⟩, .int .i64 0]) ∧ ∃ x, w' = ext w x := by
  have := textPk h kn_ok.1
  rw [kn_text] at this
  exact this
theorem kn_textn (w : World) : Calls Try.prog 14 #[.slice none 0 0] w fun e w' => e = .returned (.tuple #[.string ⟨#[]⟩, .int .i64 17]) ∧ ∃ x, w' = ext w x := by
  have h : PartsAt w (.slice none 0 0) [] := ⟨[], SlK.nil 5 w, rfl, fun i hi => absurd hi (Nat.not_lt_zero i)⟩
  have := textPk h (fun p hp => by cases hp)
  rw [kn_nil] at this
  exact this
theorem kn_opsc (w : World) : Calls Try.prog 20 #[.string ⟨#[97, 97, 97, 97]⟩] w fun e w' => ∃ oa ca b off, e = .returned (.slice oa 2 ca) ∧ Hd w' oa 2 ca b off ∧ (∀ c, c < 3 → w'.cell? ⟨b, off + 3 + c, none⟩ = some ((#[.int .u8 0, .int .i64 3, .int .i64 1] : Array Value).getD c undef)) ∧ ∃ x, w' = ext w x := by
  refine (opsPk ⟨#[97, 97, 97, 97]⟩ (by decide) w).mono ?_
  rintro e w' ⟨v, rfl, ho, hb⟩
  have hs := ho.sl
  rw [show opsOf (bys ⟨#[97, 97, 97, 97]⟩) = [⟨97, 0, 0⟩, ⟨0, 3, 1⟩] from kn_ops] at hs
  obtain ⟨oa, cap, b, off, rfl, hd, hc⟩ := hs
  refine ⟨oa, cap, b, off, rfl, hd, fun c hc3 => ?_, ex_ext hb⟩
  have := hc 1 (by decide) c hc3
  rw [Nat.one_mul] at this
  rw [this]
  rcases (show c = 0 ∨ c = 1 ∨ c = 2 by omega) with rfl | rfl | rfl <;> rfl
theorem kn_splitc (w : World) : Calls Try.prog 24 #[.string ⟨#[]⟩, .int .i64 0] w fun e w' => ∃ oa ca, e = .returned (.slice oa 1 ca) ∧ ∃ x, w' = ext w x := by
  refine (splitPk ⟨#[]⟩ 0 (by decide) w).mono ?_
  rintro e w' ⟨v, rfl, ho, hb⟩
  obtain ⟨oa, cap, b, off, rfl, -, -⟩ := ho.at.open
  refine ⟨oa, cap, ?_, ex_ext hb⟩
  rw [show (splitN (bys ⟨#[]⟩) 0).length = 1 from kn_split]
set_option maxRecDepth 100000 in
set_option maxHeartbeats 4000000 in
theorem known11 {w : World} : Calls Try.prog 13 #[] w fun e w' => e = .returned (.bool true) ∧ ∃ x, w' = ext w x := by
  have HP := Lib.hid (kn_parts w)
  have cq := cmq_op
  have eg := eqGuard_op
  go_enter Try.func13, Try.ntmps13
  go_upto_region 2 with (fail)
  have HB2 : Hid (Below w.heap.size w ((w.alloc (.cells #[.int .u8 97, .int .i64 0, .int .i64 0] 75)).alloc (.cells #[.int .i64 1, .string ⟨#[]⟩, .slice (some ⟨w.heap.size, 0, none⟩) 1 1, .slice none 0 0, .slice none 0 0] 41))) := Lib.hid (by
    have h1 := below_alloc w (.cells #[.int .u8 97, .int .i64 0, .int .i64 0] 75)
    exact h1.trans ((below_alloc _ _).mono h1.size))
  generalize (w.alloc (.cells #[.int .u8 97, .int .i64 0, .int .i64 0] 75)).alloc (.cells #[.int .i64 1, .string ⟨#[]⟩, .slice (some ⟨w.heap.size, 0, none⟩) 1 1, .slice none 0 0, .slice none 0 0] 41) = w2 at *
  go_upto_region 6 with (first | ((with_reducible go_at_call 17); (with_reducible refine (kn_encode w2 HP.out).mono ?_); rintro en w3 ⟨rfl, x3, rfl⟩) | ((with_reducible go_at_call 14); (with_reducible refine (kn_textc _ (HP.out.up (ext_below w2 x3))).mono ?_); rintro en w4 ⟨rfl, x4, rfl⟩) | ((with_reducible go_at_call 20); (with_reducible refine (kn_opsc _).mono ?_); rintro en w5 ⟨oa, ca, b, off, rfl, hd, hc, x5, rfl⟩; have HD := Lib.hid hd; have HC := Lib.hid hc; clear hd hc) | ((with_reducible go_at_call 14); (with_reducible refine (kn_textn _).mono ?_); rintro en w6 ⟨rfl, x6, rfl⟩) | fail)
  have HB6 := Lib.hid (HB2.out.trans (((ext_below w2 x3).trans (((ext_below _ x4).trans (((ext_below _ x5).trans ((ext_below _ x6).mono (size_ext _ x5))).mono (size_ext _ x4))).mono (size_ext _ x3))).mono HB2.out.size))
  have hix := fun W kd => index_anyK (P := Try.prog) 3 32 75 Try.underlying32 (by kernel_rfl) HD.out W kd 1 (by omega) (by omega)
  have hbk := HD.out.hblk (by decide)
  have hcc : ∀ c, c < 3 → (ext (ext (ext (ext w2 x3) x4) x5) x6).cell? ⟨b, off + 3 + c, none⟩ = some ((#[.int .u8 0, .int .i64 3, .int .i64 1] : Array Value).getD c undef) := fun c hc => ((ext_below _ x6).cell (p := ⟨b, off + 3 + c, none⟩) hbk).trans (HC.out c hc)
  simp only [show (1 : Int).toNat * 3 = 3 from rfl] at hix
  have HCC := Lib.hid hcc
  clear hbk hcc
  generalize ext (ext (ext (ext w2 x3) x4) x5) x6 = w6 at *
  have e0 : w6.cell? ⟨b, off + 3, none⟩ = some (.int .u8 0) := HCC.out 0 (by decide)
  have e1 : w6.cell? ⟨b, off + 3 + 1, none⟩ = some (.int .i64 3) := HCC.out 1 (by decide)
  have e2 : w6.cell? ⟨b, off + 3 + 2, none⟩ = some (.int .i64 1) := HCC.out 2 (by decide)
  go_wp2_with (first | ((with_reducible go_at_call 24); (with_reducible refine (kn_splitc _).mono ?_); rintro en w7 ⟨o7, c7, rfl, x7, rfl⟩) | fail)
  go_ret
  exact ⟨rfl, ex_ext (HB6.out.trans ((ext_below _ x7).mono HB6.out.size))⟩
end Go.Cm

/- The walks of the document's symbols of lengths and distances. Conditions: none. -/
namespace Go.Cm
open Go.RowKit Go.Proofs

theorem rbits4 (i : Nat) (hi : i < 100) (w : World) : Calls Try.prog 121 #[.int .i64 i, .int .i64 4] w fun e w' => e = .returned (.int .i64 (spB 4 i : Nat)) ∧ ∃ x, w' = ext w x := by
  have h1 : (i : Int).tdiv 4 = ((i / 4 : Nat) : Int) := by norm_cast
  have hl : i / 4 < 100 := by omega
  unfold spB
  by_cases h : i < 2 * 4
  · have hd : decide ((i : Int) < 2 * 4) = true := by rw [decide_eq_true_iff]; omega
    have e : i / 4 - 1 = 0 := by omega
    rw [e]
    go_enter Try.func121, Try.ntmps121
    go_wp2
    go_ret
    exact ⟨rfl, (ex_ext (by repeat (first | exact Below.refl _ _ | assumption | refine b_drewN ?_ _ | refine Below.drew ?_ | refine b_ext' ?_ _ | refine b_alloc' ?_ _)))⟩
  · have hd : decide ((i : Int) < 2 * 4) = false := by rw [decide_eq_false_iff_not]; omega
    have e : ((i / 4 - 1 : Nat) : Int) = (i : Int) / 4 - 1 := by omega
    rw [e]
    go_enter Try.func121, Try.ntmps121
    go_wp2
    go_ret
    exact ⟨rfl, (ex_ext (by repeat (first | exact Below.refl _ _ | assumption | refine b_drewN ?_ _ | refine Below.drew ?_ | refine b_ext' ?_ _ | refine b_alloc' ?_ _)))⟩
set_option maxRecDepth 100000 in
theorem lenR0 (i : Nat) (hi : i ≤ 27) (w : World) : Calls Try.prog 101 #[.int .i64 ((257 + i : Nat) : Int)] w fun e w' => e = .returned (.tuple #[.int .i64 (spBase 3 4 i : Nat), .int .i64 (spB 4 i : Nat), .bool true]) ∧ ∃ x, w' = ext w x := by
  have HBI := Lib.hid (fun (i : Nat) (hi : i < 100) (W : World) => rbits4 i hi W)
  obtain ⟨s, hs⟩ : ∃ s, s = 257 + i := ⟨_, rfl⟩
  rw [← hs]
  have hs2 : s ≤ 257 + 27 := by omega
  have hs1 : 257 ≤ s := by omega
  have h285 : ((s : Int) == 285) = false := by simp; omega
  have hdl : decide ((s : Int) < 257) = false := by rw [decide_eq_false_iff_not]; omega
  have hdr : decide ((s : Int) > 285) = false := by rw [decide_eq_false_iff_not]; omega
  have HS := Lib.hid hs
  clear hs
  go_enter Try.func101, Try.ntmps101
  go_wp2
  go_loopg [5, 6] (i + 1) (fun gk bv sv wr => ∃ k : Nat, bv = .int .i64 (spBase 3 4 k : Nat) ∧ sv = .int .i64 ((257 + k : Nat) : Int) ∧ k ≤ i ∧ Below w.heap.size w wr ∧ gk = i + 1 - k)
  case atStart => exact ⟨0, rfl, rfl, Nat.zero_le _, Below.refl _ _, rfl⟩
  case round =>
    obtain ⟨k, rfl, rfl, hk, hbel, rfl⟩ := hrel
    have HBL := Lib.hid hbel
    have HBK := Lib.hid (fun W => HBI.out k (by omega) W)
    have hbs := spBase4_le k (by omega)
    have hb13 := spB4_le k (by omega)
    have hp := Nat.pow_le_pow_right (n := 2) (by decide) hb13
    have hpi : (2 : Int) ^ (spB 4 k) ≤ 8192 := by
      have h : ((2 ^ spB 4 k : Nat) : Int) ≤ 8192 := by omega
      simpa using h
    have hpi0 : (0 : Int) ≤ (2 : Int) ^ (spB 4 k) := Int.pow_nonneg (by decide)
    have HN1 : Hid (((spBase 3 4 (k + 1) : Nat) : Int) = ((spBase 3 4 k : Nat) : Int) + 2 ^ (spB 4 k)) := Lib.hid (by rw [spBase_step]; norm_cast)
    have hs := HS.out
    obtain ⟨v, hv⟩ : ∃ v, v = 257 + k := ⟨_, rfl⟩
    have hvk : (v : Int) - 257 = (k : Int) := by omega
    clear hbel
    by_cases hlt : k < i
    · have hd : v < s := by omega
      have hv1 : ((257 + (k + 1) : Nat) : Int) = (v : Int) + 1 := by omega
      have HV1 := Lib.hid hv1
      rw [← hv]
      clear hs hv1
      clear hv
      generalize spB 4 k = b at *
      generalize spBase 3 4 k = q at *
      go_wp2_with (go_at_call 121; (with_reducible refine (HBK.out _).mono ?_); rintro e w4 ⟨rfl, x4, rfl⟩)
      go_roundg (i + 1 - (k + 1))
      case measure => omega
      case rel => exact ⟨k + 1, by rw [HN1.out], by rw [HV1.out], by omega, HBL.out.trans ((ext_below _ x4).mono HBL.out.size), rfl⟩
    · obtain rfl : k = i := by omega
      have hd : decide (v < s) = false := by rw [decide_eq_false_iff_not]; omega
      have hsk : (s : Int) - 257 = (k : Int) := by omega
      clear hs hlt hv hvk
      
      go_wp2_with (go_at_call 121; (with_reducible refine (HBK.out _).mono ?_); rintro e w4 ⟨rfl, x4, rfl⟩)
      go_ret3
      exact ⟨rfl, ex_ext (HBL.out.trans ((ext_below _ x4).mono HBL.out.size))⟩
theorem rbits2 (i : Nat) (hi : i < 100) (w : World) : Calls Try.prog 121 #[.int .i64 i, .int .i64 2] w fun e w' => e = .returned (.int .i64 (spB 2 i : Nat)) ∧ ∃ x, w' = ext w x := by
  have h1 : (i : Int).tdiv 2 = ((i / 2 : Nat) : Int) := by norm_cast
  have hl : i / 2 < 100 := by omega
  unfold spB
  by_cases h : i < 2 * 2
  · have hd : decide ((i : Int) < 2 * 2) = true := by rw [decide_eq_true_iff]; omega
    have e : i / 2 - 1 = 0 := by omega
    rw [e]
    go_enter Try.func121, Try.ntmps121
    go_wp2
    go_ret
    exact ⟨rfl, (ex_ext (by repeat (first | exact Below.refl _ _ | assumption | refine b_drewN ?_ _ | refine Below.drew ?_ | refine b_ext' ?_ _ | refine b_alloc' ?_ _)))⟩
  · have hd : decide ((i : Int) < 2 * 2) = false := by rw [decide_eq_false_iff_not]; omega
    have e : ((i / 2 - 1 : Nat) : Int) = (i : Int) / 2 - 1 := by omega
    rw [e]
    go_enter Try.func121, Try.ntmps121
    go_wp2
    go_ret
    exact ⟨rfl, (ex_ext (by repeat (first | exact Below.refl _ _ | assumption | refine b_drewN ?_ _ | refine Below.drew ?_ | refine b_ext' ?_ _ | refine b_alloc' ?_ _)))⟩
set_option maxRecDepth 100000 in
theorem dstR0 (i : Nat) (hi : i ≤ 29) (w : World) : Calls Try.prog 102 #[.int .i64 ((0 + i : Nat) : Int)] w fun e w' => e = .returned (.tuple #[.int .i64 (spBase 1 2 i : Nat), .int .i64 (spB 2 i : Nat), .bool true]) ∧ ∃ x, w' = ext w x := by
  have HBI := Lib.hid (fun (i : Nat) (hi : i < 100) (W : World) => rbits2 i hi W)
  obtain ⟨s, hs⟩ : ∃ s, s = 0 + i := ⟨_, rfl⟩
  rw [← hs]
  have hs2 : s ≤ 0 + 29 := by omega
  have hs1 : 0 ≤ s := by omega
  have hdl : decide ((s : Int) < 0) = false := by rw [decide_eq_false_iff_not]; omega
  have hdr : decide ((s : Int) > 29) = false := by rw [decide_eq_false_iff_not]; omega
  have HS := Lib.hid hs
  clear hs
  go_enter Try.func102, Try.ntmps102
  go_wp2
  go_loopg [5, 6] (i + 1) (fun gk bv sv wr => ∃ k : Nat, bv = .int .i64 (spBase 1 2 k : Nat) ∧ sv = .int .i64 ((0 + k : Nat) : Int) ∧ k ≤ i ∧ Below w.heap.size w wr ∧ gk = i + 1 - k)
  case atStart => exact ⟨0, rfl, rfl, Nat.zero_le _, Below.refl _ _, rfl⟩
  case round =>
    obtain ⟨k, rfl, rfl, hk, hbel, rfl⟩ := hrel
    have HBL := Lib.hid hbel
    have HBK := Lib.hid (fun W => HBI.out k (by omega) W)
    have hbs := spBase2_le k (by omega)
    have hb13 := spB2_le k (by omega)
    have hp := Nat.pow_le_pow_right (n := 2) (by decide) hb13
    have hpi : (2 : Int) ^ (spB 2 k) ≤ 8192 := by
      have h : ((2 ^ spB 2 k : Nat) : Int) ≤ 8192 := by omega
      simpa using h
    have hpi0 : (0 : Int) ≤ (2 : Int) ^ (spB 2 k) := Int.pow_nonneg (by decide)
    have HN1 : Hid (((spBase 1 2 (k + 1) : Nat) : Int) = ((spBase 1 2 k : Nat) : Int) + 2 ^ (spB 2 k)) := Lib.hid (by rw [spBase_step]; norm_cast)
    have hs := HS.out
    obtain ⟨v, hv⟩ : ∃ v, v = 0 + k := ⟨_, rfl⟩
    have hvk : (v : Int) - 0 = (k : Int) := by omega
    clear hbel
    by_cases hlt : k < i
    · have hd : v < s := by omega
      have hv1 : ((0 + (k + 1) : Nat) : Int) = (v : Int) + 1 := by omega
      have HV1 := Lib.hid hv1
      rw [← hv]
      clear hs hv1
      obtain rfl : k = v := by omega
      clear hv hvk
      generalize spB 2 k = b at *
      generalize spBase 1 2 k = q at *
      go_wp2_with (go_at_call 121; (with_reducible refine (HBK.out _).mono ?_); rintro e w4 ⟨rfl, x4, rfl⟩)
      go_roundg (i + 1 - (k + 1))
      case measure => omega
      case rel => exact ⟨k + 1, by rw [HN1.out], by rw [HV1.out], by omega, HBL.out.trans ((ext_below _ x4).mono HBL.out.size), rfl⟩
    · obtain rfl : k = i := by omega
      have hd : decide (v < s) = false := by rw [decide_eq_false_iff_not]; omega
      have hsk : (s : Int) - 0 = (k : Int) := by omega
      clear hs hlt hv hvk
      obtain rfl : s = k := by omega
      go_wp2_with (go_at_call 121; (with_reducible refine (HBK.out _).mono ?_); rintro e w4 ⟨rfl, x4, rfl⟩)
      go_ret3
      exact ⟨rfl, ex_ext (HBL.out.trans ((ext_below _ x4).mono HBL.out.size))⟩
theorem lenR285 (w : World) : Calls Try.prog 101 #[.int .i64 285] w fun e w' => e = .returned (.tuple #[.int .i64 258, .int .i64 0, .bool true]) ∧ ∃ x, w' = ext w x := by
  go_enter Try.func101, Try.ntmps101
  go_wp2
  go_ret3
  exact ⟨rfl, (ex_ext (by repeat (first | exact Below.refl _ _ | assumption | refine b_drewN ?_ _ | refine Below.drew ?_ | refine b_ext' ?_ _ | refine b_alloc' ?_ _)))⟩
theorem spIdx_first {base each n k : Nat} (h0 : base ≤ n) (hk : 0 < k) (h : spIdx base each n k = spIdx base each n 0) : n < spBase base each 1 := by
  have h1 := (spIdx_spec (each := each) h0 k).2
  have e : spIdx base each n k = 0 := h
  rw [e] at h1
  exact h1 hk
set_option maxRecDepth 100000 in
theorem ofLenR (n : Int) (hn1 : -9223372036854775808 ≤ n) (hn2 : n ≤ 9223372036854775807) (w : World) : Calls Try.prog 80 #[.int .i64 n] w fun e w' => e = .returned (symV (lenSy n)) ∧ ∃ x, w' = ext w x := by
  have HLE := Lib.hid (fun (i : Nat) (hi : i ≤ 27) (W : World) => lenR0 i hi W)
  have HL8 := Lib.hid lenR285
  obtain ⟨y, hy⟩ : ∃ y, y = lenSy n := ⟨_, rfl⟩
  rw [← hy]
  have HY := Lib.hid hy
  clear hy
  unfold lenSy at HY
  by_cases h : n < 3 ∨ 258 < n
  · have hor : decide (n < 3) = true ∨ (decide (n < 3) = false ∧ decide (n > 258) = true) := by
      by_cases h1 : n < 3
      · exact .inl (by simpa using h1)
      · exact .inr ⟨by simpa using h1, by rw [decide_eq_true_iff]; omega⟩
    rw [if_pos h] at HY
    clear h
    rcases hor with h | ⟨h1, h2⟩ <;>
    · go_enter Try.func80, Try.ntmps80
      go_wp2
      refine bodyPost_ret (results_tmp4 rfl _ _ _) rfl ?_
      exact ⟨by rw [HY.out]; rfl, (ex_ext (by repeat (first | exact Below.refl _ _ | assumption | refine b_drewN ?_ _ | refine Below.drew ?_ | refine b_ext' ?_ _ | refine b_alloc' ?_ _)))⟩
  · rw [if_neg h] at HY
    have h1 : decide (n < 3) = false := by rw [decide_eq_false_iff_not]; omega
    have h2 : decide (n > 258) = false := by rw [decide_eq_false_iff_not]; omega
    obtain ⟨m, rfl⟩ : ∃ m : Nat, n = m := ⟨n.toNat, by omega⟩
    have hm1 : 3 ≤ m := by omega
    have hm2 : m ≤ 258 := by omega
    rw [Int.toNat_natCast] at HY
    clear h
    go_enter Try.func80, Try.ntmps80
    go_wp2
    go_loopg [6] 28 (fun gk sv wr => ∃ k : Nat, sv = .int .i64 ((257 + k : Nat) : Int) ∧ Hid (k = 28 ∨ (k ≤ 27 ∧ m ≠ 258 ∧ spIdx 3 4 m 27 = spIdx 3 4 m k)) ∧ Below w.heap.size w wr ∧ gk = k)
    case atStart => exact ⟨28, rfl, Lib.hid (.inl rfl), Below.refl _ _, rfl⟩
    case round =>
      obtain ⟨k, rfl, HK, hbel, rfl⟩ := hrel
      have HBL := Lib.hid hbel
      clear hbel
      rcases HK.out with hk | ⟨hk, hne, hidx⟩
      · subst hk
        by_cases h258 : m = 258
        · subst h258
          have HE : Hid (y = ⟨285, 0, 0, 0⟩) := Lib.hid (by rw [HY.out]; rfl)
          go_wp2_with (go_at_call 101; (with_reducible refine (HL8.out _).mono ?_); rintro e w4 ⟨rfl, x4, rfl⟩)
          refine bodyPost_ret (results_tmp4 rfl _ _ _) rfl ?_
          exact ⟨by rw [HE.out]; rfl, ex_ext (HBL.out.trans ((ext_below _ x4).mono HBL.out.size))⟩
        · have hd : decide ((258 : Int) ≤ (m : Int)) = false := by rw [decide_eq_false_iff_not]; omega
          go_wp2_with (go_at_call 101; (with_reducible refine (HL8.out _).mono ?_); rintro e w4 ⟨rfl, x4, rfl⟩)
          go_roundg 27
          case measure => omega
          case rel => exact ⟨27, rfl, Lib.hid (.inr ⟨Nat.le_refl _, h258, rfl⟩), HBL.out.trans ((ext_below _ x4).mono HBL.out.size), rfl⟩
      · have HYS : Hid (y = symOf 257 3 4 m 27) := Lib.hid (by rw [HY.out, if_neg (by omega)])
        clear HY HK
        cases gk with
        | zero =>
          have hm3 := spIdx_first hm1 (by decide) hidx
          have hm4 : m = 3 := by have e : spBase 3 4 1 = 4 := rfl; omega
          subst hm4
          have HE : Hid (y = ⟨257, 0, 0, 0⟩) := Lib.hid (by rw [HYS.out]; rfl)
          clear hidx hm3
          go_wp2
          refine bodyPost_ret (results_tmp4 rfl _ _ _) rfl ?_
          exact ⟨by rw [HE.out]; rfl, ex_ext HBL.out⟩
        | succ j =>
          have HLK := Lib.hid (fun W => HLE.out (j + 1) hk W)
          obtain ⟨v, hv⟩ : ∃ v, v = 257 + (j + 1) := ⟨_, rfl⟩
          have hv2 : 257 < v := by omega
          have hv3 : v ≤ 284 := by omega
          have hvj : ((257 + j : Nat) : Int) = (v : Int) - 1 := by omega
          have HVJ := Lib.hid hvj
          have HV := Lib.hid hv
          rw [← hv] at HLK ⊢
          clear hv hvj
          by_cases hle : spBase 3 4 (j + 1) ≤ m
          · have HE : Hid (y = ⟨v, spB 4 (j + 1), m - spBase 3 4 (j + 1), 0⟩) := Lib.hid (by
              have e := spIdx_here (each := 4) hle
              rw [HYS.out, HV.out]
              unfold symOf
              rw [hidx, e])
            have hsub : ((m - spBase 3 4 (j + 1) : Nat) : Int) = (m : Int) - (spBase 3 4 (j + 1) : Nat) := by omega
            have HS := Lib.hid hsub
            generalize spB 4 (j + 1) = b at *
            generalize spBase 3 4 (j + 1) = q at *
            have hd : q ≤ m := hle
            clear hidx hsub
            go_wp2_with (go_at_call 101; (with_reducible refine (HLK.out _).mono ?_); rintro e w4 ⟨rfl, x4, rfl⟩)
            refine bodyPost_ret (results_tmp4 rfl _ _ _) rfl ?_
            refine ⟨?_, ex_ext (HBL.out.trans ((ext_below _ x4).mono HBL.out.size))⟩
            unfold symV
            rw [HE.out]
            dsimp only
            rw [HS.out]
            rfl
          · have hd : ¬ spBase 3 4 (j + 1) ≤ m := hle
            have HI : Hid (spIdx 3 4 m 27 = spIdx 3 4 m j) := Lib.hid (by rw [hidx]; exact spIdx_down (by omega))
            generalize spB 4 (j + 1) = b at *
            generalize spBase 3 4 (j + 1) = q at *
            have hd2 : decide (q ≤ m) = false := by rw [decide_eq_false_iff_not]; omega
            clear hidx
            go_wp2_with (go_at_call 101; (with_reducible refine (HLK.out _).mono ?_); rintro e w4 ⟨rfl, x4, rfl⟩)
            go_roundg j
            case measure => omega
            case rel => exact ⟨j, by rw [HVJ.out], Lib.hid (.inr ⟨by omega, hne, HI.out⟩), HBL.out.trans ((ext_below _ x4).mono HBL.out.size), rfl⟩
set_option maxRecDepth 100000 in
theorem ofDstR (n : Int) (hn1 : -9223372036854775808 ≤ n) (hn2 : n ≤ 9223372036854775807) (w : World) : Calls Try.prog 81 #[.int .i64 n] w fun e w' => e = .returned (symV (dstSy n)) ∧ ∃ x, w' = ext w x := by
  have HLE := Lib.hid (fun (i : Nat) (hi : i ≤ 29) (W : World) => dstR0 i hi W)
  obtain ⟨y, hy⟩ : ∃ y, y = dstSy n := ⟨_, rfl⟩
  rw [← hy]
  have HY := Lib.hid hy
  clear hy
  unfold dstSy at HY
  by_cases h : n < 1 ∨ 32768 < n
  · have hor : decide (n < 1) = true ∨ (decide (n < 1) = false ∧ decide (n > 32768) = true) := by
      by_cases h1 : n < 1
      · exact .inl (by simpa using h1)
      · exact .inr ⟨by simpa using h1, by rw [decide_eq_true_iff]; omega⟩
    rw [if_pos h] at HY
    clear h
    rcases hor with h | ⟨h1, h2⟩ <;>
    · go_enter Try.func81, Try.ntmps81
      go_wp2
      refine bodyPost_ret (results_tmp4 rfl _ _ _) rfl ?_
      exact ⟨by rw [HY.out]; rfl, (ex_ext (by repeat (first | exact Below.refl _ _ | assumption | refine b_drewN ?_ _ | refine Below.drew ?_ | refine b_ext' ?_ _ | refine b_alloc' ?_ _)))⟩
  · rw [if_neg h] at HY
    have h1 : decide (n < 1) = false := by rw [decide_eq_false_iff_not]; omega
    have h2 : decide (n > 32768) = false := by rw [decide_eq_false_iff_not]; omega
    obtain ⟨m, rfl⟩ : ∃ m : Nat, n = m := ⟨n.toNat, by omega⟩
    have hm1 : 1 ≤ m := by omega
    have hm2 : m ≤ 32768 := by omega
    rw [Int.toNat_natCast] at HY
    clear h
    go_enter Try.func81, Try.ntmps81
    go_wp2
    go_loopg [6] 29 (fun gk sv wr => ∃ k : Nat, sv = .int .i64 k ∧ Hid (k ≤ 29 ∧ spIdx 1 2 m 29 = spIdx 1 2 m k) ∧ Below w.heap.size w wr ∧ gk = k)
    case atStart => exact ⟨29, rfl, Lib.hid ⟨Nat.le_refl _, rfl⟩, Below.refl _ _, rfl⟩
    case round =>
      obtain ⟨k, rfl, HK, hbel, rfl⟩ := hrel
      have HBL := Lib.hid hbel
      clear hbel
      obtain ⟨hk, hidx⟩ := HK.out
      have HYS : Hid (y = symOf 0 1 2 m 29) := Lib.hid HY.out
      clear HY HK
      cases gk with
      | zero =>
        have hm3 := spIdx_first hm1 (by decide) hidx
        have hm4 : m = 1 := by have e : spBase 1 2 1 = 2 := rfl; omega
        subst hm4
        have HE : Hid (y = ⟨0, 0, 0, 0⟩) := Lib.hid (by rw [HYS.out]; rfl)
        clear hidx hm3
        go_wp2
        refine bodyPost_ret (results_tmp4 rfl _ _ _) rfl ?_
        exact ⟨by rw [HE.out]; rfl, ex_ext HBL.out⟩
      | succ j =>
        have hlk := fun W => HLE.out (j + 1) hk W
        rw [Nat.zero_add] at hlk
        have HLK := Lib.hid hlk
        obtain ⟨v, hv⟩ : ∃ v, v = j + 1 := ⟨_, rfl⟩
        have hv2 : 0 < v := by omega
        have hv3 : v ≤ 29 := by omega
        have hvj : ((j : Nat) : Int) = (v : Int) - 1 := by omega
        have HVJ := Lib.hid hvj
        rw [← hv] at HLK hidx ⊢
        have HV := Lib.hid hv
        clear hv hvj hlk
        by_cases hle : spBase 1 2 v ≤ m
        · have HE : Hid (y = ⟨v, spB 2 v, m - spBase 1 2 v, 0⟩) := Lib.hid (by
            have e := spIdx_here (each := 2) hle
            rw [HYS.out]
            unfold symOf
            rw [hidx, e, Nat.zero_add])
          have hsub : ((m - spBase 1 2 v : Nat) : Int) = (m : Int) - (spBase 1 2 v : Nat) := by omega
          have HS := Lib.hid hsub
          generalize spB 2 v = b at *
          generalize spBase 1 2 v = q at *
          have hd : q ≤ m := hle
          clear hidx hsub
          go_wp2_with (go_at_call 102; (with_reducible refine (HLK.out _).mono ?_); rintro e w4 ⟨rfl, x4, rfl⟩)
          refine bodyPost_ret (results_tmp4 rfl _ _ _) rfl ?_
          refine ⟨?_, ex_ext (HBL.out.trans ((ext_below _ x4).mono HBL.out.size))⟩
          unfold symV
          rw [HE.out]
          dsimp only
          rw [HS.out]
          rfl
        · have HI : Hid (spIdx 1 2 m 29 = spIdx 1 2 m j) := Lib.hid (by rw [hidx, HV.out]; exact spIdx_down (by rw [← HV.out]; omega))
          generalize spB 2 v = b at *
          generalize spBase 1 2 v = q at *
          have hd2 : decide (q ≤ m) = false := by rw [decide_eq_false_iff_not]; omega
          clear hidx
          go_wp2_with (go_at_call 102; (with_reducible refine (HLK.out _).mono ?_); rintro e w4 ⟨rfl, x4, rfl⟩)
          go_roundg j
          case measure => have := HV.out; omega
          case rel => exact ⟨j, by rw [HVJ.out], Lib.hid ⟨by have := HV.out; omega, HI.out⟩, HBL.out.trans ((ext_below _ x4).mono HBL.out.size), rfl⟩
end Go.Cm

/- The walk of what writes an op's symbols, the document's. Conditions: the writer is there, the lengths stay while it writes. -/
namespace Go.Cm
open Go.RowKit Go.Proofs

/-- a list of lengths that stays while a writer works -/
def StayF (g : Nat) (vb : Value) (w : World) (v : Value) (l : List Int) : Prop := ∀ W vb', Fr g vb vb' w W → IntsAt W v l
theorem StayF.next {g : Nat} {vb vb' : Value} {w w' : World} {v : Value} {l : List Int} (h : StayF g vb w v l) (hf : Fr g vb vb' w w') : StayF g vb' w' v l := fun W vc hc => h W vc (hf.trans hc)
/-- what is answered, and the bits where nothing is wrong -/
def RetSy (y : Nat × Nat × Nat) (B g : Nat) (vb : Value) (w : World) (e : Ending) (w' : World) : Prop := e = .returned (.int .i64 (y.1 : Nat)) ∧ ∃ N L vb', WrtRV w' B g N L vb' ∧ (y.1 = 0 → y.2 = (N, L)) ∧ Below B w w' ∧ Fr g vb vb' w w'
set_option maxRecDepth 100000 in
set_option maxHeartbeats 1000000 in
theorem symRk {w : World} {B g N L : Nat} {vb : Value} (h : WrtRV w B g N L vb) (u1 u2 : Value) (l1 l2 : List Int) (hs1 : StayF g vb w u1 l1) (hs2 : StayF g vb w u2 l2) (o : OpN) (ho : OpOk o) (hL : L ≤ 900000000) :
    Calls Try.prog 51 #[.pointer (some ⟨g, 0, none⟩), u1, u2, .agg #[.int .u8 o.lit, .int .i64 o.len, .int .i64 o.dist]] w (RetSy (cOp l1 l2 o (0, N, L)) B g vb w) := by
  obtain ⟨hol, hn1, hn2, hd1, hd2⟩ := ho
  obtain ⟨ol, on, od⟩ := o
  simp only at hol hn1 hn2 hd1 hd2
  obtain ⟨w1, hw1⟩ : ∃ w1, w1 = w.alloc (.cells #[.int .u8 (ol : Nat), .int .i64 on, .int .i64 od] 75) := ⟨_, rfl⟩
  have hb1 : Below w.heap.size w w1 := by rw [hw1]; exact below_alloc _ _
  have hop := op_box w ol on od
  rw [← hw1] at hop
  have hBw : B ≤ w.heap.size := by have := h.ge; have := h.box.blk.2; omega
  have HW1 := Lib.hid hw1
  have HH := Lib.hid (h.up hb1)
  have HF := Lib.hid ((Fr.refl g vb w).below hb1)
  have HBL := Lib.hid (hb1.mono hBw)
  have HOP := Lib.hid hop
  have p0 : w1.cell? ⟨w.heap.size, 0, none⟩ = some (.int .u8 (ol : Nat)) := hop.cell (by simp [opV])
  have p1 : w1.cell? ⟨w.heap.size, 1, none⟩ = some (.int .i64 on) := hop.cell (by simp [opV])
  have p2 : w1.cell? ⟨w.heap.size, 2, none⟩ = some (.int .i64 od) := hop.cell (by simp [opV])
  have hp := hop.blk.2
  have hB1 : B ≤ w1.heap.size := by omega
  have HS1 := Lib.hid (hs1.next HF.out)
  have HS2 := Lib.hid (hs2.next HF.out)
  obtain ⟨y, hy⟩ : ∃ y, y = cOp l1 l2 ⟨ol, on, od⟩ (0, N, L) := ⟨_, rfl⟩
  rw [← hy]
  have HY := Lib.hid hy
  unfold cOp at HY
  simp only at HY
  clear hy hw1 hb1 hop h hs1 hs2
  by_cases hn : on = 0
  · rw [if_pos hn] at HY
    subst hn
    have HWR := Lib.hid (writeRVF u1 l1 (ol : Nat) (HS1.out w1 vb (Fr.refl _ _ _)) HS1.out HH.out (by omega))
    unfold RetV at HWR
    unfold cPut at HY
    rw [if_neg (fun h => h rfl)] at HY
    simp only [Nat.zero_mul, Nat.add_zero] at HY
    generalize hnw : numW l1 (ol : Nat) (N, L) = nl at *
    obtain ⟨N1, L1⟩ := nl
    simp only at HWR HY
    have HE1 : Hid (y.1 = errW l1 (ol : Nat) ∧ (y.1 = 0 → y.2 = (N1, L1))) := Lib.hid (by
      rw [HY.out]
      by_cases he : errW l1 (ol : Nat) ≠ 0
      · rw [if_pos he]; exact ⟨rfl, fun h => absurd h he⟩
      · rw [if_neg he]; exact ⟨by simp only; omega, fun _ => rfl⟩)
    clear HY hnw
    generalize errW l1 (ol : Nat) = q at *
    go_enter Try.func51, Try.ntmps51
    go_upto_region 1 with fail
    rw [← HW1.out]
    go_wp2_with (go_at_call 52; (with_reducible refine HWR.out.mono ?_); rintro e w2 ⟨rfl, vb2, hq1, hq2, hq3⟩; have HQ1 := Lib.hid hq1; have HQ2 := Lib.hid hq2; have HQ3 := Lib.hid hq3; clear hq1 hq2 hq3)
    go_ret
    exact ⟨by rw [HE1.out.1]; rfl, N1, L1, vb2, HQ1.out, HE1.out.2, HBL.out.trans HQ2.out, HF.out.trans HQ3.out⟩
  · rw [if_neg hn] at HY
    have hni : (on == 0) = false := by simpa using hn
    obtain ⟨hlb, hlv⟩ := lenSy_b on
    obtain ⟨hdb, hdv⟩ := dstSy_b od
    have HOL := Lib.hid (ofLenR on hn1 hn2)
    have HOD := Lib.hid (ofDstR od hd1 hd2)
    obtain ⟨s, hs⟩ : ∃ s, s = lenSy on := ⟨_, rfl⟩
    obtain ⟨d, hd⟩ : ∃ d, d = dstSy od := ⟨_, rfl⟩
    rw [← hs] at hlb hlv HOL HY
    rw [← hd] at hdb hdv HOD HY
    clear hs hd hn
    obtain ⟨ss, sb, sv, se⟩ := s
    obtain ⟨ds, db, dv, de⟩ := d
    simp only at hlb hlv hdb hdv HY
    unfold symV at HOL HOD
    simp only at HOL HOD
    have HWA := Lib.hid (fun (W : World) (hb : Below w1.heap.size w1 W) => writeRVF u1 l1 ss (HS1.out W vb ((Fr.refl g vb w1).below hb)) (HS1.out.next ((Fr.refl g vb w1).below hb)) (HH.out.up hb) (by omega))
    unfold RetV at HWA
    have HLN := Lib.hid (numW_len l1 ss (N, L))
    simp only at HLN
    by_cases he : errW l1 ss = 0
    · rw [he] at HWA
      have HY2 : Hid (y = cPut l2 ds db dv (0, (numW l1 ss (N, L)).1 + sv * 2 ^ (numW l1 ss (N, L)).2, (numW l1 ss (N, L)).2 + sb)) := Lib.hid (by
        rw [HY.out]
        congr 1
        unfold cPut
        rw [if_neg (fun h => h rfl), if_neg (by omega)])
      clear HY
      generalize numW l1 ss (N, L) = nl at *
      obtain ⟨N1, L1⟩ := nl
      simp only at HWA HLN HY2
      have hL1 : L1 ≤ 900000015 := by have := HLN.out; omega
      unfold cPut at HY2
      rw [if_neg (fun h => h rfl)] at HY2
      obtain ⟨N2, hN2⟩ : ∃ N2, N2 = N1 + sv * 2 ^ L1 := ⟨_, rfl⟩
      have HPA : Hid (∀ (W : World) (vbx : Value), WrtRV W B g N1 L1 vbx → Calls Try.prog 75 #[.pointer (some ⟨g, 0, none⟩), .int .i64 sv, .int .i64 sb] W fun e w' => e = .returned (.int .i64 0) ∧ ∃ vb', WrtRV w' B g N2 (L1 + sb) vb' ∧ Below B W w' ∧ Fr g vbx vb' W w') := Lib.hid (fun W vbx hv => by
        rw [hN2]; exact putRV hv sv sb hlv (by omega) (by omega))
      rw [← hN2] at HY2
      clear hN2 he HLN
      have HWB := Lib.hid (fun (W : World) (vbx : Value) (hv : WrtRV W B g N2 (L1 + sb) vbx) (hf : Fr g vb vbx w1 W) => writeRVF u2 l2 ds (HS2.out W vbx hf) (HS2.out.next hf) hv (by omega))
      unfold RetV at HWB
      have HLN2 := Lib.hid (numW_len l2 ds (N2, L1 + sb))
      simp only at HLN2
      generalize numW l2 ds (N2, L1 + sb) = nl at *
      obtain ⟨N3, L3⟩ := nl
      simp only at HWB HY2 HLN2
      have HPB := Lib.hid (fun (W : World) (vbx : Value) (hv : WrtRV W B g N3 L3 vbx) => putRV hv dv db hdv (by omega) (by have := HLN2.out; omega))
      have HE1 : Hid (y.1 = errW l2 ds ∧ (y.1 = 0 → y.2 = (N3 + dv * 2 ^ L3, L3 + db))) := Lib.hid (by
        rw [HY2.out]
        by_cases he : errW l2 ds ≠ 0
        · rw [if_pos he]; exact ⟨rfl, fun h => absurd h he⟩
        · rw [if_neg he]; exact ⟨by simp only; omega, fun _ => rfl⟩)
      clear HY2 HLN2
      generalize errW l2 ds = q at *
      generalize N3 + dv * 2 ^ L3 = N4 at *
      go_enter Try.func51, Try.ntmps51
      go_upto_region 1 with fail
      rw [← HW1.out]
      go_upto_region 4 with (go_at_call 80; (with_reducible refine (HOL.out _).mono ?_); rintro e w2 ⟨rfl, x2, rfl⟩)
      have HX2 := Lib.hid (ext_below w1 x2)
      have p22 : (ext w1 x2).cell? ⟨w.heap.size, 2, none⟩ = some (.int .i64 od) := (HX2.out.cell (p := ⟨w.heap.size, 2, none⟩) hp).trans p2
      have hp2 : w.heap.size < (ext w1 x2).heap.size := Nat.lt_of_lt_of_le hp HX2.out.size
      clear p0 p1 p2
      generalize ext w1 x2 = w2 at *
      go_upto_region 5 with (go_at_call 81; (with_reducible refine (HOD.out _).mono ?_); rintro e w3 ⟨rfl, x3, rfl⟩)
      have HX3 := Lib.hid (HX2.out.trans ((ext_below w2 x3).mono HX2.out.size))
      clear p22 hp2 HX2
      generalize ext w2 x3 = w3 at *
      have HWA2 := Lib.hid (HWA.out w3 HX3.out)
      have HFA := Lib.hid ((Fr.refl g vb w1).below HX3.out)
      have HBA := Lib.hid (HBL.out.trans (HX3.out.mono hB1))
      go_wp2_with (first
        | (go_at_call 52; first
          | ((with_reducible refine HWA2.out.mono ?_); rintro e w4 ⟨rfl, vb4, hq1, hq2, hq3⟩; have HQ1 := Lib.hid hq1; have HB4 := Lib.hid (HBA.out.trans hq2); have HF4 := Lib.hid (HFA.out.trans hq3); clear hq1 hq2 hq3 HWA2)
          | ((with_reducible refine (HWB.out _ _ HR1.out HF5.out).mono ?_); rintro e w6 ⟨rfl, vb6, hq1, hq2, hq3⟩; have HT1 := Lib.hid hq1; have HB6 := Lib.hid (HB5.out.trans hq2); have HF6 := Lib.hid (HF5.out.trans hq3); clear hq1 hq2 hq3 HWB))
        | (go_at_call 75; first
          | ((with_reducible refine (HPA.out _ _ HQ1.out).mono ?_); rintro e w5 ⟨rfl, vb5, hq1, hq2, hq3⟩; have HR1 := Lib.hid hq1; have HB5 := Lib.hid (HB4.out.trans hq2); have HF5 := Lib.hid (HF4.out.trans hq3); clear hq1 hq2 hq3 HPA)
          | ((with_reducible refine (HPB.out _ _ HT1.out).mono ?_); rintro e w7 ⟨rfl, vb7, hq1, hq2, hq3⟩; have HU1 := Lib.hid hq1; have HB7 := Lib.hid (HB6.out.trans hq2); have HF7 := Lib.hid (HF6.out.trans hq3); clear hq1 hq2 hq3)))
      go_ret
      exact ⟨by rw [HE1.out.1]; rfl, N4, L3 + db, vb7, HU1.out, HE1.out.2, HB7.out, HF.out.trans HF7.out⟩
    · have HE : Hid (y = (errW l1 ss, N, L)) := Lib.hid (by
        have e : cPut l1 ss sb sv (0, N, L) = (errW l1 ss, N, L) := by
          unfold cPut
          rw [if_neg (fun h => h rfl), if_pos he]
        rw [HY.out, e]
        exact cPut_stuck he)
      rw [numW_bad he] at HWA
      clear HY HLN
      generalize errW l1 ss = q at *
      have hqi : ((q : Int) != 0) = true := by simpa using he
      have HQ0 : Hid (y.1 = 0 → y.2 = (N, L)) := Lib.hid (fun _ => by rw [HE.out])
      clear he
      go_enter Try.func51, Try.ntmps51
      go_upto_region 1 with fail
      rw [← HW1.out]
      go_upto_region 4 with (go_at_call 80; (with_reducible refine (HOL.out _).mono ?_); rintro e w2 ⟨rfl, x2, rfl⟩)
      have HX2 := Lib.hid (ext_below w1 x2)
      have p22 : (ext w1 x2).cell? ⟨w.heap.size, 2, none⟩ = some (.int .i64 od) := (HX2.out.cell (p := ⟨w.heap.size, 2, none⟩) hp).trans p2
      have hp2 : w.heap.size < (ext w1 x2).heap.size := Nat.lt_of_lt_of_le hp HX2.out.size
      clear p0 p1 p2
      generalize ext w1 x2 = w2 at *
      go_upto_region 5 with (go_at_call 81; (with_reducible refine (HOD.out _).mono ?_); rintro e w3 ⟨rfl, x3, rfl⟩)
      have HX3 := Lib.hid (HX2.out.trans ((ext_below w2 x3).mono HX2.out.size))
      clear p22 hp2 HX2
      generalize ext w2 x3 = w3 at *
      have HWA2 := Lib.hid (HWA.out w3 HX3.out)
      have HFA := Lib.hid ((Fr.refl g vb w1).below HX3.out)
      have HBA := Lib.hid (HBL.out.trans (HX3.out.mono hB1))
      go_wp2_with (go_at_call 52; (with_reducible refine HWA2.out.mono ?_); rintro e w4 ⟨rfl, vb4, hq1, hq2, hq3⟩; have HQ1 := Lib.hid hq1; have HB4 := Lib.hid (HBA.out.trans hq2); have HF4 := Lib.hid (HFA.out.trans hq3); clear hq1 hq2 hq3 HWA2)
      go_ret
      exact ⟨by rw [HE.out]; rfl, N, L, vb4, HQ1.out, HQ0.out, HB4.out, HF.out.trans HF4.out⟩
end Go.Cm
