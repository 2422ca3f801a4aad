/- Texts of this claim, joined: walks of small functions and plain facts about them. Conditions: as each says. -/
import Derived.Test.YtfnkhcibcffcmaaGW
import Derived.Test.YtfnkhcibcffcmaaGK
import Derived.Test.YtfnkhcibcffcmaaGR
/- The walk of the program's Make. Conditions: the edges' sets are words. -/
namespace Go.Cm
open Go.RowKit Go.Proofs Go.Maps

def bytV (l : List Nat) : List Value := l.map fun c : Nat => .int .u8 (c : Int)
theorem bytV_len (l : List Nat) : (bytV l).length = l.length := List.length_map _
theorem bytV_get {l : List Nat} {k : Nat} (h : k < l.length) : (bytV l).getD k undef = .int .u8 (l.getD k 0 : Nat) := by simp [bytV, List.getD, h]
theorem bytV_set (l : List Nat) (k c : Nat) : (bytV l).set k (.int .u8 (c : Int)) = bytV (l.set k c) := by simp [bytV, List.map_set]
theorem bytV_rep (n : Nat) : List.replicate n (Value.int .u8 0) = bytV (List.replicate n 0) := by simp [bytV, List.map_replicate]
def RetSub (e : List (List Ed)) (F : Int) (r : List Int) (w : World) (en : Ending) (w' : World) : Prop :=
  ∃ v, en = .returned (.tuple #[v, .int .i64 (subE e F r)]) ∧ DfaAt w' v (subI e F r) ∧ Below w.heap.size w w'
set_option maxRecDepth 100000 in
set_option maxHeartbeats 8000000 in
theorem subMakeP {w : World} {A : Array Value} {e : List (List Ed)} {F : Int} {r : List Int} (h : NfaV w A e F r) (hw : ∀ a x, x ∈ Row e a → EdW x) (ht : tot e ≤ 1000000) :
    Calls Try.prog 10 #[.agg A] w (RetSub e F r w) := by
  have HH := Lib.hid h
  obtain ⟨ve, vr, rfl, he, hr⟩ := h
  obtain ⟨oe, ce, be, fe, rfl, -, -⟩ := he.open
  obtain ⟨orr, cr, br, fr, rfl, -, -⟩ := hr.open
  obtain ⟨n, hn⟩ : ∃ n, n = e.length := ⟨_, rfl⟩
  obtain ⟨m, hm⟩ : ∃ m, m = r.length := ⟨_, rfl⟩
  rw [← hn, ← hm] at HH ⊢
  have hz := zero_dfa
  have hzc := zero_cls
  obtain ⟨ZC, hZC⟩ : ∃ ZC, ZC = zCls := ⟨_, rfl⟩
  rw [← hZC] at hzc
  have HBZ : Hid (∀ w : World, BoxA (w.alloc (.cells ZC 28)) 28 256 w.heap.size (List.replicate 256 0)) := Lib.hid (fun w => boxZ w ZC hZC)
  have hbd := build_dfa
  obtain ⟨Z, hZ⟩ : ∃ Z, Z = zArr := ⟨_, rfl⟩
  rw [← hZ] at hz hbd
  have HBW : Hid (∀ w : World, BoxD (w.alloc (.cells Z 33)) w.heap.size (.slice none 0 0) (.slice none 0 0) (List.replicate 256 0)) := Lib.hid (fun w => by rw [hZ]; exact box_new w)
  have HZL : Hid (Z.toList = ints (List.replicate 256 0) ++ [Value.slice none 0 0, Value.slice none 0 0]) := Lib.hid (by rw [hZ]; exact zArr_list)
  have hsA : (w.alloc (.cells #[.slice oe n ce, .int .i64 F, .slice orr m cr] 25)).heap.size = w.heap.size + 1 := by simp
  have hbx : Own (w.alloc (.cells #[.slice oe n ce, .int .i64 F, .slice orr m cr] 25)) 0 25 (.slice (some ⟨w.heap.size, 0, none⟩) 3 3) [.slice oe n ce, .int .i64 F, .slice orr m cr] := by simpa using own_lit w 0 #[.slice oe n ce, .int .i64 F, .slice orr m cr] 25 (by simp) (Nat.zero_le _)
  have hb1 := box_new (w.alloc (.cells #[.slice oe n ce, .int .i64 F, .slice orr m cr] 25))
  rw [hsA, ← hZ] at hb1
  have HB1 := Lib.hid hb1
  have HBX := Lib.hid (hbx.up (below_alloc _ (.cells Z 33)))
  have HA : Hid (Below w.heap.size w ((w.alloc (.cells #[.slice oe n ce, .int .i64 F, .slice orr m cr] 25)).alloc (.cells Z 33))) := Lib.hid (by repeat (first | exact Below.refl _ _ | assumption | refine b_drewN ?_ _ | refine Below.drew ?_ | refine b_ext' ?_ _ | refine b_alloc' ?_ _))
  have hs3 : ((w.alloc (.cells #[.slice oe n ce, .int .i64 F, .slice orr m cr] 25)).alloc (.cells Z 33)).heap.size = w.heap.size + 2 := by simp
  have HCL := Lib.hid (classesP (HH.out.up HA.out) hw ht)
  unfold RetCls at HCL
  have HBN := Lib.hid (build_cls (clsO e F r) (clsO_len e F r))
  have HCN : Hid ((rightN e F r = true → clsO e F r = clsL e ∧ cntO e F r = (headN e).length) ∧ (rightN e F r = false → cntO e F r = 0)) := Lib.hid ⟨fun h => ⟨by unfold clsO; rw [if_pos h], by unfold cntO; rw [if_pos h]⟩, fun h => by unfold cntO; rw [if_neg (by rw [h]; decide)]⟩
  have HCOL : Hid ((clsO e F r).length = 256) := Lib.hid (clsO_len e F r)
  obtain ⟨CO, hCO⟩ : ∃ CO, CO = clsO e F r := ⟨_, rfl⟩
  obtain ⟨KO, hKO⟩ : ∃ KO, KO = cntO e F r := ⟨_, rfl⟩
  rw [← hCO, ← hKO] at HCN HCL
  rw [← hCO] at HBN HCOL
  clear he hr hn hm hbx hb1 hsA hZ hZC hw ht hCO hKO
  by_cases hrt : rightN e F r = true
  · obtain ⟨h1, h2⟩ := HCN.out.1 hrt
    have hK1 : 1 ≤ KO := by rw [h2]; exact headAt_pos _
    have hK2 : KO ≤ 256 := by rw [h2]; exact headAt_len _
    have HKO := Lib.hid h2
    have HCO := Lib.hid h1
    have HRT := Lib.hid hrt
    have hk0 : ((KO : Int) == 0) = false := by simp; omega
    have hk0' : decide ((KO : Int) = 0) = false := by simp; omega
    have hmk : ∀ W : World, (Instr.makeSlice 62 (.int .i64 KO) (.int .i64 KO)).run Try.prog W = .ok (.slice (some ⟨W.heap.size, 0, none⟩) KO KO) (W.alloc (.cells (madeCells #[Value.int .u8 0] KO) 5)) := run_mk (P := Try.prog) 62 5 (.int .u8 0) 1 KO Try.underlying62 (by kernel_rfl) rfl (by decide) (by omega)
    have HBD := Lib.hid hbd
    clear HCN h1 h2 hrt hbd
    go_enter Try.func10, Try.ntmps10
    go_upto_region 6 with (first
      | (refine wpList_load_cells rfl 25 _ rfl w.heap.size 0 3 rfl _ _ (nfaBox HBX.out) rfl Try.underlying25 rfl (by kernel_rfl) ?_)
      | ((with_reducible go_at_call 8); refine HCL.out.mono ?_; rintro en w1 ⟨rfl, hb1⟩; have HE1 := Lib.hid (hb1.trans ((below_alloc w1 (.cells ZC 28)).mono hb1.size)); have hs1 := hb1.size; clear hb1)
      | (refine store_box rfl 28 256 _ _ rfl w1.heap.size rfl _ CO rfl HCOL.out (by kernel_rfl) (HBZ.out w1) ?_; intro w2 hb2 hg2; have HB2 := Lib.hid hb2; have HE2 := Lib.hid (HE1.out.grown hg2 HE1.out.size (fun k hk => by cases hk; exact hs1)); clear hb2 hg2))
    have HAW := Lib.hid (HA.out.trans (HE2.out.mono HA.out.size))
    have HB12 := Lib.hid (HB1.out.up HE2.out)
    have HBX2 := Lib.hid (HBX.out.up HE2.out)
    have hs2 := HE2.out.size
    rw [hs3] at hs1 hs2
    have hp4 : w1.heap.size < w2.heap.size := HB2.out.lt
    have hl3 : Below w2.heap.size w2 (w2.alloc (.cells (madeCells #[Value.int .u8 0] KO) 5)) := below_alloc _ _
    have HAW3 := Lib.hid (HAW.out.trans (hl3.mono (by omega)))
    have HB13 := Lib.hid (HB12.out.up hl3)
    have HBX3 := Lib.hid (HBX2.out.up hl3)
    have HB23 := Lib.hid (HB2.out.up hl3)
    have HOF := Lib.hid (own_made w2 w2.heap.size 5 (.int .u8 0) KO (Nat.le_refl _) (by omega))
    rw [bytV_rep] at HOF
    have hs4 : (w2.alloc (.cells (madeCells #[Value.int .u8 0] KO) 5)).heap.size = w2.heap.size + 1 := by simp
    clear HE1 HE2 HB1 HBX HB12 HBX2 HAW HA hl3 HCL HBZ hmk hzc hs3 HB2
    generalize (w2.alloc (.cells (madeCells #[Value.int .u8 0] KO) 5)) = w3 at *
    obtain ⟨pf, hpf⟩ : ∃ pf, pf = w2.heap.size := ⟨_, rfl⟩
    obtain ⟨p4, hp4e⟩ : ∃ p4, p4 = w1.heap.size := ⟨_, rfl⟩
    rw [← hpf] at HOF ⊢
    rw [← hp4e] at HB23 ⊢
    have HPO : Hid (w.heap.size + 2 ≤ p4 ∧ p4 < pf ∧ pf < w3.heap.size) := Lib.hid (by omega)
    clear hpf hp4e hs1 hs2 hs4 hp4
    have HFZ : Hid (FirstOk e 256 (List.replicate KO 0)) := Lib.hid (by rw [HKO.out]; exact first_zero e)
    go_loopg [7] 256 (fun gk iv wr => ∃ (c : Nat) (l : List Nat), iv = .int .i64 ((c : Int) - 1) ∧ c ≤ 256 ∧ Own wr pf 5 (.slice (some ⟨pf, 0, none⟩) KO KO) (bytV l) ∧ FirstOk e c l ∧ w3.grownBy wr (some pf) ∧ gk = c)
    case atStart => exact ⟨256, _, rfl, Nat.le_refl _, HOF.out, HFZ.out, grown_refl _ _, rfl⟩
    case round =>
      obtain ⟨c, l, rfl, hc, hown, hfo, hgr, rfl⟩ := hrel
      have HOW := Lib.hid hown
      have HFO := Lib.hid hfo
      have HG := Lib.hid hgr
      clear hown hfo hgr HOF HFZ
      cases gk with
      | zero =>
        rw [show ((0 : Nat) : Int) - 1 = -1 from rfl]
        have hle := first_all HFO.out
        have HOF := HOW
        rw [hle] at HOF
        have HB24 := Lib.hid (HB23.out.keep HG.out (by intro hh; injection hh with hh; have := HPO.out; omega))
        have HBX4 := Lib.hid (HBX3.out.keep HG.out (.inr (by intro hh; simp [Value.ownBlock] at hh; have := HPO.out; omega)))
        have HB14 := Lib.hid (HB13.out.keep HG.out (by intro hh; injection hh with hh; have := HPO.out; omega))
        have HAW4 := Lib.hid (HAW3.out.grown HG.out HAW3.out.size (fun k hk => by injection hk with hk; have := HPO.out; omega))
        have HP4 : Hid (w.heap.size + 2 ≤ p4 ∧ p4 < pf ∧ pf < wr.heap.size) := Lib.hid (by have := HPO.out; have := HG.out.size; omega)
        have hmm := @run_makeMap Try.prog
        clear hle HOW HFO hc HB23 HBX3 HB13 HAW3 HPO HG l
        obtain ⟨w4, rfl⟩ : ∃ w4 : World, w4 = wr := ⟨_, rfl⟩
        have HNV4 := Lib.hid (HH.out.up HAW4.out)
        go_upto_region 10 with (refine wpList_load_cells rfl 25 _ rfl w.heap.size 0 3 rfl _ _ (nfaBox HBX4.out) rfl Try.underlying25 rfl (by kernel_rfl) ?_)
        have HFR : Hid (∀ x, Below w4.heap.size w4 x → Below w.heap.size w x) := Lib.hid (fun x hx => HAW4.out.trans (hx.mono HAW4.out.size))
        have HNV : Hid (∀ x, Below w4.heap.size w4 x → NfaV x #[.slice oe n ce, .int .i64 F, .slice orr m cr] e F r) := Lib.hid (fun x hx => HNV4.out.up hx)
        have HXC : Hid (∀ x, Below w4.heap.size w4 x → ∀ c, c < 3 → x.cell? ⟨w.heap.size, 0 + c, none⟩ = some ((#[.slice oe n ce, .int .i64 F, .slice orr m cr] : Array Value).getD c undef)) := Lib.hid (fun x hx => nfaBox (HBX4.out.up hx))
        have HR1 : Hid (∀ x, Below w4.heap.size w4 x → BoxD x (w.heap.size + 1) (.slice none 0 0) (.slice none 0 0) (List.replicate 256 0)) := Lib.hid (fun x hx => HB14.out.up hx)
        have HC4 : Hid (∀ x, Below w4.heap.size w4 x → BoxA x 28 256 p4 CO) := Lib.hid (fun x hx => HB24.out.up hx)
        have HFI : Hid (∀ x, Below w4.heap.size w4 x → ∀ k, k < KO → x.cell? ⟨pf, k, none⟩ = some (.int .u8 ((headN e).getD k 0 : Nat))) := Lib.hid (fun x hx k hk => by
          have hl : (bytV (headN e)).length = KO := by rw [bytV_len, HKO.out]
          rw [(HOF.out.up hx).cell (i := k) (by omega), bytV_get (by rw [← HKO.out]; exact hk)])
        have HMK : Hid (MkN ((w4.alloc (.map #[] 0)).alloc (.cells #[.slice oe n ce, .int .i64 F, .slice orr m cr, .slice none 0 0, .map (some w4.heap.size)] 66)) w4.heap.size (w4.heap.size + 1) w4.heap.size (.slice oe n ce) (.slice orr m cr) F (.slice none 0 0) [] []) := Lib.hid (by
          have h1 := own_lit (w4.alloc (.map #[] 0)) w4.heap.size #[.slice oe n ce, .int .i64 F, .slice orr m cr, .slice none 0 0, .map (some w4.heap.size)] 66 (by simp) (by simp)
          have h2 : OwnMap Try.prog 9 3 strL (w4.alloc (.map #[] 0)) w4.heap.size (([] : List (List Nat)).map textL) := OwnMap.made w4 strL
          have hs : (w4.alloc (.map #[] 0)).heap.size = w4.heap.size + 1 := by simp
          rw [hs] at h1
          exact ⟨h1, OwnM.nil _ _ _ _, h2.up (below_alloc _ _), Nat.le_refl _, by omega, ⟨fun _ hk => by simp [Value.ownBlock] at hk, fun i hi => absurd hi (Nat.not_lt_zero i)⟩, ⟨fun _ hk => by simp [Value.ownBlock] at hk, fun i hi => absurd hi (Nat.not_lt_zero i)⟩⟩)
        have HL5 : Hid (Below w4.heap.size w4 ((w4.alloc (.map #[] 0)).alloc (.cells #[.slice oe n ce, .int .i64 F, .slice orr m cr, .slice none 0 0, .map (some w4.heap.size)] 66))) := Lib.hid (by repeat (first | exact Below.refl _ _ | assumption | refine b_drewN ?_ _ | refine Below.drew ?_ | refine b_ext' ?_ _ | refine b_alloc' ?_ _))
        have hs5 : ((w4.alloc (.map #[] 0)).alloc (.cells #[.slice oe n ce, .int .i64 F, .slice orr m cr, .slice none 0 0, .map (some w4.heap.size)] 66)).heap.size = w4.heap.size + 2 := by simp
        clear HB24 HBX4 HB14 HAW4 hmm HNV4 HOF HH
        generalize hB : w4.heap.size = B at *
        generalize ((w4.alloc (.map #[] 0)).alloc (.cells #[.slice oe n ce, .int .i64 F, .slice orr m cr, .slice none 0 0, .map (some B)] 66)) = w5 at *
        have HBB := Lib.hid hB
        have hpB : p4 < B ∧ pf < B ∧ w.heap.size + 2 ≤ B := by have := HP4.out; omega
        clear hB
        have hl6 : Below w5.heap.size w5 (w5.alloc (.cells #[.int .i64 F] 3)) := below_alloc _ _
        have hl56 := HL5.out.trans (hl6.mono (by omega))
        have hs6 : (w5.alloc (.cells #[.int .i64 F] 3)).heap.size = w5.heap.size + 1 := by simp
        have HSF : Hid (IntsAt (w5.alloc (.cells #[.int .i64 F] 3)) (.slice (some ⟨w5.heap.size, 0, none⟩) 1 1) [F]) := Lib.hid (show Sl (w5.alloc (.cells #[.int .i64 F] 3)) (.slice (some ⟨w5.heap.size, 0, none⟩) 1 1) [.int .i64 F] from by simpa using sl_lit w5 #[.int .i64 F] 3 (by simp))
        have HCLO := Lib.hid (closureP (HNV.out _ hl56) HSF.out)
        have HMK6 := Lib.hid (HMK.out.up hl6)
        have HL6 := Lib.hid hl56
        have hL2 := okL_two (by have := right_len HRT.out; omega : e.length ≤ 3000) (R := [cloN e F r [F]]) (fun x hx => by rw [List.mem_singleton.1 hx]; exact okL_clo e F r [F]) _ List.mem_cons_self
        have HGZ := Lib.hid (goAt_zero e F r)
        obtain ⟨L0, hL0⟩ : ∃ L0, L0 = cloN e F r [F] := ⟨_, rfl⟩
        rw [← hL0] at hL2 HGZ HCLO
        have HNUM : Hid (∀ w7 u, Below (w5.alloc (.cells #[.int .i64 F] 3)).heap.size (w5.alloc (.cells #[.int .i64 F] 3)) w7 → Own w7 (w5.alloc (.cells #[.int .i64 F] 3)).heap.size 3 u (ints (nz L0)) →
            Calls Try.prog 24 #[.pointer (some ⟨B + 1, 0, none⟩), u] w7 fun en w' => (∃ k : Nat, en = .returned (.int .i64 k)) ∧ ∃ lv' vs', MkN w' B (B + 1) B (.slice oe n ce) (.slice orr m cr) F lv' vs' [L0] ∧ Gw (MkNS (B + 1) B (.slice none 0 0)) w7 (MkNS (B + 1) B lv') w') := Lib.hid (fun w7 u hb hu => (numberP HMK6.out hb hu (fun L hL => by cases hL) hL2 (by simp)).mono (by
              rintro en w' ⟨h1, lv', vs', h2, h3, -⟩
              exact ⟨⟨_, h1⟩, lv', vs', h2, h3⟩))
        clear hL0 hL2
        have HC05 := Lib.hid (HXC.out w5 HL5.out)
        have x1 := HXC.out w5 HL5.out 1 (by omega)
        simp at x1
        have hw0 : w.heap.size < w5.heap.size := by omega
        have HS5 := Lib.hid hs5
        clear hl6 hl56 HSF HMK HL5 hs5 hs6
        go_upto_region 11 with (first
          | (refine wpList_load_cells rfl 25 _ rfl w.heap.size 0 3 rfl _ _ HC05.out rfl Try.underlying25 rfl (by kernel_rfl) ?_)
          | ((with_reducible go_at_call 25); (with_reducible refine HCLO.out.mono ?_); rintro en w7 ⟨u, rfl, hown, hbl⟩; have HU := Lib.hid hown; have HB7 := Lib.hid hbl; clear hown hbl)
          | ((with_reducible go_at_call 24); (with_reducible refine (HNUM.out _ _ HB7.out HU.out).mono ?_); rintro en w8 ⟨⟨k8, rfl⟩, lv, vs, hmk8, hg8⟩; have HM8 := Lib.hid hmk8; have HG8 := Lib.hid hg8; clear hmk8 hg8))
        have HF8 : Hid (Below B w4 w8) := Lib.hid ((HL6.out.trans (HB7.out.mono (by have := HS5.out; have := HL6.out.size; have := HBB.out; omega))).trans (HG8.out.below (by have := HS5.out; have := HB7.out.size; have := HL6.out.size; have := HBB.out; omega) (fun k hk => by
          rcases hk with rfl | rfl | hk
          · omega
          · exact Nat.le_refl _
          · simp [Value.ownBlock] at hk)))
        obtain ⟨A, hgA, hsA', hA⟩ := (HC4.out _ HF8.out).open
        have hAe : A = (ints CO).toArray := congrArg List.toArray hA
        obtain ⟨D, hbc, hDl⟩ := HBN.out
        rw [← hAe] at hbc
        have HBC := Lib.hid hbc
        clear hbc
        have HDL := Lib.hid hDl
        have HW89 := Lib.hid (HBW.out w8)
        have hB8 : B ≤ w8.heap.size := by have := HF8.out.size; have := HBB.out; omega
        clear hA hAe hDl HC05 x1 HCLO HNUM HMK6 HL6 HS5 HB7 HG8 HBN HBW HC4 HU
        go_upto_region 13 with (first
          | (refine load_box rfl 28 256 _ rfl p4 rfl A hsA' hgA _ Try.underlying28 rfl (by kernel_rfl) ?_)
          | (refine wpList_build_anyD rfl 33 _ rfl #[(0, .agg A)] (by first | kernel_rfl | rfl | (simp; rfl)) D HBC.out ?_)
          | (refine store_dfa rfl _ _ rfl w8.heap.size rfl D rfl HDL.out HCOL.out rfl rfl HW89.out ?_; intro w9 hb9 hg9; have HB9 := Lib.hid hb9; have HG9 := Lib.hid hg9; clear hb9 hg9))
        have hl9 : Below w8.heap.size w8 (w8.alloc (.cells Z 33)) := below_alloc _ _
        have HL89 := Lib.hid (hl9.grown HG9.out hl9.size (fun k hk => by injection hk with hk; omega))
        have HF9 := Lib.hid (HF8.out.trans (HL89.out.mono hB8))
        obtain ⟨g, hg⟩ : ∃ g, g = w8.heap.size := ⟨_, rfl⟩
        rw [← hg] at HB9 ⊢
        have HGG : Hid (g = w8.heap.size) := Lib.hid hg
        have hBg : B ≤ g := by omega
        have HBO : Hid (BothN w9 B (B + 1) B (.slice oe n ce) (.slice orr m cr) F lv vs [L0] g (.slice none 0 0) [] (.slice none 0 0) CO [] []) := Lib.hid (by
          have hnf : OwnM.free (.slice none 0 0) [] (some g) := ⟨fun _ hk => by simp [Value.ownBlock] at hk, fun i hi => absurd hi (Nat.not_lt_zero i)⟩
          refine ⟨HM8.out.up HL89.out, ⟨HB9.out, hBg, OwnM.nil _ _ _ _, Own.nil _ _ _, hnf, by simp [Value.ownBlock], OwnM.free_none⟩, fun k hk hd => ?_⟩
          have hk8 := (HM8.out.ltF k hk).2
          rcases hd with hd | hd | hd
          · omega
          · simp [Value.ownBlock] at hd
          · exact hd ⟨fun _ hk => by simp [Value.ownBlock] at hk, fun i hi => absurd hi (Nat.not_lt_zero i)⟩)
        clear hg HL89 hl9 HG9 HB9 HM8 HF8 hgA hsA' HBC HDL HW89 hB8 HGG
        go_loopg [10] 1001 (fun gk iv wr => ∃ (i : Nat) (R : List (List Nat)) (lv : Value) (vs : List Value) (nv : Value) (nvs : List Value) (rv : Value), iv = .int .i64 i ∧ GoAt e F r i R ∧ BothN wr B (B + 1) B (.slice oe n ce) (.slice orr m cr) F lv vs R g nv nvs rv CO (rowsAt e F r R i) (rulesAt r R i) ∧ Below B w4 wr ∧ gk = 1001 - i)
        case atStart => exact ⟨0, [L0], lv, vs, _, _, _, rfl, HGZ.out, by simpa [rowsAt, rulesAt] using HBO.out, HF9.out, rfl⟩
        case round =>
          obtain ⟨i, R, lv, vs, nv, nvs, rv, rfl, hgo, hbo, hbl, rfl⟩ := hrel
          have HGO := Lib.hid hgo
          have HBT := Lib.hid hbo
          have HF := Lib.hid hbl
          clear hgo hbo hbl HBO HF9 HGZ
          obtain ⟨og, cg, gg, hlv, -⟩ := HBT.out.mkr.lists.outer.cases
          have hvl := HBT.out.mkr.lists.len
          rw [cellsL_len] at hvl
          rw [hvl] at hlv
          subst hlv
          obtain ⟨-, -, -, c3, -, hq⟩ := HBT.out.mkr.c
          by_cases hlt : i < R.length
          · have d0 : decide ((i : Int) < R.length) = true := by simp; omega
            have hmk : ∀ W : World, (Instr.makeSlice 23 (.int .i64 KO) (.int .i64 KO)).run Try.prog W = .ok (.slice (some ⟨W.heap.size, 0, none⟩) KO KO) (W.alloc (.cells (madeCells #[Value.int .i64 0] KO) 3)) := run_mk (P := Try.prog) 23 3 (.int .i64 0) 8 KO Try.underlying23 (by kernel_rfl) rfl (by decide) (by omega)
            have hBw : B ≤ wr.heap.size := by have := HF.out.size; have := HBB.out; omega
            have hlk : Below wr.heap.size wr (wr.alloc (.cells (madeCells #[Value.int .i64 0] KO) 3)) := below_alloc _ _
            have HROW := Lib.hid (own_made wr B 3 (.int .i64 0) KO hBw (by omega))
            rw [show List.replicate KO (Value.int .i64 0) = ints (midRow e F r i R 0) by rw [(mid_zero e F r i R).2, HKO.out]; simp [ints, List.map_replicate]] at HROW
            have HBT0 := Lib.hid (HBT.out.up hlk)
            rw [← (mid_zero e F r i R).1] at HBT0
            have HF0 := Lib.hid (HF.out.trans (hlk.mono hBw))
            have HNM : Hid (¬ MkF (B + 1) B (.slice og R.length cg) vs wr.heap.size) := Lib.hid (fun hk => by have := (HBT.out.mkr.ltF _ hk).2; omega)
            have HND : Hid (¬ DbF g nv nvs rv wr.heap.size) := Lib.hid (fun hk => by have := (HBT.out.db.ltF _ hk).2; omega)
            have HBR : Hid (B ≤ wr.heap.size) := Lib.hid hBw
            clear hlk hBw HBT HF hvl
            go_upto_region 17 with (fail)
            generalize (wr.alloc (.cells (madeCells #[Value.int .i64 0] KO) 3)) = wk at *
            obtain ⟨br, hbr⟩ : ∃ br, br = wr.heap.size := ⟨_, rfl⟩
            rw [← hbr] at HROW HNM HND HBR ⊢
            clear hbr hmk c3 hq
            go_loopg [61] KO (fun gk jv wr => ∃ (j : Nat) (lv : Value) (vs : List Value), jv = .int .i64 j ∧ j ≤ KO ∧ BothN wr B (B + 1) B (.slice oe n ce) (.slice orr m cr) F lv vs (midR e F r i R j) g nv nvs rv CO (rowsAt e F r R i) (rulesAt r R i) ∧ Own wr B 3 (.slice (some ⟨br, 0, none⟩) KO KO) (ints (midRow e F r i R j)) ∧ ¬ MkF (B + 1) B lv vs br ∧ Below B w4 wr ∧ gk = KO - j)
            case atStart => exact ⟨0, _, _, rfl, Nat.zero_le _, HBT0.out, HROW.out, HNM.out, HF0.out, rfl⟩
            case round =>
              obtain ⟨j, lv, vs, rfl, hj, hbo, hrw, hnm, hbl, rfl⟩ := hrel
              have HBT := Lib.hid hbo
              have HRW := Lib.hid hrw
              have HNM := Lib.hid hnm
              have HF := Lib.hid hbl
              clear hbo hrw hnm hbl HBT0 HROW HF0
              by_cases hltj : j < KO
              · have hjh : j < (headN e).length := by rw [← HKO.out]; exact hltj
                obtain ⟨og, cg, gg, hlv, -⟩ := HBT.out.mkr.lists.outer.cases
                have hvl := HBT.out.mkr.lists.len
                rw [cellsL_len] at hvl
                rw [hvl] at hlv
                subst hlv
                obtain ⟨oa, cap, b, off, hle, hd, hrs⟩ := HBT.out.mkr.lists.rowsG.open
                rw [cellsL_len] at hle hd hrs
                injection hle with hle1 hle2 hle3
                subst hle1 hle3
                clear hle2
                obtain ⟨kt, hkt⟩ := mid_pre e F r i R j
                have hgi : (midR e F r i R j).getD i [] = R.getD i [] := by rw [hkt, getD_append_left' hlt]
                have him : i < (midR e F r i R j).length := by rw [hkt, List.length_append]; omega
                obtain ⟨oi, ci, bi, fi, hcell, hdi, -, hsi⟩ := hrs i him
                have hix := index_any (P := Try.prog) 31 23 Try.underlying31 (by kernel_rfl) hd
                have hixi : ∀ W, (Instr.indexAt 31 (.slice og (midR e F r i R j).length cg) (.int .i64 (i : Int))).run Try.prog W = .ok (.pointer (some ⟨b, off + i, none⟩)) W := fun W => by simpa using hix W .i64 i (by omega) (by omega)
                have hbb := hd.hblk (by omega)
                rw [cellsL_get him, hgi] at hcell hdi hsi
                obtain ⟨nl, hnl⟩ : ∃ nl, nl = (ints (nz (R.getD i []))).length := ⟨_, rfl⟩
                rw [← hnl] at hcell hdi hsi
                clear hnl
                have HC1 := Lib.hid (fun (x : World) (hx : Below B w4 x) => HXC.out x (hx.mono (by have := HBB.out; omega)))
                have HMS := Lib.hid (mid_step e F r i R hjh)
                have hc256 : (headN e).getD j 0 < 256 := headAt_mem (getD_mem _ _ _ hjh)
                have hcc := HFI.out _ HF.out j hltj
                have HTW := Lib.hid (okL_two (by have := right_len HRT.out; omega : e.length ≤ 3000) (mid_ok (F := F) (r := r) (i := i) HGO.out.ok j))
                have HT2 := Lib.hid (okL_two (by have := right_len HRT.out; omega : e.length ≤ 3000) (fun x hx => by rw [List.mem_singleton.1 hx]; exact okL_step e F r (nz (R.getD i [])) ((headN e).getD j 0) : ∀ x ∈ [stepG e F r (nz (R.getD i [])) ((headN e).getD j 0)], OkL e.length x) _ List.mem_cons_self)
                have HLN : Hid ((midR e F r i R j).length ≤ 100000) := Lib.hid (by have := mid_count e F r i R j (by omega); have := HGO.out.len; omega)
                have hBw : B ≤ wr.heap.size := by have := HF.out.size; have := HBB.out; omega
                have HF1 := Lib.hid (HF.out.trans ((show Below wr.heap.size wr wr.drew from by rw [World.drew_is_drewN]; exact below_drewN wr 1).mono hBw))
                have HBT1 := Lib.hid (HBT.out.up (show Below wr.heap.size wr wr.drew from by rw [World.drew_is_drewN]; exact below_drewN wr 1))
                have HSTP := Lib.hid (stepTopP (HNV.out wr.drew HF1.out) (v := .slice oi nl ci) (st := nz (R.getD i [])) (hsi.up (show Below wr.heap.size wr wr.drew from by rw [World.drew_is_drewN]; exact below_drewN wr 1)) _ hc256)
                generalize (headN e).getD j 0 = c at *
                generalize stepG e F r (nz (R.getD i [])) c = X at *
                have HNUM : Hid (∀ w7 u, Below wr.drew.heap.size wr.drew w7 → Own w7 wr.drew.heap.size 3 u (ints (nz X)) →
                    Calls Try.prog 24 #[.pointer (some ⟨B + 1, 0, none⟩), u] w7 fun en w' => en = .returned (.int .i64 (idx (addNew (midR e F r i R j) X) X : Nat)) ∧ ∃ lv' vs', MkN w' B (B + 1) B (.slice oe n ce) (.slice orr m cr) F lv' vs' (addNew (midR e F r i R j) X) ∧ Gw (MkNS (B + 1) B (.slice og (midR e F r i R j).length cg)) w7 (MkNS (B + 1) B lv') w' ∧ (∀ k, k < wr.drew.heap.size → OwnM.free (.slice og (midR e F r i R j).length cg) vs (some k) → OwnM.free lv' vs' (some k))) := Lib.hid (fun w7 u hb hu => numberP HBT1.out.mkr hb hu HTW.out HT2.out HLN.out)
                generalize idx (addNew (midR e F r i R j) X) X = kx at *
                generalize hR' : addNew (midR e F r i R j) X = R' at *
                obtain ⟨c0, c1, c2, c3, -, hq⟩ := HBT.out.mkr.c
                have hcxc := HC1.out _ HF.out
                have HXQ : Hid (∀ w', (∃ y, w' = ext wr y) → ∀ c, c < 3 → w'.cell? ⟨w.heap.size, 0 + c, none⟩ = some ((#[.slice oe n ce, .int .i64 F, .slice orr m cr] : Array Value).getD c undef)) := Lib.hid (by
                  rintro w' ⟨y, rfl⟩
                  exact HC1.out _ (HF.out.trans ((ext_below wr y).mono hBw)))
                have hpw : pf < wr.heap.size := by omega
                have hw0 : w.heap.size < wr.heap.size := by omega
                have HTW2 := HTW
                clear hrs hix hd hdi hsi hkt hgi hcxc c0 c1 c2 HTW HTW2 HT2 HLN hR' hvl HXQ
                go_wp2
                refine wp_region_scr (C := fun w' => Below B w4 w') (.q 0 (.q 1 (.q 2 (.q 3 (.q 4 (.q 8 (.q 11 (.br 5 (.br 6 (.br 7 (.br 9 (.br 10 (.br 12 (.br 13 (.br 14 (.br 15 .done .no) .no) .no) .no) .no) .no) .no) .no) .no)))))))) (by kernel_rfl) (by kernel_rfl) HF1.out ?_
                (repeat ((unfold wpScr; simp only [pick, List.map_cons, List.map_nil, List.getD_cons_zero, List.getD_cons_succ]); (first | (go_big_quiet_want; refine quiet_load_cells 25 3 _ rfl w.heap.size 0 rfl #[.slice oe n ce, .int .i64 F, .slice orr m cr] rfl HC1.out _ Try.underlying25 rfl (by kernel_rfl) ?_; go_simp; go_big_quiet_on) | go_big_quiet_step (fail)); refine wpQuiet_nil ?_))
                have c3d : wr.drew.cell? ⟨B + 1, 3, none⟩ = _ := c3
                have hcelld : wr.drew.cell? ⟨b, off + i, none⟩ = _ := hcell
                have hqd : B + 1 < wr.drew.heap.size := hq
                have hbbd : b < wr.drew.heap.size := hbb
                have HRW1 : Hid (Own wr.drew B 3 (.slice (some ⟨br, 0, none⟩) KO KO) (ints (midRow e F r i R j))) := Lib.hid (HRW.out.up (show Below wr.heap.size wr wr.drew from by rw [World.drew_is_drewN]; exact below_drewN wr 1))
                clear c3 hcell hq hbb HRW HBT HF hcc hpw hw0
                generalize wr.drew = wd at *
                ((unfold wpScr; simp only [pick, List.map_cons, List.map_nil, List.getD_cons_zero, List.getD_cons_succ]); refine ⟨?_, by unfold wpScr; exact True.intro⟩; unfold wpAct; go_wp2; refine ⟨HF1.out, ?_⟩; unfold wpAct)
                ((unfold wpScr; simp only [pick, List.map_cons, List.map_nil, List.getD_cons_zero, List.getD_cons_succ]); refine ⟨?_, by unfold wpScr; exact True.intro⟩; unfold wpAct; go_wp2; refine ⟨HF1.out, ?_⟩; unfold wpAct)
                ((unfold wpScr; simp only [pick, List.map_cons, List.map_nil, List.getD_cons_zero, List.getD_cons_succ]); refine ⟨?_, by unfold wpScr; exact True.intro⟩; unfold wpAct; go_wp2; refine ⟨HF1.out, ?_⟩; unfold wpAct)
                ((unfold wpScr; simp only [pick, List.map_cons, List.map_nil, List.getD_cons_zero, List.getD_cons_succ]); refine ⟨?_, by unfold wpScr; exact True.intro⟩; unfold wpAct; go_wp2; refine ⟨HF1.out, ?_⟩; unfold wpAct)
                ((unfold wpScr; simp only [pick, List.map_cons, List.map_nil, List.getD_cons_zero, List.getD_cons_succ]); refine ⟨?_, by unfold wpScr; exact True.intro⟩; unfold wpAct; go_wp2; refine ⟨HF1.out, ?_⟩; unfold wpAct)
                ((unfold wpScr; simp only [pick, List.map_cons, List.map_nil, List.getD_cons_zero, List.getD_cons_succ]); refine ⟨?_, by unfold wpScr; exact True.intro⟩; unfold wpAct)
                have hBd : B ≤ wd.heap.size := by omega
                go_wp2_with ((with_reducible go_at_call 26); (with_reducible refine HSTP.out.mono ?_); rintro en w7 ⟨u, rfl, hown, hbl⟩; have HU := Lib.hid hown; have HB7 := Lib.hid hbl; clear hown hbl)
                have HF7 := Lib.hid (HF1.out.trans (HB7.out.mono hBd))
                refine ⟨HF7.out, ?_⟩
                unfold wpAct
                ((unfold wpScr; simp only [pick, List.map_cons, List.map_nil, List.getD_cons_zero, List.getD_cons_succ]); refine ⟨?_, by unfold wpScr; exact True.intro⟩; unfold wpAct)
                go_wp2_with ((with_reducible go_at_call 24); (with_reducible refine (HNUM.out _ _ HB7.out HU.out).mono ?_); rintro en w8 ⟨rfl, lv2, vs2, hmk8, hg8, hf8⟩; have HM8 := Lib.hid hmk8; have HG8 := Lib.hid hg8; have HF8 := Lib.hid hf8; clear hmk8 hg8 hf8)
                have HNB := Lib.hid (HBT1.out.num HB7.out HM8.out HG8.out HF8.out)
                have HFX := Lib.hid (HF7.out.trans (HG8.out.below (by have := HB7.out.size; omega) (fun k hk => (HBT1.out.mkr.lt k hk).1)))
                have hbrd : br < wd.heap.size := (HRW1.out.lt br rfl).2
                have HRW8 := Lib.hid (HG8.out.own (HRW1.out.up HB7.out) (fun k hk hS => by simp [Value.ownBlock] at hk; subst hk; exact HNM.out (mks_mkf hS)))
                refine ⟨HFX.out, ?_⟩
                unfold wpAct
                have hlr : (ints (midRow e F r i R j)).length = KO := by rw [ints_length, midRow_len e F r i R (by omega), HKO.out]
                have hcf := HRW8.out.cell (i := j) (by omega)
                have hff := HRW8.out.free j
                have hbr8 : br < w8.heap.size := HRW8.out.blk.2
                have HST := Lib.hid (HRW8.out.store j (.int .i64 (kx : Nat)))
                generalize (ints (midRow e F r i R j)).getD j undef = y0 at *
                clear hlr c3d hcelld hqd hbbd HSTP HNUM HU
                ((unfold wpScr; simp only [pick, List.map_cons, List.map_nil, List.getD_cons_zero, List.getD_cons_succ]); refine ⟨?_, by unfold wpScr; exact True.intro⟩; unfold wpAct)
                go_wp2
                refine ⟨HFX.out, ?_⟩
                unfold wpAct
                ((unfold wpScr; simp only [pick, List.map_cons, List.map_nil, List.getD_cons_zero, List.getD_cons_succ]); refine ⟨?_, by unfold wpScr; exact True.intro⟩; unfold wpAct)
                go_wp2
                have HFY := Lib.hid (HFX.out.grown HST.out.2 (by have := HFX.out.size; have := HBB.out; omega) (fun k hk => by injection hk with hk; have := HBR.out; omega))
                refine ⟨HFY.out, ?_⟩
                unfold wpAct
                unfold wpScr
                first | (intro _ hqq; clear hqq) | (intro hqq; clear hqq)
                go_wp2
                go_roundg (KO - (j + 1))
                case measure => omega
                case rel =>
                  refine ⟨j + 1, lv2, vs2, by go_num, by omega, ?_, ?_, HNB.out.2 br hbrd HNM.out, HFY.out, rfl⟩
                  · rw [HMS.out.1]
                    exact HNB.out.1.row (HNB.out.2 br hbrd HNM.out) HND.out j _ HST.out.2
                  · rw [HMS.out.2, ← ints_set]
                    exact HST.out.1
              · have hje : j = KO := by omega
                subst hje
                have hma := mid_all e F r i R
                rw [← HKO.out] at hma
                rw [hma.1] at HBT
                rw [hma.2] at HRW
                clear hma
                obtain ⟨R2, hR2⟩ : ∃ R2, R2 = moreR e F r i R := ⟨_, rfl⟩
                have HR2 := Lib.hid hR2
                have HBIG : Hid (1000 < R2.length → listsN e F r = none) := Lib.hid (fun hb => HGO.out.big hlt (by rw [← hR2]; exact hb))
                have HNXT : Hid (R2.length ≤ 1000 → GoAt e F r (i + 1) R2 ∧ rowsAt e F r R2 (i + 1) = rowsAt e F r R i ++ [rowS e F r R2 (R.getD i [])] ∧ rulesAt r R2 (i + 1) = rulesAt r R i ++ [leastI r (R.getD i [])]) := Lib.hid (fun hb => by rw [hR2]; exact HGO.out.next hlt (by rw [← hR2]; exact hb))
                rw [← hR2] at HBT HRW
                clear hR2
                obtain ⟨og, cg, gg, hlv, -⟩ := HBT.out.mkr.lists.outer.cases
                have hvl := HBT.out.mkr.lists.len
                rw [cellsL_len] at hvl
                rw [hvl] at hlv
                subst hlv
                obtain ⟨c0, c1, c2, c3, -, hq⟩ := HBT.out.mkr.c
                clear c0 c1 c2
                by_cases hbig : 1000 < R2.length
                · have HE : Hid (subE e F r = 3 ∧ subI e F r = zeroD) := Lib.hid ⟨by unfold subE; rw [if_pos HRT.out, HBIG.out hbig], by unfold subI; rw [if_pos HRT.out, HBIG.out hbig]⟩
                  have d1 : decide ((1000 : Int) < R2.length) = true := by simp; omega
                  have hbd := HBD.out
                  have HR9 := Lib.hid (HR1.out _ (HF.out.mono (by have := HBB.out; omega)))
                  go_wp2_with (refine store_dfa rfl _ _ rfl (w.heap.size + 1) rfl Z rfl HZL.out List.length_replicate rfl rfl HR9.out ?_; intro w12 hb12 hg12; have HB12 := Lib.hid hb12; have HG12 := Lib.hid hg12; clear hb12 hg12)
                  refine ret_dfa rfl rfl rfl rfl HB12.out (rows_nil _) (rules := []) (Sl.nil _) fun v hv => ⟨v, by rw [HE.out.1]; rfl, by rw [HE.out.2]; exact hv, ?_⟩
                  have h1 := HFR.out _ (HF.out.mono (by have := HBB.out; omega))
                  exact h1.grown HG12.out h1.size (fun k hk => by cases hk; omega)
                · have d1 : decide ((1000 : Int) < R2.length) = false := by simp; omega
                  obtain ⟨hg2, hr2, hu2⟩ := HNXT.out (by omega)
                  have HGN := Lib.hid hg2
                  have HRN := Lib.hid hr2
                  have HUN := Lib.hid hu2
                  have hBw : B ≤ wr.heap.size := by have := HF.out.size; have := HBB.out; omega
                  obtain ⟨on, cn, gn, hnv, -⟩ := HBT.out.db.rows.outer.cases
                  obtain ⟨nn, hnn⟩ : ∃ nn, nn = nvs.length := ⟨_, rfl⟩
                  rw [← hnn] at hnv
                  subst hnv
                  clear hnn
                  have e256 := HBT.out.db.box.cellN
                  have hgl := HBT.out.db.box.lt
                  have hng : (Value.slice on nn cn).ownBlock ≠ some g := fun e => HBT.out.db.fg.1 g e rfl
                  have hlr : Below wr.heap.size wr (wr.alloc (.cells #[.slice (some ⟨br, 0, none⟩) j j] 23)) := below_alloc _ _
                  have HLR := Lib.hid hlr
                  have HSX : Hid (Sl (wr.alloc (.cells #[.slice (some ⟨br, 0, none⟩) j j] 23)) (.slice (some ⟨wr.heap.size, 0, none⟩) 1 1) [.slice (some ⟨br, 0, none⟩) j j]) := Lib.hid (by simpa using sl_lit wr #[.slice (some ⟨br, 0, none⟩) j j] 23 (by simp))
                  have HT1 := Lib.hid (HBT.out.db.rows.outer.up hlr)
                  have HT3 : Hid (nvs.length + [Value.slice (some ⟨br, 0, none⟩) j j].length ≤ 4294967296) := Lib.hid (by have h1 := HBT.out.db.rows.len; have h2 := HGO.out.len; have h3 := HGO.out.le; simp [rowsAt] at h1; simp; omega)
                  have HT4 : Hid (B ≤ (wr.alloc (.cells #[.slice (some ⟨br, 0, none⟩) j j] 23)).heap.size) := Lib.hid (by have := hlr.size; omega)
                  have HBXA := Lib.hid (HBT.out.db.box.up hlr)
                  have HNG := Lib.hid hng
                  clear hg2 hr2 hu2 hlr hng
                  go_upto_region 24 with (at_builtin; refine wpList_app rfl (.tmp 90) (.tmp 92) 31 rfl B 23 (.slice none 0 0) 24 Try.underlying31 (by kernel_rfl) rfl (by decide) (.slice on nn cn) nvs rfl HT1.out (.slice (some ⟨wr.heap.size, 0, none⟩) 1 1) [.slice (some ⟨br, 0, none⟩) j j] rfl HSX.out (by simp [Value.oneCell']) HT3.out HT4.out ?_; intro v' w5 hown1 hg1 hk1; (obtain ⟨o5, c5, q5', hv5, -⟩ := hown1.cases); (obtain ⟨n5, hn5⟩ : ∃ n5, n5 = (nvs ++ [Value.slice (some ⟨br, 0, none⟩) j j]).length := ⟨_, rfl⟩); rw [← hn5] at hv5; subst hv5; clear hn5; have HO5 := Lib.hid hown1; have HG5 := Lib.hid hg1; have HK5 := Lib.hid hk1; clear hown1 hg1 hk1; have HBX5 := Lib.hid (HBXA.out.keep HG5.out HNG.out); have g5 := HBX5.out.free 256; have h5 := HBX5.out.cellN; have hq5 := HBX5.out.lt)
                  have HPR := Lib.hid (HBT.out.pushRow HRW.out (fun k hk => by simp [Value.ownBlock] at hk; subst hk; exact ⟨HND.out, HNM.out⟩) HLR.out HO5.out HG5.out HK5.out)
                  clear HBX5 g5 h5 hq5 HBXA HT1 HT3 HT4 HSX HO5 HG5 HK5 e256 hgl c3 hq HLR
                  rw [← HRN.out] at HPR
                  generalize hw6 : w5.setCell ⟨g, 256, none⟩ (.slice o5 n5 c5) = w6 at *
                  have HBO6 := Lib.hid HPR.out.1
                  have HF6 := Lib.hid (HF.out.trans (HPR.out.2.mono (by have := HBB.out; omega)))
                  clear hw6 HPR HBT HF
                  obtain ⟨kt, hkt⟩ := foldl_addNew_prefix (nxtN e F r (R.getD i [])) R
                  have hR2e : R2 = R ++ kt := HR2.out.trans hkt
                  have hgi : R2.getD i [] = R.getD i [] := by rw [hR2e, getD_append_left' hlt]
                  have him : i < R2.length := by rw [hR2e, List.length_append]; omega
                  obtain ⟨oa, cap, b, off, hle, hd, hrs⟩ := HBO6.out.mkr.lists.rowsG.open
                  rw [cellsL_len] at hle hd hrs
                  injection hle with hle1 hle2 hle3
                  subst hle1 hle3
                  clear hle2
                  obtain ⟨oi, ci, bi, fi, hcell, hdi, -, hsi⟩ := hrs i him
                  have hix := index_any (P := Try.prog) 31 23 Try.underlying31 (by kernel_rfl) hd
                  have hixi : ∀ W, (Instr.indexAt 31 (.slice og R2.length cg) (.int .i64 (i : Int))).run Try.prog W = .ok (.pointer (some ⟨b, off + i, none⟩)) W := fun W => by simpa using hix W .i64 i (by omega) (by omega)
                  have hbb := hd.hblk (by omega)
                  rw [cellsL_get him, hgi] at hcell hdi hsi
                  obtain ⟨nl, hnl⟩ : ∃ nl, nl = (ints (nz (R.getD i []))).length := ⟨_, rfl⟩
                  rw [← hnl] at hcell hdi hsi
                  obtain ⟨c0, c1, c2, c3, -, hq⟩ := HBO6.out.mkr.c
                  have hB6 : B ≤ w6.heap.size := by have := HF6.out.size; have := HBB.out; omega
                  have hd6 : Below w6.heap.size w6 w6.drew := by rw [World.drew_is_drewN]; exact below_drewN w6 1
                  have HD6 := Lib.hid hd6
                  obtain ⟨ve', vr', heq, -, hrr⟩ := HNV.out _ (HF6.out.trans (hd6.mono hB6))
                  have hvr : vr' = .slice orr m cr := by
                    have := congrArg (fun x : Array Value => x.getD 2 undef) heq
                    simpa using this.symm
                  rw [hvr] at hrr
                  have hok := HGO.out.ok _ (getD_mem R i [] hlt)
                  have hrg := right_rules HRT.out
                  have HRUL := Lib.hid (ruleP (w := w6.drew) (q := B + 1) c2 hq hrr (v := .slice oi nl ci) (L := R.getD i []) (hsi.up hd6) (fun s hs => by rw [hrg.1]; exact hok.2 s hs) hrg.2)
                  obtain ⟨orv, crv, grv, hrv, -⟩ := HBO6.out.db.rls.cases
                  obtain ⟨nrv, hnrv⟩ : ∃ nrv, nrv = (ints (rulesAt r R i)).length := ⟨_, rfl⟩
                  rw [← hnrv] at hrv
                  subst hrv
                  clear hnrv hnl hkt hR2e hgi hrs hix hd hdi hsi heq hvr hrr hok hrg c0 c1 c2
                  have e257 := HBO6.out.db.box.cellR
                  have hgl := HBO6.out.db.box.lt
                  generalize leastI r (R.getD i []) = lx at *
                  have HRL : Hid ((rulesAt r R i).length ≤ 1000) := Lib.hid (by have h2 := HGO.out.len; have h3 := HGO.out.le; simp [rulesAt]; omega)
                  go_wp2
                  refine wp_region_tailg [0,1,2,3,4,5,6,7,8,9] [10,11] [12,13,14] (by kernel_rfl) (by kernel_rfl) ?_
                  simp only [pick, List.map_cons, List.map_nil, List.getD_cons_zero, List.getD_cons_succ]
                  repeat (go_big_quiet_step (fail))
                  refine wpQuiet_nil ?_
                  generalize w6.drew = wd at *
                  unfold wpAct
                  go_wp2_with ((with_reducible go_at_call 27); (with_reducible refine HRUL.out.mono ?_); rintro en w7 ⟨rfl, x7, rfl⟩)
                  have HB7 := Lib.hid (b_ext' HD6.out x7)
                  refine ⟨ex_ext HB7.out, ?_⟩
                  generalize ext wd x7 = w7 at *
                  have hs7 := HB7.out.size
                  have hl8 : Below w6.heap.size w6 (w7.alloc (.cells #[.int .i64 lx] 3)) := HB7.out.trans ((below_alloc w7 (.cells #[.int .i64 lx] 3)).mono hs7)
                  have HL8 := Lib.hid hl8
                  have HSX : Hid (Sl (w7.alloc (.cells #[.int .i64 lx] 3)) (.slice (some ⟨w7.heap.size, 0, none⟩) 1 1) (ints [lx])) := Lib.hid (by simpa [ints] using sl_lit w7 #[.int .i64 lx] 3 (by simp))
                  have HT1 := Lib.hid (HBO6.out.db.rls.up hl8)
                  have HT3 : Hid ((ints (rulesAt r R i)).length + (ints [lx]).length ≤ 4294967296) := Lib.hid (by have := HRL.out; simp only [ints_length, List.length_singleton]; omega)
                  have HT4 : Hid (B ≤ (w7.alloc (.cells #[.int .i64 lx] 3)).heap.size) := Lib.hid (by have := hl8.size; omega)
                  have HBXA := Lib.hid (HBO6.out.db.box.up hl8)
                  have HRG := Lib.hid HBO6.out.db.rg
                  clear hl8 e257 hgl hs7 hcell hixi hbb c3 hq HRUL
                  (unfold wpAct; go_wp2; refine ⟨ex_ext HL8.out, ?_⟩)
                  unfold wpAct
                  unfold wpAct
                  go_wp2_with (at_builtin; refine wpList_app rfl (.tmp 96) (.tmp 106) 23 rfl B 3 (.int .i64 0) 8 Try.underlying23 (by kernel_rfl) rfl (by decide) (.slice orv nrv crv) (ints (rulesAt r R i)) rfl HT1.out (.slice (some ⟨w7.heap.size, 0, none⟩) 1 1) (ints [lx]) rfl HSX.out (ints_one _) HT3.out HT4.out ?_; intro v' w9 hown1 hg1 hk1; (obtain ⟨o9, c9, q9', hv9, -⟩ := hown1.cases); (obtain ⟨n9, hn9⟩ : ∃ n9, n9 = (ints (rulesAt r R i) ++ ints [lx]).length := ⟨_, rfl⟩); rw [← hn9] at hv9; subst hv9; clear hn9; have HO9 := Lib.hid hown1; have HG9 := Lib.hid hg1; have HK9 := Lib.hid hk1; clear hown1 hg1 hk1)
                  have HBX9 := Lib.hid (HBXA.out.keep HG9.out HRG.out)
                  have g9 := HBX9.out.free 257
                  have h9 := HBX9.out.cellR
                  have hq9 := HBX9.out.lt
                  refine ⟨trivial, ?_⟩
                  (unfold wpAct; go_wp2; refine ⟨trivial, ?_⟩)
                  (unfold wpAct; go_wp2; refine ⟨trivial, ?_⟩)
                  unfold wpAct
                  have HPU := Lib.hid (HBO6.out.pushRule HL8.out (x := lx) (by rw [ints_app]; exact HO9.out) HG9.out HK9.out)
                  rw [← HUN.out] at HPU
                  go_wp2
                  go_roundg (1001 - (i + 1))
                  case measure => have := HGO.out.len; omega
                  case rel => exact ⟨i + 1, R2, _, _, _, _, _, by go_num, HGN.out, HPU.out.1, HF6.out.trans (HPU.out.2.mono (by have := HBB.out; omega)), rfl⟩
          · have d0 : decide ((i : Int) < R.length) = false := by simp; omega
            obtain ⟨hl1, hl2, hl3⟩ := HGO.out.done hlt
            have HE : Hid (subE e F r = 0 ∧ subI e F r = dfaS e F r R) := Lib.hid ⟨by unfold subE; rw [if_pos HRT.out, hl1], by unfold subI; rw [if_pos HRT.out, hl1]⟩
            have HRW : Hid (rowsAt e F r R i = (dfaS e F r R).next) := Lib.hid hl2
            have HRU : Hid (rulesAt r R i = (dfaS e F r R).rules) := Lib.hid hl3
            obtain ⟨A9, hA9, hs9, hl9⟩ := HBT.out.db.box.open
            have HA9 := Lib.hid hA9
            have HS9 := Lib.hid hs9
            have HL9 := Lib.hid hl9
            have hn1c : nv.oneCell' = true := own_oneCell HBT.out.db.rows.outer
            have hr1c : rv.oneCell' = true := own_oneCell HBT.out.db.rls
            have HRS9 := Lib.hid (HR1.out _ HF.out)
            clear hA9 hs9 hl9 hl1 hl2 hl3
            go_wp2_with (first | (refine load_dfa rfl _ rfl g rfl A9 HS9.out HA9.out ?_) | (refine store_dfa rfl _ _ rfl (w.heap.size + 1) rfl A9 rfl HL9.out HBT.out.db.box.len hn1c hr1c HRS9.out ?_; intro w12 hb12 hg12; have HB12 := Lib.hid hb12; have HG12 := Lib.hid hg12; clear hb12 hg12))
            have hnv9 := ((HBT.out.db.rows.keep' HG12.out (HBT.out.db.rows.free_below (by omega))).rowsG.ints)
            have hrv9 : IntsAt w12 rv (rulesAt r R i) := (HBT.out.db.rls.keep HG12.out (by
              cases hro : rv.ownBlock with
              | none => exact .inl rfl
              | some k => exact .inr (fun e => by injection e with e; have := (HBT.out.db.rls.lt k hro).1; omega))).sl
            refine ret_dfa rfl rfl rfl rfl HB12.out hnv9 hrv9 fun v hv => ⟨v, by rw [HE.out.1]; rfl, ?_, ?_⟩
            · rw [HE.out.2]
              rw [HRW.out, HRU.out, HCO.out] at hv
              exact hv
            · have h1 := HFR.out _ (HF.out.mono (by have := HBB.out; omega))
              exact h1.grown HG12.out h1.size (fun j hj => by injection hj with hj; omega)
      | succ d =>
        rw [show ((d + 1 : Nat) : Int) - 1 = d by omega]
        have hd256 : d < 256 := by omega
        have hmd : (d : Int) % 256 = d := by omega
        have HBC := Lib.hid (HB23.out.keep HG.out (by intro hh; injection hh with hh; have := HPO.out; omega))
        have hcc : wr.cell? ⟨p4, d, none⟩ = some (.int .i64 (clsN e d : Nat)) := by
          rw [HBC.out.cell hd256, HCO.out, clsL_get e hd256]
        have hkz : clsN e d < KO := by rw [HKO.out]; exact clsN_lt e hd256
        have hpw : p4 < wr.heap.size := HBC.out.lt
        have hpf2 : pf < wr.heap.size := HOW.out.blk.2
        have hff := HOW.out.free (clsN e d)
        have hlen : (bytV l).length = KO := by rw [bytV_len, HFO.out.1, HKO.out]
        have hcf := HOW.out.cell (i := clsN e d) (by omega)
        have HST := Lib.hid (HOW.out.store (clsN e d) (.int .u8 (d : Int)))
        have HNX := Lib.hid (first_step HFO.out hd256)
        rw [bytV_set] at HST
        generalize (bytV l).getD (clsN e d) undef = y0 at *
        generalize clsN e d = kc at *
        clear hlen
        go_wp2
        go_roundg d
        case measure => omega
        case rel => exact ⟨d, l.set kc d, rfl, by omega, HST.out.1, HNX.out, grown_trans HG.out HST.out.2, rfl⟩
  · have hrf : rightN e F r = false := by simpa using hrt
    have HE : Hid (subE e F r = 4 ∧ subI e F r = zeroD) := Lib.hid ⟨by unfold subE; rw [if_neg hrt], by unfold subI; rw [if_neg hrt]⟩
    obtain rfl := HCN.out.2 hrf
    clear hrf hrt
    go_enter Try.func10, Try.ntmps10
    go_wp2_with (first
      | (refine wpList_load_cells rfl 25 _ rfl w.heap.size 0 3 rfl _ _ (nfaBox HBX.out) rfl Try.underlying25 rfl (by kernel_rfl) ?_)
      | ((with_reducible go_at_call 8); refine HCL.out.mono ?_; rintro en w1 ⟨rfl, hb1⟩; have HE1 := Lib.hid (hb1.trans ((below_alloc w1 (.cells ZC 28)).mono hb1.size)); have hs1 := hb1.size; clear hb1)
      | (refine store_box rfl 28 256 _ _ rfl w1.heap.size rfl _ CO rfl HCOL.out (by kernel_rfl) (HBZ.out w1) ?_; intro w2 hb2 hg2; have HB2 := Lib.hid hb2; have HE2 := Lib.hid (HE1.out.grown hg2 HE1.out.size (fun k hk => by cases hk; exact hs1)); clear hb2 hg2)
      | (refine store_dfa rfl _ _ rfl (w.heap.size + 1) rfl Z rfl HZL.out List.length_replicate rfl rfl (HB1.out.up HE2.out) ?_; intro w3 hb3 hg3; have HB3 := Lib.hid hb3; have HG3 := Lib.hid hg3; clear hb3 hg3))
    refine ret_dfa rfl rfl rfl rfl HB3.out (rows_nil _) (rules := []) (Sl.nil _) fun v hv => ⟨v, by rw [HE.out.1]; rfl, by rw [HE.out.2]; exact hv, ?_⟩
    have h1 := HA.out.trans (HE2.out.mono HA.out.size)
    exact h1.grown HG3.out h1.size (fun k hk => by cases hk; omega)
end Go.Cm
