/- Texts of this claim, joined: walks of small functions and plain facts about them. Conditions: as each says. -/
import Derived.Test.YtmophmeiemfikaaRows
import Derived.WalkKit
import Derived.WalkSpells
import Derived.WalkLawsBesides
import Derived.Deep.QuietTactic
import Derived.BigQuiet
import Derived.Lib.Hide
import Derived.Deep.LoopGhost
import Derived.Laws.BitsLemmas
import Derived.Laws.Small
import Derived.Test.YtmophmeiemfikaaQD
import Derived.Deep.DeepCutAuto
import Derived.Deep.CutBlock
import Derived.Deep.CutRange
/- Whether both codes of a block fit, for any ints; what is wrong of a head. Conditions: the lists read as lists. -/
namespace Go.Cm
open Go.RowKit Go.Proofs

def fits2I (l1 l2 : List Int) : Nat := if l1.getD 256 0 = 0 then 21 else if fitsE l1 true ≠ 0 then fitsE l1 true else fitsE l2 true
theorem fits2_nls (l1 l2 : List Nat) : fits2I (nls l1) (nls l2) = fits2 l1 l2 := by
  unfold fits2I fits2
  rw [nls_getD]
  by_cases h : l1.getD 256 0 = 0
  · rw [if_pos h, if_pos (by omega)]
  · rw [if_neg h, if_neg (by omega)]
theorem fits2PI (u v : Value) (lits dists : List Int) (w : World) (hu : IntsAt w u lits) (hv : IntsAt w v dists) (h256 : 256 < lits.length) :
    Calls Try.prog 92 #[u, v] w fun e w' => e = .returned (.int .i64 (fits2I lits dists : Nat)) ∧ Below w.heap.size w w' := by
  have HF1 := Lib.hid (fitsP u lits true w hu)
  have HF2 := Lib.hid (fun W (hb : Below w.heap.size w W) => fitsP v dists true W (hv.up hb))
  obtain ⟨oa, cap, b, off, hvv, hd, hc⟩ := hu.open
  subst hvv
  have hcell := hc 256 h256
  have hix := index_any (P := Try.prog) 39 3 Try.underlying39 (by kernel_rfl) hd
  have hm := hd.len
  have hbb := hd.hblk (by omega)
  have hli : (256 : Int) < (lits.length : Int) := by omega
  obtain ⟨r, hr⟩ : ∃ r, r = fits2I lits dists := ⟨_, rfl⟩
  rw [← hr]
  unfold fits2I at hr
  have HR := Lib.hid hr
  clear hc hd hu hv hr
  generalize fitsE lits true = e1 at *
  generalize fitsE dists true = e2 at *
  generalize lits.getD 256 0 = y at *
  generalize lits.length = m at *
  by_cases hy : y = 0
  · have h21 : r = 21 := by rw [HR.out]; exact if_pos hy
    subst h21 hy
    clear HR
    go_enter Try.func92, Try.ntmps92
    go_wp2
    go_ret
    exact ⟨rfl, Below.refl _ _⟩
  · have hy' : (y == 0) = false := by simpa using hy
    by_cases he : e1 = 0
    · have h2 : r = e2 := by rw [HR.out, if_neg hy]; exact if_neg (by omega)
      subst h2 he
      clear HR hy
      go_enter Try.func92, Try.ntmps92
      go_wp2_with (first | (go_at_call 116; (with_reducible refine HF1.out.mono ?_); rintro e w1 ⟨rfl, hb1⟩; (have HB1 := Lib.hid hb1; have HFF := Lib.hid (HF2.out w1 HB1.out); clear hb1)) | (go_at_call 116; (with_reducible refine HFF.out.mono ?_); rintro e w2 ⟨rfl, hb2⟩; (have HB2 := Lib.hid (below_up HB1.out hb2); clear hb2)))
      go_ret
      exact ⟨rfl, HB2.out⟩
    · have h2 : r = e1 := by rw [HR.out, if_neg hy]; exact if_pos he
      have he' : ((e1 : Int) != 0) = true := by simpa using he
      subst h2
      clear HR hy he
      go_enter Try.func92, Try.ntmps92
      go_wp2_with (go_at_call 116; (with_reducible refine HF1.out.mono ?_); rintro e w1 ⟨rfl, hb1⟩; (have HB1 := Lib.hid hb1; clear hb1))
      go_ret
      exact ⟨rfl, HB1.out⟩
def mayI (k z : Int) (l1 l2 : List Int) : Nat :=
  if k = 0 then (if z < 0 ∨ 65535 < z then 1 else 0)
  else if k = 1 then 0
  else if k = 2 then (if l1.length < 257 ∨ 286 < l1.length ∨ l2.length < 1 ∨ 30 < l2.length then 1 else fits2I l1 l2)
  else 1
set_option maxRecDepth 100000 in
theorem mayP (f : Bool) (k z : Int) (u1 u2 : Value) (l1 l2 : List Int) (w : World) (h1 : IntsAt w u1 l1) (h2 : IntsAt w u2 l2) :
    Calls Try.prog 66 #[.agg #[.bool f, .int .i64 k, .int .i64 z, u1, u2]] w fun e w' => e = .returned (.int .i64 (mayI k z l1 l2 : Nat)) ∧ Below w.heap.size w w' := by
  have HF := Lib.hid (fun (h : 256 < l1.length) (W : World) (hb : Below w.heap.size w W) => fits2PI u1 u2 l1 l2 W (h1.up hb) (h2.up hb) h)
  obtain ⟨o1, c1, b1, f1, rfl, hd1, -⟩ := h1.open
  obtain ⟨o2, c2, b2, f2, rfl, hd2, -⟩ := h2.open
  have hm1 := hd1.len
  have hm2 := hd2.len
  obtain ⟨r, hr⟩ : ∃ r, r = mayI k z l1 l2 := ⟨_, rfl⟩
  rw [← hr]
  unfold mayI at hr
  have HR := Lib.hid hr
  clear h1 h2 hd1 hd2 hr
  by_cases hk0 : k = 0
  · subst hk0
    by_cases hz0 : z < 0
    · have HR2 : Hid (r = 1) := Lib.hid (by rw [HR.out, if_pos rfl, if_pos (.inl hz0)])
      rw [HR2.out]
      clear HR HF
      go_enter Try.func66, Try.ntmps66
      go_wp2
      go_ret
      exact ⟨rfl, (by repeat (first | exact Below.refl _ _ | assumption | refine b_drewN ?_ _ | refine Below.drew ?_ | refine b_ext' ?_ _ | refine b_alloc' ?_ _))⟩
    · by_cases hz1 : z > 65535
      · have HR2 : Hid (r = 1) := Lib.hid (by rw [HR.out, if_pos rfl, if_pos (.inr hz1)])
        rw [HR2.out]
        clear HR HF
        go_enter Try.func66, Try.ntmps66
        go_wp2
        go_ret
        exact ⟨rfl, (by repeat (first | exact Below.refl _ _ | assumption | refine b_drewN ?_ _ | refine Below.drew ?_ | refine b_ext' ?_ _ | refine b_alloc' ?_ _))⟩
      · have HR2 : Hid (r = 0) := Lib.hid (by rw [HR.out, if_pos rfl, if_neg (by omega)])
        rw [HR2.out]
        clear HR HF
        go_enter Try.func66, Try.ntmps66
        go_wp2
        go_ret
        exact ⟨rfl, (by repeat (first | exact Below.refl _ _ | assumption | refine b_drewN ?_ _ | refine Below.drew ?_ | refine b_ext' ?_ _ | refine b_alloc' ?_ _))⟩
  · have hk0' : (k == 0) = false := by simpa using hk0
    by_cases hk1 : k = 1
    · subst hk1
      have HR2 : Hid (r = 0) := Lib.hid (by rw [HR.out, if_neg hk0, if_pos rfl])
      rw [HR2.out]
      clear HR HF hk0 hk0'
      go_enter Try.func66, Try.ntmps66
      go_wp2
      go_ret
      exact ⟨rfl, (by repeat (first | exact Below.refl _ _ | assumption | refine b_drewN ?_ _ | refine Below.drew ?_ | refine b_ext' ?_ _ | refine b_alloc' ?_ _))⟩
    · have hk1' : (k == 1) = false := by simpa using hk1
      by_cases hk2 : k = 2
      · subst hk2
        have HR3 : Hid (r = if l1.length < 257 ∨ 286 < l1.length ∨ l2.length < 1 ∨ 30 < l2.length then 1 else fits2I l1 l2) := Lib.hid (by rw [HR.out, if_neg hk0, if_neg hk1, if_pos rfl])
        clear HR hk0 hk0' hk1 hk1'
        by_cases ha : l1.length < 257
        · have hai : (l1.length : Int) < 257 := by omega
          have HR2 : Hid (r = 1) := Lib.hid (by rw [HR3.out, if_pos (.inl ha)])
          rw [HR2.out]
          clear HR3 HF ha
          generalize l1.length = n1 at *
          generalize l2.length = n2 at *
          go_enter Try.func66, Try.ntmps66
          go_wp2
          go_ret
          exact ⟨rfl, (by repeat (first | exact Below.refl _ _ | assumption | refine b_drewN ?_ _ | refine Below.drew ?_ | refine b_ext' ?_ _ | refine b_alloc' ?_ _))⟩
        · have hai : ¬ (l1.length : Int) < 257 := by omega
          by_cases hb : 286 < l1.length
          · have hbi : (l1.length : Int) > 286 := by omega
            have HR2 : Hid (r = 1) := Lib.hid (by rw [HR3.out, if_pos (.inr (.inl hb))])
            rw [HR2.out]
            clear HR3 HF ha hb
            generalize l1.length = n1 at *
            generalize l2.length = n2 at *
            go_enter Try.func66, Try.ntmps66
            go_wp2
            go_ret
            exact ⟨rfl, (by repeat (first | exact Below.refl _ _ | assumption | refine b_drewN ?_ _ | refine Below.drew ?_ | refine b_ext' ?_ _ | refine b_alloc' ?_ _))⟩
          · have hbi : ¬ (l1.length : Int) > 286 := by omega
            by_cases hc : l2.length < 1
            · have hci : (l2.length : Int) < 1 := by omega
              have HR2 : Hid (r = 1) := Lib.hid (by rw [HR3.out, if_pos (.inr (.inr (.inl hc)))])
              rw [HR2.out]
              clear HR3 HF ha hb hc
              generalize l1.length = n1 at *
              generalize l2.length = n2 at *
              go_enter Try.func66, Try.ntmps66
              go_wp2
              go_ret
              exact ⟨rfl, (by repeat (first | exact Below.refl _ _ | assumption | refine b_drewN ?_ _ | refine Below.drew ?_ | refine b_ext' ?_ _ | refine b_alloc' ?_ _))⟩
            · have hci : ¬ (l2.length : Int) < 1 := by omega
              by_cases hd : 30 < l2.length
              · have hdi : (l2.length : Int) > 30 := by omega
                have HR2 : Hid (r = 1) := Lib.hid (by rw [HR3.out, if_pos (.inr (.inr (.inr hd)))])
                rw [HR2.out]
                clear HR3 HF ha hb hc hd
                generalize l1.length = n1 at *
                generalize l2.length = n2 at *
                go_enter Try.func66, Try.ntmps66
                go_wp2
                go_ret
                exact ⟨rfl, (by repeat (first | exact Below.refl _ _ | assumption | refine b_drewN ?_ _ | refine Below.drew ?_ | refine b_ext' ?_ _ | refine b_alloc' ?_ _))⟩
              · have hdi : ¬ (l2.length : Int) > 30 := by omega
                have HR2 : Hid (r = fits2I l1 l2) := Lib.hid (by rw [HR3.out, if_neg (by omega)])
                rw [HR2.out]
                have HFC := Lib.hid (HF.out (by omega))
                clear HR3 HF ha hb hc hd
                generalize fits2I l1 l2 = fe at *
                generalize l1.length = n1 at *
                generalize l2.length = n2 at *
                go_enter Try.func66, Try.ntmps66
                go_wp2_with (go_at_call 92; (with_reducible refine (HFC.out _ (by repeat (first | exact Below.refl _ _ | assumption | refine b_drewN ?_ _ | refine Below.drew ?_ | refine b_ext' ?_ _ | refine b_alloc' ?_ _))).mono ?_); rintro e w2 ⟨rfl, hb2⟩; have HB2 := Lib.hid hb2; clear hb2)
                go_ret
                exact ⟨rfl, below_up (below_alloc _ _) HB2.out⟩
      · have hk2' : (k == 2) = false := by simpa using hk2
        have HR2 : Hid (r = 1) := Lib.hid (by rw [HR.out, if_neg hk0, if_neg hk1, if_neg hk2])
        rw [HR2.out]
        clear HR HF hk0 hk1 hk2
        go_enter Try.func66, Try.ntmps66
        go_wp2
        go_ret
        exact ⟨rfl, (by repeat (first | exact Below.refl _ _ | assumption | refine b_drewN ?_ _ | refine Below.drew ?_ | refine b_ext' ?_ _ | refine b_alloc' ?_ _))⟩
end Go.Cm

/- The walk of the law's known calls. Conditions: none. -/
namespace Go.Cm
open Go.RowKit Go.Proofs

theorem k1 : headF (numS ⟨#[3]⟩) (8 * (⟨#[3]⟩ : ByteArray).size) 0 = (⟨true, 1, 0, fixL, fixD⟩, 0, 3) := by
  rw [show numS ⟨#[3]⟩ = 3 by decide, show 8 * (⟨#[3]⟩ : ByteArray).size = 8 by decide, head_good (a := 1) (k := 1) (p1 := 1) (p2 := 3) (by decide) (by decide)]
  rfl
theorem k2 : headF (numS ⟨#[1, 5, 0, 250, 255]⟩) (8 * (⟨#[1, 5, 0, 250, 255]⟩ : ByteArray).size) 0 = (⟨true, 0, 5, [], []⟩, 0, 40) := by
  rw [head_good (a := 1) (k := 0) (p1 := 1) (p2 := 3) (by decide) (by decide)]
  unfold kindN
  rw [if_neg (by decide), if_pos rfl, show storedN (numS ⟨#[1, 5, 0, 250, 255]⟩) (8 * (⟨#[1, 5, 0, 250, 255]⟩ : ByteArray).size) (0, 3) = (5, 0, 40) by decide]
  rfl
theorem k3 : headF (numS ⟨#[1, 5, 0, 250, 254]⟩) (8 * (⟨#[1, 5, 0, 250, 254]⟩ : ByteArray).size) 0 = (HeadN.zero, 6, 0) := by
  rw [head_good (a := 1) (k := 0) (p1 := 1) (p2 := 3) (by decide) (by decide)]
  unfold kindN
  rw [if_neg (by decide), if_pos rfl, show storedN (numS ⟨#[1, 5, 0, 250, 254]⟩) (8 * (⟨#[1, 5, 0, 250, 254]⟩ : ByteArray).size) (0, 3) = (5, 6, 40) by decide]
  rfl
theorem k5 : headF (numS ⟨#[]⟩) (8 * (⟨#[]⟩ : ByteArray).size) 0 = (HeadN.zero, 2, 0) := by
  exact head_bad (a := 0) (k := 0) (e1 := 2) (e2 := 2) (p1 := 0) (p2 := 0) (by decide) (by decide) (.inl (by decide))
end Go.Cm

/- The walk of the law's known calls, all of them. Conditions: none. -/
namespace Go.Cm
open Go.RowKit Go.Proofs

theorem ownH (w : World) (f : Bool) (k z : Int) (o1 o2 : Option Addr) (n1 n2 c1 c2 T : Nat) : Own (w.alloc (.cells #[.bool f, .int .i64 k, .int .i64 z, .slice o1 n1 c1, .slice o2 n2 c2] T)) w.heap.size T (.slice (some ⟨w.heap.size, 0, none⟩) 5 5) [.bool f, .int .i64 k, .int .i64 z, .slice o1 n1 c1, .slice o2 n2 c2] := by
  have h := own_lit w w.heap.size #[.bool f, .int .i64 k, .int .i64 z, .slice o1 n1 c1, .slice o2 n2 c2] T (by simp) (Nat.le_refl _)
  simpa using h
end Go.Cm

/- The walk of the writing of a dynamic block's lengths. Conditions: the writer is there, the lengths are right. -/
namespace Go.Cm
open Go.RowKit Go.Proofs

theorem alloc_below {B : Nat} {w : World} (hB : B ≤ w.heap.size) (o : Obj) : Below B w (w.alloc o) := (Below.refl B w).alloc hB o
set_option maxRecDepth 100000 in
set_option maxHeartbeats 4000000 in
theorem lengthsP {w : World} {B g N L : Nat} {vb0 : Value} (h : WrtV w B g N L vb0) (f : Bool) (k z : Int) (u1 u2 : Value) (l1 l2 : List Nat) (hu1 : ∀ W, Below B w W → IntsAt W u1 (nls l1)) (hu2 : ∀ W, Below B w W → IntsAt W u2 (nls l2))
    (hn1 : 257 ≤ l1.length) (hn1' : l1.length ≤ 286) (hn2 : 1 ≤ l2.length) (hn2' : l2.length ≤ 30) (h1 : ∀ x ∈ l1, x ≤ 15) (h2 : ∀ x ∈ l2, x ≤ 15) (hL : L ≤ 200000000) :
    Calls Try.prog 68 #[.pointer (some ⟨g, 0, none⟩), .agg #[.bool f, .int .i64 k, .int .i64 z, u1, u2]] w fun e w' => e = .returned (.tuple #[]) ∧ WSt w B g vb0 (putS (dynS l1 l2) (N, L)) w' := by
  have hBw : B ≤ w.heap.size := by have := h.ge; have := h.box.lt; omega
  have hgw := h.box.lt
  have hvb : ∀ q, vb0.ownBlock = some q → q < w.heap.size := fun q hq => (h.own.lt q hq).2
  have HU1 := Lib.hid hu1
  have HU2 := Lib.hid hu2
  obtain ⟨o1, c1, b1, f1, hv1, -⟩ := (hu1 w (Below.refl _ _)).open
  obtain ⟨o2, c2, b2, f2, hv2, -⟩ := (hu2 w (Below.refl _ _)).open
  rw [nls_length] at hv1 hv2
  subst hv1 hv2
  have H15a := Lib.hid (fun j (hj : j < l1.length) => h1 _ (getD_mem l1 j 0 hj))
  have H15b := Lib.hid (fun j (hj : j < l2.length) => h2 _ (getD_mem l2 j 0 hj))
  have HA := Lib.hid (ownH w f k z o1 o2 l1.length l2.length c1 c2 87)
  have HS1 := Lib.hid (WSt.start (h.up (below_alloc w (.cells #[.bool f, .int .i64 k, .int .i64 z, .slice o1 l1.length c1, .slice o2 l2.length c2] 87))))
  have HB1 : Hid (Below B w (w.alloc (.cells #[.bool f, .int .i64 k, .int .i64 z, .slice o1 l1.length c1, .slice o2 l2.length c2] 87))) := Lib.hid (alloc_below hBw _)
  have hl1 : w.heap.size < (w.alloc (.cells #[.bool f, .int .i64 k, .int .i64 z, .slice o1 l1.length c1, .slice o2 l2.length c2] 87)).heap.size := by simp
  have HST : Hid (putS (dynS l1 l2) (N, L) = putS (codS l2) (putS (codS l1) (putS ordS (putS (lenS l1.length l2.length) (N, L))))) := Lib.hid (by unfold dynS; rw [putS_append, putS_append, putS_append])
  obtain ⟨st3, hst3⟩ : ∃ st, st = putS (lenS l1.length l2.length) (N, L) := ⟨_, rfl⟩
  have HS3 := Lib.hid hst3
  rw [← hst3] at HST
  have HL3 : Hid (st3.2 = L + 14) := Lib.hid (by rw [hst3, putS_len]; rfl)
  have HE := Lib.hid HST.out
  obtain ⟨D, hD⟩ : ∃ D, D = putS (dynS l1 l2) (N, L) := ⟨_, rfl⟩
  rw [← hD]
  rw [← hD] at HE
  clear h hu1 hu2 h1 h2 HST hst3 hD
  have HO : Hid (∃ O : Array Value, (∀ j, j < 19 → O[j]? = some (.int .i64 (ordN.getD j 0 : Nat))) ∧ ∀ W : World, Calls Try.prog 93 #[] W fun e w' => e = .returned (.agg O) ∧ Below W.heap.size W w') := Lib.hid ⟨_, fun j hj => ordA j hj, fun W => ordP W⟩
  obtain ⟨O, hOA, hOP⟩ := HO.out
  have HOA := Lib.hid hOA
  have HOP := Lib.hid hOP
  have hs1 : (l1.length : Int) - 257 = ((l1.length - 257 : Nat) : Int) := by omega
  have hs2 : (l2.length : Int) - 1 = ((l2.length - 1 : Nat) : Int) := by omega
  clear HO hOA hOP
  have HA3 : Hid (∀ st W, WSt (w.alloc (.cells #[.bool f, .int .i64 k, .int .i64 z, .slice o1 l1.length c1, .slice o2 l2.length c2] 87)) B g vb0 st W → Own W w.heap.size 87 (.slice (some ⟨w.heap.size, 0, none⟩) 5 5) [.bool f, .int .i64 k, .int .i64 z, .slice o1 l1.length c1, .slice o2 l2.length c2]) := Lib.hid (fun st W h => h.own HA.out (fun e => by have e2 : some w.heap.size = some g := e; injection e2 with e2; omega) (fun q hq e => by have e2 : some w.heap.size = some q := hq; injection e2 with e2; have := hvb q e; omega))
  have hw1 := HA.out.blk.2
  have HC3 : Hid (∀ st W, WSt (w.alloc (.cells #[.bool f, .int .i64 k, .int .i64 z, .slice o1 l1.length c1, .slice o2 l2.length c2] 87)) B g vb0 st W → w.heap.size < W.heap.size) := Lib.hid (fun st W h => Nat.lt_of_lt_of_le hw1 h.size)
  have hp5 : l1.length - 257 < 2 ^ 5 := by omega
  have hp5' : l2.length - 1 < 2 ^ 5 := by omega
  clear hw1 HA
  generalize hn : l1.length = n1 at *
  have HN1 := Lib.hid hn
  clear hn
  generalize hn : l2.length = n2 at *
  have HN2 := Lib.hid hn
  clear hn
  generalize hm1 : n1 - 257 = m1 at *
  generalize hm2 : n2 - 1 = m2 at *
  have HM1 := Lib.hid hm1
  have HM2 := Lib.hid hm2
  clear hm1 hm2
  have HP1 := Lib.hid (putW HS1.out m1 5 hp5 (by omega) (by simp only; omega))
  rw [show ((5 : Nat) : Int) = 5 from rfl] at HP1
  have e10 := HA3.out _ _ HS1.out
  have x13 := e10.cell (i := 3) (by simp)
  have y1 := e10.blk.2
  clear e10
  go_enter Try.func68, Try.ntmps68
  go_upto_region 4 with (go_at_call 65; first | ((with_reducible refine HP1.out.mono ?_); rintro e w2 ⟨rfl, hq⟩; (have HS2 := Lib.hid hq; have HP2 := Lib.hid (putW hq m2 5 hp5' (by omega) (by simp only; omega)); rw [show ((5 : Nat) : Int) = 5 from rfl] at HP2; have x24 := (HA3.out _ _ hq).cell (i := 4) (by simp); have y2 := HC3.out _ _ hq; clear hq HP1 x13 y1)) | ((with_reducible refine HP2.out.mono ?_); rintro e w3 ⟨rfl, hq⟩; (have HP3 := Lib.hid (putW hq 15 4 (by decide) (by omega) (by simp only; omega)); rw [show ((4 : Nat) : Int) = 4 from rfl, show ((15 : Nat) : Int) = 15 from rfl] at HP3; clear hq HP2 x24 y2 HS2)) | ((with_reducible refine HP3.out.mono ?_); rintro e w4 ⟨rfl, hq⟩; (have HS4 : Hid (WSt (w.alloc (.cells #[.bool f, .int .i64 k, .int .i64 z, .slice o1 n1 c1, .slice o2 n2 c2] 87)) B g vb0 st3 w4) := Lib.hid (by rw [HS3.out]; unfold lenS; rw [HM1.out, HM2.out]; exact hq); clear hq HP3)))
  clear HS1
  go_wp2_with (go_at_call 93; (with_reducible refine (HOP.out _).mono ?_); rintro e w5 ⟨rfl, hb5⟩; (have HS5 := Lib.hid (HS4.out.up hb5 (Nat.le_trans (Nat.le_trans hBw (Nat.le_of_lt hl1)) HS4.out.size)); clear hb5 HOP))
  clear HS4 HS3
  go_loopg [26] 20 (fun gk i wr => ∃ j, j ≤ 19 ∧ i = .int .i64 (j : Nat) ∧ WSt (w.alloc (.cells #[.bool f, .int .i64 k, .int .i64 z, .slice o1 n1 c1, .slice o2 n2 c2] 87)) B g vb0 (putS (ordS.take j) st3) wr ∧ gk = 20 - j)
  case atStart => exact ⟨0, Nat.zero_le _, rfl, HS5.out, rfl⟩
  case round =>
    clear HS5
    obtain ⟨j, hj, rfl, hs, hgk⟩ := hrel
    have HSW := Lib.hid hs
    clear hs
    by_cases hlt : j < 19
    · have hji : (j : Int) < 19 := by omega
      have hcell := HOA.out j hlt
      have hixO := run_index_arr (P := Try.prog) 138 3 19 Try.underlying138 Try.underlying3 (by kernel_rfl) O j hlt _ hcell
      have hy := ordN_lt j
      have HTK : Hid (putS (ordS.take (j + 1)) st3 = ((putS (ordS.take j) st3).1 + (if ordN.getD j 0 < 16 then 4 else 0) * 2 ^ (putS (ordS.take j) st3).2, (putS (ordS.take j) st3).2 + 3)) := Lib.hid (by rw [ordS_take j hlt, putS_snoc])
      have hlen : (putS (ordS.take j) st3).2 ≤ 300000000 := by
        have := ordS_len j st3
        have := HL3.out
        omega
      generalize ordN.getD j 0 = y at *
      by_cases hy16 : y < 16
      · have hyi : ¬ (y : Int) ≥ 16 := by omega
        have HPX := Lib.hid (putW HSW.out 4 3 (by decide) (by omega) (by omega))
        rw [show ((4 : Nat) : Int) = 4 from rfl, show ((3 : Nat) : Int) = 3 from rfl] at HPX
        have HTK2 : Hid (putS (ordS.take (j + 1)) st3 = ((putS (ordS.take j) st3).1 + 4 * 2 ^ (putS (ordS.take j) st3).2, (putS (ordS.take j) st3).2 + 3)) := Lib.hid (by rw [HTK.out, if_pos hy16])
        clear hy16 HTK
        go_wp2_with (go_at_call 65; (with_reducible refine HPX.out.mono ?_); rintro e w6 ⟨rfl, hq⟩; have HQ := Lib.hid hq; clear hq)
        go_roundg (20 - (j + 1))
        case measure => omega
        case rel => exact ⟨j + 1, by omega, by go_num, by rw [HTK2.out]; exact HQ.out, rfl⟩
      · have hyi : (y : Int) ≥ 16 := by omega
        have HPX := Lib.hid (putW HSW.out 0 3 (by decide) (by omega) (by omega))
        rw [show ((0 : Nat) : Int) = 0 from rfl, show ((3 : Nat) : Int) = 3 from rfl] at HPX
        have HTK2 : Hid (putS (ordS.take (j + 1)) st3 = ((putS (ordS.take j) st3).1 + 0 * 2 ^ (putS (ordS.take j) st3).2, (putS (ordS.take j) st3).2 + 3)) := Lib.hid (by rw [HTK.out, if_neg hy16])
        clear hy16 HTK
        go_wp2_with (go_at_call 65; (with_reducible refine HPX.out.mono ?_); rintro e w6 ⟨rfl, hq⟩; have HQ := Lib.hid hq; clear hq)
        go_roundg (20 - (j + 1))
        case measure => omega
        case rel => exact ⟨j + 1, by omega, by go_num, by rw [HTK2.out]; exact HQ.out, rfl⟩
    · obtain rfl : j = 19 := by omega
      have HT19 : Hid (putS (ordS.take 19) st3 = putS ordS st3) := Lib.hid (by rw [List.take_of_length_le (by decide)])
      have hl4 : (putS ordS st3).2 ≤ 200000071 := by
        have h1 := ordS_len 19 st3
        rw [HT19.out] at h1
        have := HL3.out
        omega
      rw [HT19.out] at HSW
      obtain ⟨st4, hst4⟩ : ∃ st, st = putS ordS st3 := ⟨_, rfl⟩
      rw [← hst4] at HE HSW hl4
      have e10 := HA3.out _ _ HSW.out
      have x3 := e10.cell (i := 3) (by simp)
      have x4 := e10.cell (i := 4) (by simp)
      have y3 := e10.blk.2
      obtain ⟨vb4, hv4, hb4, hf4⟩ := HSW.out
      have hBr : B ≤ wr.heap.size := Nat.le_trans hBw (Nat.le_trans (Nat.le_of_lt hl1) hb4.size)
      have HFR : Hid (Fr g vb0 vb4 w (wr.alloc (.cells #[.slice o1 n1 c1, .slice o2 n2 c2] 39))) := Lib.hid ((((Fr.refl g vb0 w).below (below_alloc w (.cells #[.bool f, .int .i64 k, .int .i64 z, .slice o1 n1 c1, .slice o2 n2 c2] 87))).trans hf4).below (below_alloc wr _))
      have HBW : Hid (Below B w (wr.alloc (.cells #[.slice o1 n1 c1, .slice o2 n2 c2] 39))) := Lib.hid ((HB1.out.trans hb4).alloc hBr _)
      have HS5 := Lib.hid (WSt.start (hv4.up (below_alloc wr (.cells #[.slice o1 n1 c1, .slice o2 n2 c2] 39))))
      have hro := own_lit wr wr.heap.size #[.slice o1 n1 c1, .slice o2 n2 c2] 39 (by simp) (Nat.le_refl _)
      have HRO : Hid (Own (wr.alloc (.cells #[.slice o1 n1 c1, .slice o2 n2 c2] 39)) wr.heap.size 39 (.slice (some ⟨wr.heap.size, 0, none⟩) 2 2) [.slice o1 n1 c1, .slice o2 n2 c2]) := Lib.hid hro
      have hgr : g < wr.heap.size := hv4.box.lt
      have hvb4 : ∀ q, vb4.ownBlock = some q → q < wr.heap.size := fun q hq => (hv4.own.lt q hq).2
      have hrd : Hd (wr.alloc (.cells #[.slice o1 n1 c1, .slice o2 n2 c2] 39)) (some ⟨wr.heap.size, 0, none⟩) 2 2 wr.heap.size 0 := ⟨fun _ => rfl, Nat.le_refl _, by decide, by decide, fun _ => by simp⟩
      have HRIX := Lib.hid (fun (W : World) (m : Nat) (hm : m < 2) => index_any (P := Try.prog) 140 39 Try.underlying140 (by kernel_rfl) hrd W .i64 (m : Int) (by omega) (by omega))
      have HI : Hid (∃ stI : Nat → Nat × Nat, stI 0 = st4 ∧ stI 1 = putS (codS l1) st4 ∧ stI 2 = putS (codS l2) (putS (codS l1) st4)) := Lib.hid ⟨fun m => match m with | 0 => st4 | 1 => putS (codS l1) st4 | _ => putS (codS l2) (putS (codS l1) st4), rfl, rfl, rfl⟩
      obtain ⟨stI, hi0, hi1, hi2⟩ := HI.out
      have HI2 := Lib.hid hi2
      have HKEY : Hid (∀ m, m < 2 → ∃ o n c l, ([Value.slice o1 n1 c1, Value.slice o2 n2 c2].getD m undef) = .slice o n c ∧ (∀ W, Below B w W → IntsAt W (.slice o n c) (nls l)) ∧ n = l.length ∧ (∀ j, j < l.length → l.getD j 0 ≤ 15) ∧ putS (codS l) (stI m) = stI (m + 1) ∧ n ≤ 286 ∧ (stI m).2 ≤ 400000000) := Lib.hid (fun m hm => by
        match m, hm with
        | 0, _ => exact ⟨o1, n1, c1, l1, rfl, HU1.out, HN1.out.symm, fun j hj => H15a.out j (by have := HN1.out; omega), by rw [hi0, hi1], hn1', by rw [hi0]; omega⟩
        | 1, _ => exact ⟨o2, n2, c2, l2, rfl, HU2.out, HN2.out.symm, fun j hj => H15b.out j (by have := HN2.out; omega), by rw [hi1, hi2], by omega, by rw [hi1, codS_len, HN1.out]; omega⟩
        | m + 2, h => omega)
      have HI0 := Lib.hid hi0
      clear hst4 e10 HSW hv4 hb4 hf4 hro hrd hi0 hi1 hi2 HI HT19 HL3 HA3 HC3 HOA HU1 HU2 H15a H15b
      go_wp2
      generalize wr.alloc (.cells #[.slice o1 n1 c1, .slice o2 n2 c2] 39) = w5 at *
      generalize wr.heap.size = rb at *
      go_loopg [41] 3 (fun gk i W => ∃ m, m ≤ 2 ∧ i = .int .i64 (m : Nat) ∧ WSt w5 B g vb4 (stI m) W ∧ gk = 3 - m)
      case atStart => exact ⟨0, Nat.zero_le _, rfl, by rw [HI0.out]; exact HS5.out, rfl⟩
      case round =>
        clear HS5 HI0
        obtain ⟨m, hm, rfl, hs, hgk⟩ := hrel
        have HSW := Lib.hid hs
        clear hs
        by_cases hlt : m < 2
        · have hmi : (m : Int) < 2 := by omega
          obtain ⟨o, n, c, l, hcell0, hul, hnl, h15, hst, hn286, hle⟩ := HKEY.out m hlt
          have hro2 := HSW.out.own HRO.out (fun e => by have e2 : some rb = some g := e; injection e2 with e2; omega) (fun q hq e => by have e2 : some rb = some q := hq; injection e2 with e2; have := hvb4 q e; omega)
          have hcell := hro2.cell (i := m) (by simpa using hlt)
          rw [hcell0] at hcell
          have hrbw := hro2.blk.2
          have hix := fun W => HRIX.out W m hlt
          simp only [Nat.zero_add, Int.toNat_natCast] at hix
          have HUL := Lib.hid hul
          have HNL := Lib.hid hnl
          have H15 := Lib.hid h15
          have HSTM := Lib.hid hst
          clear hcell0 hul hnl h15 hst hro2
          go_wp2
          go_loopg [47] (n + 1) (fun gq i W => ∃ q, q ≤ n ∧ i = .int .i64 (q : Nat) ∧ WSt w5 B g vb4 (putS (codS (l.take q)) (stI m)) W ∧ gq = n + 1 - q)
          case atStart => exact ⟨0, Nat.zero_le _, rfl, by simpa [codS, putS] using HSW.out, rfl⟩
          case round =>
            clear HSW hcell hrbw hix
            obtain ⟨q, hq, rfl, hs2, hgq⟩ := hrel
            have HSQ := Lib.hid hs2
            clear hs2
            by_cases hlq : q < n
            · have hqi : (q : Int) < (n : Int) := by omega
              have hql : q < l.length := by have := HNL.out; omega
              obtain ⟨oa', cap', b', off', hv', hd', hc'⟩ := (HUL.out _ (HBW.out.trans HSQ.out.bel)).open
              rw [nls_length, ← HNL.out] at hv' hd'
              rw [nls_length] at hc'
              injection hv' with q1 q2 q3
              subst q1 q3
              have hix2 := index_any (P := Try.prog) 39 3 Try.underlying39 (by kernel_rfl) hd'
              have hbb := hd'.hblk (by omega)
              have hx := hc' q hql
              rw [nls_getD] at hx
              have hx15 := H15.out q hql
              have HCK : Hid (putS (codS (l.take (q + 1))) (stI m) = ((putS (codS (l.take q)) (stI m)).1 + turnN (l.getD q 0) 4 * 2 ^ (putS (codS (l.take q)) (stI m)).2, (putS (codS (l.take q)) (stI m)).2 + 4)) := Lib.hid (by rw [codS_take l q hql, putS_snoc])
              have hlen : (putS (codS (l.take q)) (stI m)).2 ≤ 500000000 := by rw [codS_len, List.length_take]; omega
              have hx16 : l.getD q 0 < 2 ^ 4 := by omega
              have HPC := Lib.hid (codeW HSQ.out (l.getD q 0) 4 hx16 (by omega) (by omega))
              rw [show ((4 : Nat) : Int) = 4 from rfl] at HPC
              have hm' := hd'.len
              clear hc' hd' H15 hx16
              generalize l.getD q 0 = y at *
              go_wp2_with (go_at_call 94; (with_reducible refine HPC.out.mono ?_); rintro e w6 ⟨rfl, hqq⟩; have HQ := Lib.hid hqq; clear hqq)
              go_roundg (n + 1 - (q + 1))
              case measure => omega
              case rel => exact ⟨q + 1, by omega, by go_num, by rw [HCK.out]; exact HQ.out, rfl⟩
            · obtain rfl : q = n := by omega
              have HF : Hid (putS (codS (l.take q)) (stI m) = stI (m + 1)) := Lib.hid (by rw [List.take_of_length_le (by have := HNL.out; omega)]; exact HSTM.out)
              rw [HF.out] at HSQ
              clear hlq
              go_wp2
              go_roundg (3 - (m + 1))
              case measure => omega
              case rel => exact ⟨m + 1, by omega, by go_num, HSQ.out, rfl⟩
        · obtain rfl : m = 2 := by omega
          clear hlt
          go_wp2
          go_end0
          refine ⟨rfl, ?_⟩
          rw [HE.out, ← HI2.out]
          obtain ⟨vb, h1, h2, h3⟩ := HSW.out
          exact ⟨vb, h1, HBW.out.trans h2, HFR.out.trans h3⟩
end Go.Cm

/- The walk of the program's Write of a head. Conditions: the writer is there, the lists read as lists. -/
namespace Go.Cm
open Go.RowKit Go.Proofs

theorem fitsE_zero {l : List Int} {o : Bool} (h : fitsE l o = 0) : errI l = 0 := by
  apply Classical.byContradiction; intro hn
  rw [fitsE_bad o hn] at h; exact hn h
theorem fits2I_zero {l1 l2 : List Int} (h : fits2I l1 l2 = 0) : errI l1 = 0 ∧ errI l2 = 0 := by
  unfold fits2I at h
  split at h
  · cases h
  · split at h
    · rename_i h1; exact absurd h h1
    · rename_i h1; exact ⟨fitsE_zero (by simpa using h1), fitsE_zero h⟩
theorem errI_nat {l : List Int} (h : errI l = 0) : l = nls (l.map Int.toNat) ∧ ∀ x ∈ l.map Int.toNat, x ≤ 15 := by
  obtain ⟨L, rfl, -, h15, -⟩ := errI_list h
  rw [nls_toNat]; exact ⟨rfl, h15⟩
theorem mayI_dyn {z : Int} {l1 l2 : List Int} (h : mayI 2 z l1 l2 = 0) : 257 ≤ l1.length ∧ l1.length ≤ 286 ∧ 1 ≤ l2.length ∧ l2.length ≤ 30 ∧ l1 = nls (l1.map Int.toNat) ∧ l2 = nls (l2.map Int.toNat) ∧ (∀ x ∈ l1.map Int.toNat, x ≤ 15) ∧ (∀ x ∈ l2.map Int.toNat, x ≤ 15) ∧ fits2I l1 l2 = 0 := by
  unfold mayI at h
  rw [if_neg (by decide), if_neg (by decide), if_pos rfl] at h
  by_cases hc : l1.length < 257 ∨ 286 < l1.length ∨ l2.length < 1 ∨ 30 < l2.length
  · rw [if_pos hc] at h; cases h
  · rw [if_neg hc] at h
    obtain ⟨e1, e2⟩ := fits2I_zero h
    obtain ⟨a1, a2⟩ := errI_nat e1
    obtain ⟨b1, b2⟩ := errI_nat e2
    exact ⟨by omega, by omega, by omega, by omega, a1, b1, a2, b2, h⟩
/-- what stands in a writer behind a head that may be written -/
def wrI (f : Bool) (k z : Int) (l1 l2 : List Int) (st : Nat × Nat) : Nat × Nat :=
  if k = 0 then putS [(z.toNat, 16), (65535 - z.toNat, 16)] (alignW (putS [(finN f, 1), (0, 2)] st))
  else if k = 1 then putS [(finN f, 1), (1, 2)] st
  else putS (dynS (l1.map Int.toNat) (l2.map Int.toNat)) (putS [(finN f, 1), (2, 2)] st)
theorem WSt.from1 {w w1 W : World} {B g : Nat} {vb0 : Value} {st : Nat × Nat} (h : WSt w1 B g vb0 st W) (hb : Below w.heap.size w w1) (hB : B ≤ w.heap.size) : WSt w B g vb0 st W := by
  obtain ⟨vb, h1, h2, h3⟩ := h
  exact ⟨vb, h1, (hb.mono hB).trans h2, ((Fr.refl g vb0 w).below hb).trans h3⟩
set_option maxRecDepth 100000 in
set_option maxHeartbeats 4000000 in
theorem writeHP {w : World} {B g N L : Nat} {vb0 : Value} (h : WrtV w B g N L vb0) (f : Bool) (k z : Int) (u1 u2 : Value) (l1 l2 : List Int) (hu1 : ∀ W, Below B w W → IntsAt W u1 l1) (hu2 : ∀ W, Below B w W → IntsAt W u2 l2) (hL : L ≤ 100000000) :
    Calls Try.prog 43 #[.pointer (some ⟨g, 0, none⟩), .agg #[.bool f, .int .i64 k, .int .i64 z, u1, u2]] w fun e w' => e = .returned (.int .i64 (mayI k z l1 l2 : Nat)) ∧ WSt w B g vb0 (if mayI k z l1 l2 = 0 then wrI f k z l1 l2 (N, L) else (N, L)) w' := by
  have hBw : B ≤ w.heap.size := by have := h.ge; have := h.box.lt; omega
  have hgw := h.box.lt
  have hvb : ∀ q, vb0.ownBlock = some q → q < w.heap.size := fun q hq => (h.own.lt q hq).2
  have HU1 := Lib.hid hu1
  have HU2 := Lib.hid hu2
  obtain ⟨o1, c1, b1, f1, hv1, -⟩ := (hu1 w (Below.refl _ _)).open
  obtain ⟨o2, c2, b2, f2, hv2, -⟩ := (hu2 w (Below.refl _ _)).open
  subst hv1 hv2
  obtain ⟨n1, hn1⟩ : ∃ n, n = l1.length := ⟨_, rfl⟩
  obtain ⟨n2, hn2⟩ : ∃ n, n = l2.length := ⟨_, rfl⟩
  rw [← hn1] at HU1 ⊢
  rw [← hn2] at HU2 ⊢
  clear hu1 hu2 hn1 hn2
  have HMAY := Lib.hid (fun (W : World) (hb : Below B w W) => mayP f k z _ _ l1 l2 W (HU1.out W hb) (HU2.out W hb))
  obtain ⟨w1, hw1⟩ : ∃ w1, w1 = w.alloc (.cells #[.bool f, .int .i64 k, .int .i64 z, .slice o1 n1 c1, .slice o2 n2 c2] 87) := ⟨_, rfl⟩
  have hA := ownH w f k z o1 o2 n1 n2 c1 c2 87
  rw [← hw1] at hA
  have hb1 : Below w.heap.size w w1 := by rw [hw1]; exact below_alloc _ _
  have HB1 := Lib.hid hb1
  have HS1 := Lib.hid (WSt.start (h.up hb1))
  have HA := Lib.hid hA
  have HW1 := Lib.hid hw1
  have HA3 : Hid (∀ st W, WSt w1 B g vb0 st W → Own W w.heap.size 87 (.slice (some ⟨w.heap.size, 0, none⟩) 5 5) [.bool f, .int .i64 k, .int .i64 z, .slice o1 n1 c1, .slice o2 n2 c2]) := Lib.hid (fun st W h => h.own HA.out (fun e => by have e2 : some w.heap.size = some g := e; injection e2 with e2; omega) (fun q hq e => by have e2 : some w.heap.size = some q := hq; injection e2 with e2; have := hvb q e; omega))
  have HBL : Hid (∀ st W, WSt w1 B g vb0 st W → Below B w W) := Lib.hid (fun st W h => (HB1.out.mono hBw).trans h.bel)
  have HP0 : Hid (Calls Try.prog 65 #[.pointer (some ⟨g, 0, none⟩), .int .i64 0, .int .i64 0] w1 fun e w' => e = .returned (.int .i64 0) ∧ WSt w1 B g vb0 (N, L) w') := Lib.hid ((putW HS1.out 0 0 (by decide) (by omega) (by simp only; omega)).mono fun e w' ⟨he, hs⟩ => ⟨he, by simpa using hs⟩)
  clear h hw1 hA hb1 HA
  obtain ⟨r, hr⟩ : ∃ r, r = mayI k z l1 l2 := ⟨_, rfl⟩
  rw [← hr]
  rw [← hr] at HMAY
  obtain ⟨D, hD⟩ : ∃ D, D = if r = 0 then wrI f k z l1 l2 (N, L) else (N, L) := ⟨_, rfl⟩
  rw [← hD]
  have HD := Lib.hid hD
  clear hD
  have HR := Lib.hid hr
  clear hr
  go_enter Try.func43, Try.ntmps43
  go_upto_region 5 with (first | (go_at_call 65; rw [← HW1.out]; (with_reducible refine HP0.out.mono ?_); rintro e w2 ⟨rfl, hq⟩; (have HS2 := Lib.hid hq; obtain ⟨A, hA, hAs, hAl⟩ := (HA3.out _ _ hq).whole; have hAe : A = #[.bool f, .int .i64 k, .int .i64 z, .slice o1 n1 c1, .slice o2 n2 c2] := (by rw [← Array.toArray_toList (xs := A), hAl]); subst hAe; clear hq hAs hAl HP0)) | (refine load_box rfl 87 5 _ rfl w.heap.size rfl #[.bool f, .int .i64 k, .int .i64 z, .slice o1 n1 c1, .slice o2 n2 c2] rfl hA _ Try.underlying87 rfl (by kernel_rfl) ?_) | (go_at_call 66; (with_reducible refine (HMAY.out _ (HBL.out _ _ HS2.out)).mono ?_); rintro e w3 ⟨rfl, hb3⟩; (have HS3 := Lib.hid (HS2.out.up hb3 (Nat.le_trans hBw (HBL.out _ _ HS2.out).size)); clear hb3 hA HS2 HMAY)))
  by_cases hr0 : r = 0
  · subst hr0
    cases f with
    | false =>
      have HP1 : Hid (Calls Try.prog 65 #[.pointer (some ⟨g, 0, none⟩), .int .i64 0, .int .i64 1] w3 fun e w' => e = .returned (.int .i64 0) ∧ WSt w1 B g vb0 (N + 0 * 2 ^ L, L + 1) w') := Lib.hid (putW HS3.out 0 1 (by decide) (by omega) (by simp only; omega))
      have x0 := (HA3.out _ _ HS3.out).cell (i := 0) (by simp)
      have y0 := (HA3.out _ _ HS3.out).blk.2
      by_cases hk0 : k = 0
      · subst hk0
        have hz : 0 ≤ z ∧ z ≤ 65535 := by
          have h := HR.out
          unfold mayI at h
          rw [if_pos rfl] at h
          apply Classical.byContradiction; intro hn
          rw [if_pos (by omega)] at h
          cases h
        obtain ⟨zn, rfl⟩ : ∃ zn : Nat, z = (zn : Int) := ⟨z.toNat, by omega⟩
        have hzn : zn ≤ 65535 := by omega
        have HPK : Hid (∀ (W : World) (st : Nat × Nat), WSt w1 B g vb0 st W → st.2 + 2 ≤ 300000000 → Calls Try.prog 65 #[.pointer (some ⟨g, 0, none⟩), .int .i64 0, .int .i64 2] W fun e w' => e = .returned (.int .i64 0) ∧ WSt w1 B g vb0 (st.1 + 0 * 2 ^ st.2, st.2 + 2) w') := Lib.hid (fun W st h hl => putW h 0 2 (by decide) (by omega) (by omega))
        have HDE : Hid (D = putS [(zn, 16), (65535 - zn, 16)] (alignW (putS [(0, 1), (0, 2)] (N, L)))) := Lib.hid (by rw [HD.out, if_pos rfl]; unfold wrI; rw [if_pos rfl, Int.toNat_natCast]; rfl)
        have hxr := bits_turn zn (by omega)
        have HAL := Lib.hid (fun (W : World) (st : Nat × Nat) (h : WSt w1 B g vb0 st W) (hl : st.2 ≤ 300000000) => alignWP h hl)
        have HP6 := Lib.hid (fun (W : World) (st : Nat × Nat) (v : Nat) (h : WSt w1 B g vb0 st W) (hv : v < 2 ^ 16) (hl : st.2 + 16 ≤ 34359738368) => putW h v 16 hv (by omega) hl)
        rw [show ((16 : Nat) : Int) = 16 from rfl] at HP6
        have hal : (alignW (N + 0 * 2 ^ L + 0 * 2 ^ (L + 1), L + 1 + 2)).2 ≤ 150000000 := by show alignN (L + 1 + 2) ≤ 150000000; unfold alignN; omega
        clear HD HR
        have hznt : 65535 - zn < 2 ^ 16 := by omega
        have hznt0 : zn < 2 ^ 16 := by omega
        generalize hzt : 65535 - zn = zt at *
        go_wp2_with (first | (go_at_call 65; first | ((with_reducible refine HP1.out.mono ?_); rintro e w4 ⟨rfl, hq⟩; (have HS4 := Lib.hid hq; have x1 := (HA3.out _ _ hq).cell (i := 1) (by simp); have y1 := (HA3.out _ _ hq).blk.2; have HP2 := Lib.hid (HPK.out _ _ hq (by simp only; omega)); clear hq HP1)) | ((with_reducible refine HP2.out.mono ?_); rintro e w5 ⟨rfl, hq⟩; (have HS5 := Lib.hid hq; have x2 := (HA3.out _ _ hq).cell (i := 1) (by simp); have y2 := (HA3.out _ _ hq).blk.2; have HA5 := Lib.hid (HAL.out _ _ hq (by simp only; omega)); clear hq HP2 HS4 x1 y1)) | ((with_reducible refine HPZ.out.mono ?_); rintro e w7 ⟨rfl, hq⟩; (have HS7 := Lib.hid hq; have x4 := (HA3.out _ _ hq).cell (i := 2) (by simp); have y4 := (HA3.out _ _ hq).blk.2; have HPY := Lib.hid (HP6.out _ _ zt hq hznt (by simp only; omega)); clear hq HPZ HS6 x3 y3)) | ((with_reducible refine HPY.out.mono ?_); rintro e w8 ⟨rfl, hq⟩; (have HS8 := Lib.hid hq; clear hq HPY))) | (go_at_call 67; (with_reducible refine HA5.out.mono ?_); rintro e w6 ⟨rfl, hq⟩; (have HS6 := Lib.hid hq; have x3 := (HA3.out _ _ hq).cell (i := 2) (by simp); have y3 := (HA3.out _ _ hq).blk.2; have HPZ := Lib.hid (HP6.out _ _ zn hq hznt0 (by omega)); clear hq HA5)))
        go_ret
        rw [HDE.out]
        exact ⟨rfl, HS8.out.from1 HB1.out hBw⟩
      · have hk0' : (k == 0) = false := by simpa using hk0
        by_cases hk1 : k = 1
        · subst hk1
          have HPK : Hid (∀ (W : World) (st : Nat × Nat), WSt w1 B g vb0 st W → st.2 + 2 ≤ 300000000 → Calls Try.prog 65 #[.pointer (some ⟨g, 0, none⟩), .int .i64 1, .int .i64 2] W fun e w' => e = .returned (.int .i64 0) ∧ WSt w1 B g vb0 (st.1 + 1 * 2 ^ st.2, st.2 + 2) w') := Lib.hid (fun W st h hl => putW h 1 2 (by decide) (by omega) (by omega))
          have HDE : Hid (D = putS [(0, 1), (1, 2)] (N, L)) := Lib.hid (by rw [HD.out, if_pos rfl]; unfold wrI; rw [if_neg hk0, if_pos rfl]; rfl)
          clear HD HR
          go_wp2_with (go_at_call 65; first | ((with_reducible refine HP1.out.mono ?_); rintro e w4 ⟨rfl, hq⟩; (have HS4 := Lib.hid hq; have x1 := (HA3.out _ _ hq).cell (i := 1) (by simp); have y1 := (HA3.out _ _ hq).blk.2; have HP2 := Lib.hid (HPK.out _ _ hq (by simp only; omega)); clear hq HP1)) | ((with_reducible refine HP2.out.mono ?_); rintro e w5 ⟨rfl, hq⟩; (have HS5 := Lib.hid hq; have x2 := (HA3.out _ _ hq).cell (i := 1) (by simp); have y2 := (HA3.out _ _ hq).blk.2; clear hq HP2 HS4 x1 y1)))
          go_ret
          rw [HDE.out]
          exact ⟨rfl, HS5.out.from1 HB1.out hBw⟩
        · have hk2 : k = 2 := by
            have h := HR.out
            unfold mayI at h
            rw [if_neg hk0, if_neg hk1] at h
            apply Classical.byContradiction; intro hn
            rw [if_neg hn] at h
            cases h
          subst hk2
          have HPK : Hid (∀ (W : World) (st : Nat × Nat), WSt w1 B g vb0 st W → st.2 + 2 ≤ 300000000 → Calls Try.prog 65 #[.pointer (some ⟨g, 0, none⟩), .int .i64 2, .int .i64 2] W fun e w' => e = .returned (.int .i64 0) ∧ WSt w1 B g vb0 (st.1 + 2 * 2 ^ st.2, st.2 + 2) w') := Lib.hid (fun W st h hl => putW h 2 2 (by decide) (by omega) (by omega))
          have HDE : Hid (D = putS (dynS (l1.map Int.toNat) (l2.map Int.toNat)) (putS [(0, 1), (2, 2)] (N, L))) := Lib.hid (by rw [HD.out, if_pos rfl]; unfold wrI; rw [if_neg hk0, if_neg hk1]; rfl)
          obtain ⟨m1, m2, m3, m4, m5, m6, m7, m8, -⟩ := mayI_dyn HR.out.symm
          have HLNG : Hid (∀ (W : World) (st : Nat × Nat), WSt w1 B g vb0 st W → st.2 ≤ 200000000 → Calls Try.prog 68 #[.pointer (some ⟨g, 0, none⟩), .agg #[.bool false, .int .i64 2, .int .i64 z, .slice o1 n1 c1, .slice o2 n2 c2]] W fun e w' => e = .returned (.tuple #[]) ∧ WSt w1 B g vb0 (putS (dynS (l1.map Int.toNat) (l2.map Int.toNat)) st) w') := Lib.hid (fun W st h hl => h.join (Q := fun e => e = .returned (.tuple #[])) fun vb hb => lengthsP hb _ _ _ _ _ _ _ (fun W' hb' => by rw [← m5]; exact HU1.out W' ((HBL.out _ _ h).trans hb')) (fun W' hb' => by rw [← m6]; exact HU2.out W' ((HBL.out _ _ h).trans hb')) (by simpa using m1) (by simpa using m2) (by simpa using m3) (by simpa using m4) m7 m8 hl)
          clear HD HR m1 m2 m3 m4 m5 m6 m7 m8
          go_wp2_with (first | (go_at_call 65; first | ((with_reducible refine HP1.out.mono ?_); rintro e w4 ⟨rfl, hq⟩; (have HS4 := Lib.hid hq; have x1 := (HA3.out _ _ hq).cell (i := 1) (by simp); have y1 := (HA3.out _ _ hq).blk.2; have HP2 := Lib.hid (HPK.out _ _ hq (by simp only; omega)); clear hq HP1)) | ((with_reducible refine HP2.out.mono ?_); rintro e w5 ⟨rfl, hq⟩; (have HS5 := Lib.hid hq; have x2 := (HA3.out _ _ hq).cell (i := 1) (by simp); have y2 := (HA3.out _ _ hq).blk.2; obtain ⟨A, hA, hAs, hAl⟩ := (HA3.out _ _ hq).whole; have hAe : A = #[.bool false, .int .i64 2, .int .i64 z, .slice o1 n1 c1, .slice o2 n2 c2] := (by rw [← Array.toArray_toList (xs := A), hAl]); subst hAe; have HLN := Lib.hid (HLNG.out _ _ hq (by simp only; omega)); clear hq HP2 HS4 x1 y1))) | (refine load_box rfl 87 5 _ rfl w.heap.size rfl #[.bool false, .int .i64 2, .int .i64 z, .slice o1 n1 c1, .slice o2 n2 c2] rfl hA _ Try.underlying87 rfl (by kernel_rfl) ?_) | (go_at_call 68; (with_reducible refine HLN.out.mono ?_); rintro e w7 ⟨rfl, hq⟩; (have HS7 := Lib.hid hq; clear hq)))
          go_ret
          rw [HDE.out]
          exact ⟨rfl, HS7.out.from1 HB1.out hBw⟩
    | true =>
      have HP1 : Hid (Calls Try.prog 65 #[.pointer (some ⟨g, 0, none⟩), .int .i64 1, .int .i64 1] w3 fun e w' => e = .returned (.int .i64 0) ∧ WSt w1 B g vb0 (N + 1 * 2 ^ L, L + 1) w') := Lib.hid (putW HS3.out 1 1 (by decide) (by omega) (by simp only; omega))
      have x0 := (HA3.out _ _ HS3.out).cell (i := 0) (by simp)
      have y0 := (HA3.out _ _ HS3.out).blk.2
      by_cases hk0 : k = 0
      · subst hk0
        have hz : 0 ≤ z ∧ z ≤ 65535 := by
          have h := HR.out
          unfold mayI at h
          rw [if_pos rfl] at h
          apply Classical.byContradiction; intro hn
          rw [if_pos (by omega)] at h
          cases h
        obtain ⟨zn, rfl⟩ : ∃ zn : Nat, z = (zn : Int) := ⟨z.toNat, by omega⟩
        have hzn : zn ≤ 65535 := by omega
        have HPK : Hid (∀ (W : World) (st : Nat × Nat), WSt w1 B g vb0 st W → st.2 + 2 ≤ 300000000 → Calls Try.prog 65 #[.pointer (some ⟨g, 0, none⟩), .int .i64 0, .int .i64 2] W fun e w' => e = .returned (.int .i64 0) ∧ WSt w1 B g vb0 (st.1 + 0 * 2 ^ st.2, st.2 + 2) w') := Lib.hid (fun W st h hl => putW h 0 2 (by decide) (by omega) (by omega))
        have HDE : Hid (D = putS [(zn, 16), (65535 - zn, 16)] (alignW (putS [(1, 1), (0, 2)] (N, L)))) := Lib.hid (by rw [HD.out, if_pos rfl]; unfold wrI; rw [if_pos rfl, Int.toNat_natCast]; rfl)
        have hxr := bits_turn zn (by omega)
        have HAL := Lib.hid (fun (W : World) (st : Nat × Nat) (h : WSt w1 B g vb0 st W) (hl : st.2 ≤ 300000000) => alignWP h hl)
        have HP6 := Lib.hid (fun (W : World) (st : Nat × Nat) (v : Nat) (h : WSt w1 B g vb0 st W) (hv : v < 2 ^ 16) (hl : st.2 + 16 ≤ 34359738368) => putW h v 16 hv (by omega) hl)
        rw [show ((16 : Nat) : Int) = 16 from rfl] at HP6
        have hal : (alignW (N + 1 * 2 ^ L + 0 * 2 ^ (L + 1), L + 1 + 2)).2 ≤ 150000000 := by show alignN (L + 1 + 2) ≤ 150000000; unfold alignN; omega
        clear HD HR
        have hznt : 65535 - zn < 2 ^ 16 := by omega
        have hznt0 : zn < 2 ^ 16 := by omega
        generalize hzt : 65535 - zn = zt at *
        go_wp2_with (first | (go_at_call 65; first | ((with_reducible refine HP1.out.mono ?_); rintro e w4 ⟨rfl, hq⟩; (have HS4 := Lib.hid hq; have x1 := (HA3.out _ _ hq).cell (i := 1) (by simp); have y1 := (HA3.out _ _ hq).blk.2; have HP2 := Lib.hid (HPK.out _ _ hq (by simp only; omega)); clear hq HP1)) | ((with_reducible refine HP2.out.mono ?_); rintro e w5 ⟨rfl, hq⟩; (have HS5 := Lib.hid hq; have x2 := (HA3.out _ _ hq).cell (i := 1) (by simp); have y2 := (HA3.out _ _ hq).blk.2; have HA5 := Lib.hid (HAL.out _ _ hq (by simp only; omega)); clear hq HP2 HS4 x1 y1)) | ((with_reducible refine HPZ.out.mono ?_); rintro e w7 ⟨rfl, hq⟩; (have HS7 := Lib.hid hq; have x4 := (HA3.out _ _ hq).cell (i := 2) (by simp); have y4 := (HA3.out _ _ hq).blk.2; have HPY := Lib.hid (HP6.out _ _ zt hq hznt (by simp only; omega)); clear hq HPZ HS6 x3 y3)) | ((with_reducible refine HPY.out.mono ?_); rintro e w8 ⟨rfl, hq⟩; (have HS8 := Lib.hid hq; clear hq HPY))) | (go_at_call 67; (with_reducible refine HA5.out.mono ?_); rintro e w6 ⟨rfl, hq⟩; (have HS6 := Lib.hid hq; have x3 := (HA3.out _ _ hq).cell (i := 2) (by simp); have y3 := (HA3.out _ _ hq).blk.2; have HPZ := Lib.hid (HP6.out _ _ zn hq hznt0 (by omega)); clear hq HA5)))
        go_ret
        rw [HDE.out]
        exact ⟨rfl, HS8.out.from1 HB1.out hBw⟩
      · have hk0' : (k == 0) = false := by simpa using hk0
        by_cases hk1 : k = 1
        · subst hk1
          have HPK : Hid (∀ (W : World) (st : Nat × Nat), WSt w1 B g vb0 st W → st.2 + 2 ≤ 300000000 → Calls Try.prog 65 #[.pointer (some ⟨g, 0, none⟩), .int .i64 1, .int .i64 2] W fun e w' => e = .returned (.int .i64 0) ∧ WSt w1 B g vb0 (st.1 + 1 * 2 ^ st.2, st.2 + 2) w') := Lib.hid (fun W st h hl => putW h 1 2 (by decide) (by omega) (by omega))
          have HDE : Hid (D = putS [(1, 1), (1, 2)] (N, L)) := Lib.hid (by rw [HD.out, if_pos rfl]; unfold wrI; rw [if_neg hk0, if_pos rfl]; rfl)
          clear HD HR
          go_wp2_with (go_at_call 65; first | ((with_reducible refine HP1.out.mono ?_); rintro e w4 ⟨rfl, hq⟩; (have HS4 := Lib.hid hq; have x1 := (HA3.out _ _ hq).cell (i := 1) (by simp); have y1 := (HA3.out _ _ hq).blk.2; have HP2 := Lib.hid (HPK.out _ _ hq (by simp only; omega)); clear hq HP1)) | ((with_reducible refine HP2.out.mono ?_); rintro e w5 ⟨rfl, hq⟩; (have HS5 := Lib.hid hq; have x2 := (HA3.out _ _ hq).cell (i := 1) (by simp); have y2 := (HA3.out _ _ hq).blk.2; clear hq HP2 HS4 x1 y1)))
          go_ret
          rw [HDE.out]
          exact ⟨rfl, HS5.out.from1 HB1.out hBw⟩
        · have hk2 : k = 2 := by
            have h := HR.out
            unfold mayI at h
            rw [if_neg hk0, if_neg hk1] at h
            apply Classical.byContradiction; intro hn
            rw [if_neg hn] at h
            cases h
          subst hk2
          have HPK : Hid (∀ (W : World) (st : Nat × Nat), WSt w1 B g vb0 st W → st.2 + 2 ≤ 300000000 → Calls Try.prog 65 #[.pointer (some ⟨g, 0, none⟩), .int .i64 2, .int .i64 2] W fun e w' => e = .returned (.int .i64 0) ∧ WSt w1 B g vb0 (st.1 + 2 * 2 ^ st.2, st.2 + 2) w') := Lib.hid (fun W st h hl => putW h 2 2 (by decide) (by omega) (by omega))
          have HDE : Hid (D = putS (dynS (l1.map Int.toNat) (l2.map Int.toNat)) (putS [(1, 1), (2, 2)] (N, L))) := Lib.hid (by rw [HD.out, if_pos rfl]; unfold wrI; rw [if_neg hk0, if_neg hk1]; rfl)
          obtain ⟨m1, m2, m3, m4, m5, m6, m7, m8, -⟩ := mayI_dyn HR.out.symm
          have HLNG : Hid (∀ (W : World) (st : Nat × Nat), WSt w1 B g vb0 st W → st.2 ≤ 200000000 → Calls Try.prog 68 #[.pointer (some ⟨g, 0, none⟩), .agg #[.bool true, .int .i64 2, .int .i64 z, .slice o1 n1 c1, .slice o2 n2 c2]] W fun e w' => e = .returned (.tuple #[]) ∧ WSt w1 B g vb0 (putS (dynS (l1.map Int.toNat) (l2.map Int.toNat)) st) w') := Lib.hid (fun W st h hl => h.join (Q := fun e => e = .returned (.tuple #[])) fun vb hb => lengthsP hb _ _ _ _ _ _ _ (fun W' hb' => by rw [← m5]; exact HU1.out W' ((HBL.out _ _ h).trans hb')) (fun W' hb' => by rw [← m6]; exact HU2.out W' ((HBL.out _ _ h).trans hb')) (by simpa using m1) (by simpa using m2) (by simpa using m3) (by simpa using m4) m7 m8 hl)
          clear HD HR m1 m2 m3 m4 m5 m6 m7 m8
          go_wp2_with (first | (go_at_call 65; first | ((with_reducible refine HP1.out.mono ?_); rintro e w4 ⟨rfl, hq⟩; (have HS4 := Lib.hid hq; have x1 := (HA3.out _ _ hq).cell (i := 1) (by simp); have y1 := (HA3.out _ _ hq).blk.2; have HP2 := Lib.hid (HPK.out _ _ hq (by simp only; omega)); clear hq HP1)) | ((with_reducible refine HP2.out.mono ?_); rintro e w5 ⟨rfl, hq⟩; (have HS5 := Lib.hid hq; have x2 := (HA3.out _ _ hq).cell (i := 1) (by simp); have y2 := (HA3.out _ _ hq).blk.2; obtain ⟨A, hA, hAs, hAl⟩ := (HA3.out _ _ hq).whole; have hAe : A = #[.bool true, .int .i64 2, .int .i64 z, .slice o1 n1 c1, .slice o2 n2 c2] := (by rw [← Array.toArray_toList (xs := A), hAl]); subst hAe; have HLN := Lib.hid (HLNG.out _ _ hq (by simp only; omega)); clear hq HP2 HS4 x1 y1))) | (refine load_box rfl 87 5 _ rfl w.heap.size rfl #[.bool true, .int .i64 2, .int .i64 z, .slice o1 n1 c1, .slice o2 n2 c2] rfl hA _ Try.underlying87 rfl (by kernel_rfl) ?_) | (go_at_call 68; (with_reducible refine HLN.out.mono ?_); rintro e w7 ⟨rfl, hq⟩; (have HS7 := Lib.hid hq; clear hq)))
          go_ret
          rw [HDE.out]
          exact ⟨rfl, HS7.out.from1 HB1.out hBw⟩
  · have hr0' : ((r : Int) != 0) = true := by simpa using hr0
    have HDE : Hid (D = (N, L)) := Lib.hid (by rw [HD.out, if_neg hr0])
    clear HR hr0
    go_wp2
    go_ret
    rw [HDE.out]
    exact ⟨rfl, HS3.out.from1 HB1.out hBw⟩
end Go.Cm

/- A head that was read: where the reader stands then, and that it may be written. Conditions: none. -/
namespace Go.Cm

theorem xb_mono {N T n : Nat} {st : Nat × Nat} (h : st.2 ≤ T) : st.2 ≤ (xb N T n st).2.2 ∧ (xb N T n st).2.2 ≤ T := by
  obtain ⟨e, p⟩ := st
  unfold xb
  split
  · have := bitsA_le (N := N) (n := n) (show p ≤ T from h)
    exact ⟨this.2, this.1⟩
  · exact ⟨Nat.le_refl _, h⟩
theorem xf_place (e : Nat) (st : Nat × Nat) : (xf e st).2 = st.2 := by unfold xf; split <;> rfl
theorem codeK_mono {N T c : Nat} {x : List Nat × (Nat × Nat)} (h : x.2.2 ≤ T) : ∀ k, x.2.2 ≤ (codeK N T c k x).2.2 ∧ (codeK N T c k x).2.2 ≤ T
  | 0 => ⟨Nat.le_refl _, h⟩
  | k + 1 => by
    have ih := codeK_mono (N := N) (c := c) h k
    rw [codeK_step]
    split
    · have := xb_mono (N := N) (n := 3) ih.2
      exact ⟨Nat.le_trans ih.1 this.1, this.2⟩
    · exact ih
theorem repN_mono {N T a : Nat} {l : List Nat} {st : Nat × Nat} (h : st.2 ≤ T) : st.2 ≤ (repN N T a l st).2.2.2 ∧ (repN N T a l st).2.2.2 ≤ T := by
  unfold repN
  split
  · exact xb_mono h
  · split
    · split
      · show st.2 ≤ (xf 4 st).2 ∧ (xf 4 st).2 ≤ T
        rw [xf_place]; exact ⟨Nat.le_refl _, h⟩
      · exact xb_mono h
    · exact xb_mono h
theorem rowN_mono {N T : Nat} {L : List Nat} {n : Nat} : ∀ (f : Nat) (l : List Nat) (st : Nat × Nat), st.2 ≤ T → st.2 ≤ (rowN N T L n f l st).2.2 ∧ (rowN N T L n f l st).2.2 ≤ T
  | 0, _, _, h => ⟨Nat.le_refl _, h⟩
  | f + 1, l, st, h => by
    by_cases hc : st.1 = 0 ∧ l.length < n
    · obtain ⟨en, p⟩ := st
      obtain ⟨h0, hlt⟩ := hc
      simp only at h0; subst h0
      rw [rowN_step N T L n f l p hlt]
      have hf := (readF_facts L (N / 2 ^ p) (T - p)).2.1
      generalize readF L (N / 2 ^ p) (T - p) = r at *
      have hd : p + r.2.2 ≤ T := by simp only at h; omega
      unfold rowStep
      split
      · exact ⟨Nat.le_refl _, h⟩
      · split
        · have := rowN_mono (N := N) (L := L) (n := n) f (l ++ [r.1]) (0, p + r.2.2) hd
          exact ⟨Nat.le_trans (Nat.le_add_right _ _) this.1, this.2⟩
        · have hm := repN_mono (N := N) (a := r.1) (l := l) (st := (0, p + r.2.2)) hd
          generalize repN N T r.1 l (0, p + r.2.2) = m at *
          split
          · show p ≤ (xf 3 m.2.2).2 ∧ (xf 3 m.2.2).2 ≤ T
            rw [xf_place]
            exact ⟨Nat.le_trans (Nat.le_add_right _ _) hm.1, hm.2⟩
          · have := rowN_mono (N := N) (L := L) (n := n) f (l ++ List.replicate m.1 m.2.1) m.2.2 hm.2
            exact ⟨Nat.le_trans (Nat.le_trans (Nat.le_add_right _ _) hm.1) this.1, this.2⟩
    · rw [rowN_stop _ _ _ _ _ _ _ hc]
      exact ⟨Nat.le_refl _, h⟩
theorem dynL_ok {N T a b : Nat} {k : List Nat × (Nat × Nat)} (h : (dynL N T a b k).2.2.1 = 0) (hp : k.2.2 ≤ T) :
    (dynL N T a b k).1.length = 257 + a ∧ (dynL N T a b k).2.1.length = 1 + b ∧ fits2 (dynL N T a b k).1 (dynL N T a b k).2.1 = 0 ∧ k.2.2 ≤ (dynL N T a b k).2.2.2 ∧ (dynL N T a b k).2.2.2 ≤ T ∧ k.2.1 = 0 := by
  unfold dynL at h ⊢
  split at h
  · rename_i h1; exact absurd h h1
  · rename_i h1
    rw [if_neg h1]
    split at h
    · rename_i h2; exact absurd h h2
    · rename_i h2
      rw [if_neg h2]
      split at h
      · rename_i h3; exact absurd h h3
      · rename_i h3
        rw [if_neg h3]
        have hl := rowN_len N T k.1 (257 + a + (1 + b)) (257 + a + (1 + b) + 1) [] k.2 (Nat.zero_le _) (by simp) (by simpa using h3)
        have hm := rowN_mono (N := N) (T := T) (L := k.1) (n := 257 + a + (1 + b)) (257 + a + (1 + b) + 1) [] k.2 hp
        generalize rowN N T k.1 (257 + a + (1 + b)) (257 + a + (1 + b) + 1) [] k.2 = r at *
        refine ⟨?_, ?_, h, hm.1, hm.2, by simpa using h1⟩
        · rw [List.length_take]; omega
        · rw [List.length_drop]; omega
theorem xf3_ne {st : Nat × Nat} : (xf 3 st).1 ≠ 0 := by
  unfold xf; split
  · exact Nat.succ_ne_zero 2
  · assumption
theorem codeK_ok {N T c : Nat} {x : List Nat × (Nat × Nat)} (h : (codeK N T c 19 x).2.1 = 0) : x.2.1 = 0 := by
  apply Classical.byContradiction; intro hn
  rw [codeK_err N T c 19 x hn] at h; exact hn h
theorem dynN_ok {N T p : Nat} (h : (dynN N T (0, p)).2.2.1 = 0) (hp : p ≤ T) :
    257 ≤ (dynN N T (0, p)).1.length ∧ (dynN N T (0, p)).1.length ≤ 286 ∧ 1 ≤ (dynN N T (0, p)).2.1.length ∧ (dynN N T (0, p)).2.1.length ≤ 30 ∧ fits2 (dynN N T (0, p)).1 (dynN N T (0, p)).2.1 = 0 ∧ p ≤ (dynN N T (0, p)).2.2.2 ∧ (dynN N T (0, p)).2.2.2 ≤ T := by
  unfold dynN at h ⊢
  have m1 := xb_mono (N := N) (n := 5) (st := (0, p)) hp
  generalize xb N T 5 (0, p) = r1 at *
  have m2 := xb_mono (N := N) (n := 5) (st := r1.2) m1.2
  generalize xb N T 5 r1.2 = r2 at *
  have m3 := xb_mono (N := N) (n := 4) (st := r2.2) m2.2
  generalize xb N T 4 r2.2 = r3 at *
  unfold dynM at h ⊢
  generalize hst : (if 286 < 257 + r1.1 ∨ 30 < 1 + r2.1 then xf 3 r3.2 else r3.2) = st at *
  have hst2 : st.2 = r3.2.2 := by rw [← hst]; split; exact xf_place _ _; rfl
  have mk := codeK_mono (N := N) (T := T) (c := r3.1) (x := (List.replicate 19 0, st)) (by show st.2 ≤ T; rw [hst2]; exact m3.2) 19
  obtain ⟨a1, a2, a3, a4, a5, a6⟩ := dynL_ok h mk.2
  have h0 := codeK_ok a6
  have hnb : ¬ (286 < 257 + r1.1 ∨ 30 < 1 + r2.1) := fun hc => by
    rw [if_pos hc] at hst
    rw [← hst] at h0
    exact xf3_ne h0
  have mk1 : st.2 ≤ _ := mk.1
  have m1' : p ≤ r1.2.2 := m1.1
  refine ⟨by rw [a1]; omega, by rw [a1]; omega, by rw [a2]; omega, by rw [a2]; omega, a3, ?_, a5⟩
  exact Nat.le_trans m1' (Nat.le_trans m2.1 (Nat.le_trans m3.1 (Nat.le_trans (Nat.le_of_eq hst2.symm) (Nat.le_trans mk1 a4))))
theorem storedN_ok {N T p : Nat} (h : (storedN N T (0, p)).2.1 = 0) (hp : alignN p ≤ T) : p ≤ (storedN N T (0, p)).2.2 ∧ (storedN N T (0, p)).2.2 ≤ T ∧ (storedN N T (0, p)).1 ≤ 65535 := by
  unfold storedN at h ⊢
  dsimp only at h ⊢
  have m1 := xb_mono (N := N) (n := 16) (st := (0, alignN p)) hp
  have l1 := xb_lt N T 16 (0, alignN p)
  generalize xb N T 16 (0, alignN p) = r1 at *
  have m2 := xb_mono (N := N) (n := 16) (st := r1.2) m1.2
  generalize xb N T 16 r1.2 = r2 at *
  have ha : p ≤ alignN p := by unfold alignN; omega
  have m1' : alignN p ≤ r1.2.2 := m1.1
  split at h
  · rename_i hc
    rw [if_pos hc]
    exact ⟨Nat.le_trans ha (Nat.le_trans m1' m2.1), m2.2, by omega⟩
  · rename_i hc
    exfalso
    unfold xf at h
    split at h
    · cases h
    · rename_i h2; exact h2 h
/-- a head that was read -/
theorem headF_ok {N T p : Nat} (h8 : 8 ∣ T) (_hp : p ≤ T) (h : (headF N T p).2.1 = 0) :
    p + 3 ≤ (headF N T p).2.2 ∧ (headF N T p).2.2 ≤ T ∧ mayI ((headF N T p).1.kind : Nat) ((headF N T p).1.size : Nat) (nls (headF N T p).1.lits) (nls (headF N T p).1.dists) = 0 := by
  obtain ⟨r1, h1⟩ : ∃ r1, r1 = bitsA N T p 1 := ⟨_, rfl⟩
  obtain ⟨a, e1, p1⟩ := r1
  obtain ⟨r2, h2⟩ : ∃ r2, r2 = bitsA N T p1 2 := ⟨_, rfl⟩
  obtain ⟨k, e2, p2⟩ := r2
  by_cases hb : e1 ≠ 0 ∨ e2 ≠ 0
  · rw [head_bad h1.symm h2.symm hb] at h; cases h
  · obtain ⟨q1, q2⟩ : e1 = 0 ∧ e2 = 0 := by omega
    subst q1 q2
    have hp1 : p1 = p + 1 ∧ p + 1 ≤ T := by
      unfold bitsA at h1
      split at h1
      · rename_i hc
        injection h1 with _ h1
        injection h1 with _ h1
        exact ⟨h1, hc⟩
      · injection h1 with _ h1
        injection h1 with h1 _
        cases h1
    have hp2 : p2 = p + 3 ∧ p + 3 ≤ T := by
      rw [hp1.1] at h2
      unfold bitsA at h2
      split at h2
      · rename_i hc
        injection h2 with _ h2
        injection h2 with _ h2
        exact ⟨h2, by omega⟩
      · injection h2 with _ h2
        injection h2 with h2 _
        cases h2
    have hal : alignN p2 ≤ T := by unfold alignN; omega
    rw [head_good h1.symm h2.symm] at h ⊢
    unfold kindN at h ⊢
    rw [if_neg (fun z => z rfl)] at h ⊢
    by_cases k0 : k = 0
    · rw [if_pos k0] at h ⊢
      by_cases hs : (storedN N T (0, p2)).2.1 ≠ 0
      · rw [if_pos hs] at h; exact absurd h hs
      · rw [if_neg hs]
        have h0 : (storedN N T (0, p2)).2.1 = 0 := by simpa using hs
        obtain ⟨b1, b2, b3⟩ := storedN_ok h0 hal
        refine ⟨by show p + 3 ≤ (storedN N T (0, p2)).2.2; omega, b2, ?_⟩
        show mayI 0 (((storedN N T (0, p2)).1 : Nat) : Int) _ _ = 0
        unfold mayI
        rw [if_pos rfl, if_neg (by omega)]
    · rw [if_neg k0] at h ⊢
      by_cases k1 : k = 1
      · rw [if_pos k1]
        refine ⟨by show p + 3 ≤ p2; omega, by show p2 ≤ T; omega, ?_⟩
        show mayI 1 0 _ _ = 0
        unfold mayI
        rw [if_neg (by decide), if_pos rfl]
      · rw [if_neg k1] at h ⊢
        by_cases k2 : k = 2
        · rw [if_pos k2] at h ⊢
          by_cases hs : (dynN N T (0, p2)).2.2.1 ≠ 0
          · rw [if_pos hs] at h; exact absurd h hs
          · rw [if_neg hs]
            have h0 : (dynN N T (0, p2)).2.2.1 = 0 := by simpa using hs
            obtain ⟨b1, b2, b3, b4, b5, b6, b7⟩ := dynN_ok h0 (show p2 ≤ T by omega)
            refine ⟨by show p + 3 ≤ (dynN N T (0, p2)).2.2.2; omega, b7, ?_⟩
            show mayI 2 0 (nls (dynN N T (0, p2)).1) (nls (dynN N T (0, p2)).2.1) = 0
            unfold mayI
            rw [if_neg (by decide), if_neg (by decide), if_pos rfl, nls_length, nls_length, if_neg (by omega), fits2_nls, b5]
        · rw [if_neg k2] at h; cases h
end Go.Cm

/- What a head's writing lays down is what its reading finds. Conditions: none. -/
namespace Go.Cm

/-- the bits from place p on are these puts -/
def Sees (N T : Nat) : List (Nat × Nat) → Nat → Prop
  | [], _ => True
  | x :: xs, p => valN N p x.2 = x.1 ∧ p + x.2 ≤ T ∧ Sees N T xs (p + x.2)
theorem put_lt {a p v n : Nat} (h : a < 2 ^ p) (hv : v < 2 ^ n) : a + v * 2 ^ p < 2 ^ (p + n) := by
  have h1 : (v + 1) * 2 ^ p ≤ 2 ^ n * 2 ^ p := Nat.mul_le_mul_right _ hv
  rw [Nat.add_mul, Nat.one_mul, Nat.mul_comm (2 ^ n), ← Nat.pow_add] at h1
  omega
theorem mod_low {N L p M : Nat} (h : N % 2 ^ L = M) (hp : p ≤ L) : N % 2 ^ p = M % 2 ^ p := by
  rw [← h, Nat.mod_mod_of_dvd _ (Nat.pow_dvd_pow 2 hp)]
theorem putS_mod (xs : List (Nat × Nat)) : ∀ (st : Nat × Nat), st.1 < 2 ^ st.2 → (∀ x ∈ xs, x.1 < 2 ^ x.2) → (putS xs st).1 < 2 ^ (putS xs st).2 ∧ (putS xs st).1 % 2 ^ st.2 = st.1 ∧ st.2 ≤ (putS xs st).2 := by
  induction xs with
  | nil => intro st h _; exact ⟨h, Nat.mod_eq_of_lt h, Nat.le_refl _⟩
  | cons x xs ih =>
    intro st h hx
    rw [putS_cons]
    have h1 := put_lt h (hx x (List.mem_cons_self ..))
    obtain ⟨i1, i2, i3⟩ := ih (st.1 + x.1 * 2 ^ st.2, st.2 + x.2) h1 (fun y hy => hx y (List.mem_cons_of_mem _ hy))
    simp only at i2 i3
    refine ⟨i1, ?_, by omega⟩
    rw [mod_low i2 (Nat.le_add_right _ _), Nat.add_mul_mod_self_right, Nat.mod_eq_of_lt h]
theorem sees_put (N T : Nat) (xs : List (Nat × Nat)) : ∀ (st : Nat × Nat), st.1 < 2 ^ st.2 → (∀ x ∈ xs, x.1 < 2 ^ x.2) → N % 2 ^ (putS xs st).2 = (putS xs st).1 → (putS xs st).2 ≤ T → Sees N T xs st.2 := by
  induction xs with
  | nil => intro st _ _ _ _; trivial
  | cons x xs ih =>
    intro st h hx hN hT
    rw [putS_cons] at hN hT
    have h1 := put_lt h (hx x (List.mem_cons_self ..))
    have hx' : ∀ y ∈ xs, y.1 < 2 ^ y.2 := fun y hy => hx y (List.mem_cons_of_mem _ hy)
    obtain ⟨i1, i2, i3⟩ := putS_mod xs (st.1 + x.1 * 2 ^ st.2, st.2 + x.2) h1 hx'
    have i4 := ih (st.1 + x.1 * 2 ^ st.2, st.2 + x.2) h1 hx' hN hT
    simp only at i2 i3 i4
    refine ⟨?_, by omega, i4⟩
    have e := mod_low hN i3
    rw [i2] at e
    unfold valN
    rw [← Nat.mod_mul_right_div_self, ← Nat.pow_add, e, Nat.add_mul_div_right _ _ (Nat.two_pow_pos _), Nat.div_eq_of_lt h, Nat.zero_add]
theorem numL_append (l m : List UInt8) : numL (l ++ m) = numL l + 256 ^ l.length * numL m := by
  induction l with
  | nil => simp [numL]
  | cons b l ih =>
    show b.toNat + 256 * numL (l ++ m) = (b.toNat + 256 * numL l) + 256 ^ (l.length + 1) * numL m
    rw [ih, Nat.pow_succ, Nat.mul_add, Nat.mul_comm (256 ^ l.length) 256, Nat.mul_assoc]; omega
theorem wholeN_length (N k : Nat) : (wholeN N k).length = k := by simp [wholeN]
theorem numL_whole (N k : Nat) : numL (wholeN N k) = N % 256 ^ k := by
  induction k with
  | zero => simp [wholeN, numL, Nat.mod_one]
  | succ k ih =>
    have e : wholeN N (k + 1) = wholeN N k ++ [UInt8.ofNat (byteAt N k)] := by simp [wholeN, List.range_succ]
    rw [e, numL_append, ih, wholeN_length, Nat.pow_succ, Nat.mod_mul]
    congr 1
    have : numL [UInt8.ofNat (byteAt N k)] = byteAt N k := by
      show (UInt8.ofNat (byteAt N k)).toNat + 256 * 0 = _
      rw [UInt8.toNat_ofNat', Nat.mod_eq_of_lt (byteAt_lt N k)]; omega
    rw [this]; rfl
theorem textN_whole (N L : Nat) : textN N L = wholeN N ((L + 7) / 8) := rfl
theorem textN_length (N L : Nat) : (textN N L).length = (L + 7) / 8 := by rw [textN_whole, wholeN_length]
theorem numL_text {N L : Nat} (h : N < 2 ^ L) : numL (textN N L) = N := by
  rw [textN_whole, numL_whole, pow256, Nat.mod_eq_of_lt]
  exact Nat.lt_of_lt_of_le h (Nat.pow_le_pow_right (by decide) (by omega))
theorem xb_sees {N T p v n : Nat} {xs : List (Nat × Nat)} (h : Sees N T ((v, n) :: xs) p) : xb N T n (0, p) = (v, (0, p + n)) := by
  obtain ⟨h1, h2, -⟩ := h
  simp only at h1 h2
  unfold xb bitsA
  rw [if_pos rfl]
  simp only [if_pos h2, h1]
theorem sees_left {N T : Nat} {ys : List (Nat × Nat)} : ∀ {xs : List (Nat × Nat)} {p : Nat}, Sees N T (xs ++ ys) p → Sees N T xs p
  | [], _, _ => trivial
  | _ :: _, _, h => ⟨h.1, h.2.1, sees_left h.2.2⟩
theorem sees_right {N T : Nat} {ys : List (Nat × Nat)} : ∀ {xs : List (Nat × Nat)} {p : Nat}, Sees N T (xs ++ ys) p → Sees N T ys (p + (xs.map Prod.snd).sum)
  | [], p, h => by simpa using h
  | x :: xs, p, h => by
    have := sees_right (xs := xs) h.2.2
    rw [List.map_cons, List.sum_cons, ← Nat.add_assoc]
    exact this
theorem sees_at {N T : Nat} : ∀ {xs : List (Nat × Nat)} {p k : Nat}, Sees N T xs p → (∀ x ∈ xs, x.2 = 3) → k < xs.length → xb N T 3 (0, p + 3 * k) = ((xs.getD k (0, 0)).1, (0, p + 3 * (k + 1)))
  | x :: xs, p, 0, h, h3, _ => by
    obtain ⟨v, n⟩ := x
    have e : n = 3 := h3 _ (List.mem_cons_self ..)
    subst e
    have := xb_sees h
    simpa using this
  | x :: xs, p, k + 1, h, h3, hk => by
    have e : x.2 = 3 := h3 x (List.mem_cons_self ..)
    have h' := h.2.2
    rw [e] at h'
    have := sees_at (k := k) h' (fun y hy => h3 y (List.mem_cons_of_mem _ hy)) (by simpa using hk)
    rw [show p + 3 * (k + 1) = p + 3 + 3 * k by omega, this, List.getD_cons_succ, show p + 3 + 3 * (k + 1) = p + 3 * (k + 1 + 1) by omega]
def cod4 : List Nat := List.replicate 16 4 ++ List.replicate 3 0
theorem cod4_fold : (List.range 19).foldl (fun l j => l.set (ordN.getD j 0) (ordS.getD j (0, 0)).1) (List.replicate 19 0) = cod4 := by decide
theorem code_back {N T p : Nat} (h : Sees N T ordS p) : ∀ k, k ≤ 19 → codeK N T 15 k (List.replicate 19 0, (0, p)) = ((List.range k).foldl (fun l j => l.set (ordN.getD j 0) (ordS.getD j (0, 0)).1) (List.replicate 19 0), (0, p + 3 * k))
  | 0, _ => rfl
  | k + 1, hk => by
    rw [codeK, code_back h k (by omega), if_pos ⟨by omega, rfl⟩, sees_at h (by decide) (by have : ordS.length = 19 := (by decide); omega), List.range_succ, List.foldl_append]
    rfl
theorem code_all {N T p : Nat} (h : Sees N T ordS p) : codeK N T 15 19 (List.replicate 19 0, (0, p)) = (cod4, (0, p + 57)) := by
  rw [code_back h 19 (Nat.le_refl _), cod4_fold]
theorem cod4_fits : fitsE (nls cod4) false = 0 := by decide
theorem cod4_code : ∀ n, n < 16 → codeN cod4 n = n ∧ cod4.getD n 0 = 4 := by decide
theorem read_back {N T p n : Nat} (hn : n ≤ 15) (h1 : valN N p 4 = turnN n 4) (h2 : p + 4 ≤ T) : readF cod4 (N / 2 ^ p) (T - p) = (n, 0, 4) := by
  obtain ⟨c1, c2⟩ := cod4_code n (by omega)
  have h : ReadN cod4 (N / 2 ^ p) (T - p) n 0 4 := by
    refine .inl ⟨by have : cod4.length = 19 := (by decide); omega, ⟨by omega, ?_⟩, by omega, rfl, c2.symm⟩
    rw [c1, c2, ← turnN_mod _ 4 4 (Nat.le_refl _)]
    show n = turnN (valN N p 4) 4
    rw [h1, turnN_turnN n 4 (by omega)]
  exact readF_of h
theorem row_back {N T n : Nat} : ∀ (xs : List Nat) (f : Nat) (l : List Nat) (p : Nat), (∀ x ∈ xs, x ≤ 15) → Sees N T (codS xs) p → l.length + xs.length = n → xs.length < f → rowN N T cod4 n f l (0, p) = (l ++ xs, (0, p + 4 * xs.length))
  | [], f + 1, l, p, _, _, hl, _ => by
    rw [rowN, if_neg (by simp at hl; simp; omega)]
    simp
  | x :: xs, f + 1, l, p, hx, hs, hl, hf => by
    have hs' : Sees N T ((turnN x 4, 4) :: codS xs) p := hs
    have hr := read_back (hx x (List.mem_cons_self ..)) hs'.1 hs'.2.1
    rw [rowN, if_pos ⟨rfl, by simp at hl; omega⟩]
    simp only [hr]
    rw [if_neg (by simp), if_pos (by have := hx x (List.mem_cons_self ..); omega), row_back xs f (l ++ [x]) (p + 4) (fun y hy => hx y (List.mem_cons_of_mem _ hy)) hs'.2.2 (by simp at hl ⊢; omega) (by simp at hf; omega)]
    rw [List.append_assoc, List.singleton_append, List.length_cons, show p + 4 + 4 * xs.length = p + 4 * (xs.length + 1) by omega]
theorem codS_append (a b : List Nat) : codS a ++ codS b = codS (a ++ b) := by unfold codS; rw [List.map_append]
theorem lenS_snd (n m : Nat) : ((lenS n m).map Prod.snd).sum = 14 := by simp [lenS]
theorem ordS_snd : (ordS.map Prod.snd).sum = 57 := by decide
theorem dyn_back {N T p : Nat} {l1 l2 : List Nat} (h : Sees N T (dynS l1 l2) p) (hn1 : 257 ≤ l1.length) (hn1' : l1.length ≤ 286) (hn2 : 1 ≤ l2.length) (hn2' : l2.length ≤ 30) (h1 : ∀ x ∈ l1, x ≤ 15) (h2 : ∀ x ∈ l2, x ≤ 15) :
    dynN N T (0, p) = (l1, l2, (fits2 l1 l2, p + (71 + 4 * (l1.length + l2.length)))) := by
  unfold dynS at h
  have s1 := sees_left h
  have s2 := sees_right h
  rw [lenS_snd] at s2
  have s3 := sees_left s2
  have s4 := sees_right s2
  rw [ordS_snd, codS_append] at s4
  unfold lenS at s1
  unfold dynN
  rw [xb_sees s1]
  simp only
  rw [xb_sees s1.2.2]
  simp only
  rw [xb_sees s1.2.2.2.2]
  simp only
  unfold dynM
  rw [if_neg (by omega)]
  rw [show p + 5 + 5 + 4 = p + 14 by omega]
  rw [code_all s3]
  unfold dynL
  have e : 257 + (l1.length - 257) + (1 + (l2.length - 1)) = l1.length + l2.length := by omega
  have e1 : 257 + (l1.length - 257) = l1.length := by omega
  rw [e, e1]
  have hr := row_back (N := N) (T := T) (n := l1.length + l2.length) (l1 ++ l2) (l1.length + l2.length + 1) [] (p + 14 + 57) (fun x hx => by rcases List.mem_append.1 hx with q | q; exact h1 x q; exact h2 x q) s4 (by simp) (by simp)
  simp only [hr]
  rw [if_neg (by simp), if_neg (by simp [cod4_fits]), if_neg (by simp)]
  simp only [List.nil_append, List.take_left', List.drop_left', List.length_append]
  rw [show p + 14 + 57 + 4 * (l1.length + l2.length) = p + (71 + 4 * (l1.length + l2.length)) by omega]
/-- what is read back of a head -/
def backH (f : Bool) (k z : Int) (l1 l2 : List Int) : HeadN := if k = 0 then ⟨f, 0, z.toNat, [], []⟩ else if k = 1 then ⟨f, 1, 0, fixL, fixD⟩ else ⟨f, 2, 0, l1.map Int.toNat, l2.map Int.toNat⟩
theorem fin_back (f : Bool) : decide (finN f = 1) = f := by cases f <;> rfl
theorem finN_lt (f : Bool) : finN f < 2 ^ 1 := by cases f <;> decide
theorem align_ge (p : Nat) : p ≤ alignN p ∧ alignN p < p + 8 := by unfold alignN; omega
theorem dynS_lt {l1 l2 : List Nat} (hn1 : 257 ≤ l1.length) (hn1' : l1.length ≤ 286) (hn2 : 1 ≤ l2.length) (hn2' : l2.length ≤ 30) : ∀ x ∈ dynS l1 l2, x.1 < 2 ^ x.2 := by
  have hc : ∀ (l : List Nat), ∀ x ∈ codS l, x.1 < 2 ^ x.2 := fun l x hx => by
    unfold codS at hx
    obtain ⟨n, -, rfl⟩ := List.mem_map.1 hx
    exact turnN_lt n 4
  have ho : ∀ x ∈ ordS, x.1 < 2 ^ x.2 := by decide
  intro x hx
  unfold dynS at hx
  rcases List.mem_append.1 hx with h | h
  · unfold lenS at h
    simp only [List.mem_cons, List.not_mem_nil, or_false] at h
    rcases h with rfl | rfl | rfl
    · show l1.length - 257 < 32; omega
    · show l2.length - 1 < 32; omega
    · decide
  · rcases List.mem_append.1 h with h | h
    · exact ho x h
    · rcases List.mem_append.1 h with h | h
      · exact hc _ x h
      · exact hc _ x h
theorem head_two {N T p : Nat} {f : Bool} {k : Nat} (h : Sees N T [(finN f, 1), (k, 2)] p) : headF N T p = kindN N T p f k (0, p + 3) := by
  unfold headF
  rw [xb_sees h]
  simp only
  rw [xb_sees h.2.2, fin_back]
end Go.Cm

/- What parts and ops stand for, in plain Lean; symbols of lengths and distances; the ops of a text. Conditions: as each says. -/
namespace Go.Cm

/-! symbols of numbers: bases and further bits -/
def spB (each i : Nat) : Nat := i / each - 1
def spBase (base each : Nat) : Nat → Nat
  | 0 => base
  | i + 1 => spBase base each i + 2 ^ spB each i
/-- the last one whose base is not above n -/
def spIdx (base each n : Nat) : Nat → Nat
  | 0 => 0
  | i + 1 => if spBase base each (i + 1) ≤ n then i + 1 else spIdx base each n i
theorem spBase_step (base each i : Nat) : spBase base each (i + 1) = spBase base each i + 2 ^ spB each i := rfl
theorem spBase_mono (base each : Nat) {i j : Nat} (h : i ≤ j) : spBase base each i ≤ spBase base each j := by
  induction j with
  | zero => obtain rfl : i = 0 := by omega
            exact Nat.le_refl _
  | succ j ih =>
    rcases Nat.lt_or_eq_of_le h with h1 | rfl
    · rw [spBase_step]; exact Nat.le_trans (ih (by omega)) (Nat.le_add_right _ _)
    · exact Nat.le_refl _
theorem spIdx_le (base each n : Nat) : ∀ k, spIdx base each n k ≤ k
  | 0 => Nat.le_refl _
  | k + 1 => by unfold spIdx; split; exact Nat.le_refl _; have := spIdx_le base each n k; omega
theorem spIdx_spec {base each n : Nat} (h0 : base ≤ n) : ∀ k, spBase base each (spIdx base each n k) ≤ n ∧ (spIdx base each n k < k → n < spBase base each (spIdx base each n k + 1))
  | 0 => ⟨h0, fun h => absurd h (Nat.lt_irrefl 0)⟩
  | k + 1 => by
    unfold spIdx
    by_cases h : spBase base each (k + 1) ≤ n
    · rw [if_pos h]; exact ⟨h, fun h => absurd h (Nat.lt_irrefl _)⟩
    · rw [if_neg h]
      obtain ⟨h1, h2⟩ := spIdx_spec h0 k
      refine ⟨h1, fun _ => ?_⟩
      rcases Nat.lt_or_eq_of_le (spIdx_le base each n k) with h3 | h3
      · exact h2 h3
      · rw [h3]; omega
/-- what the walk downward keeps -/
theorem spIdx_down {base each n k : Nat} (h : n < spBase base each (k + 1)) : spIdx base each n (k + 1) = spIdx base each n k := by
  show (if spBase base each (k + 1) ≤ n then k + 1 else spIdx base each n k) = _
  rw [if_neg (by omega)]
theorem spIdx_here {base each n k : Nat} (h : spBase base each k ≤ n) : spIdx base each n k = k := by
  cases k with
  | zero => rfl
  | succ k => show (if spBase base each (k + 1) ≤ n then k + 1 else _) = _; rw [if_pos h]
/-- a symbol, its further bits, their number, what is wrong -/
structure SymN where
  s : Nat
  b : Nat
  v : Nat
  e : Nat
def symOf (first base each n k : Nat) : SymN := ⟨first + spIdx base each n k, spB each (spIdx base each n k), n - spBase base each (spIdx base each n k), 0⟩
def lenSy (n : Int) : SymN := if n < 3 ∨ 258 < n then ⟨0, 0, 0, 1⟩ else if n = 258 then ⟨285, 0, 0, 0⟩ else symOf 257 3 4 n.toNat 27
def dstSy (n : Int) : SymN := if n < 1 ∨ 32768 < n then ⟨0, 0, 0, 1⟩ else symOf 0 1 2 n.toNat 29
theorem sym_fits {first base each n k : Nat} (h0 : base ≤ n) (hn : n < spBase base each (k + 1)) :
    (symOf first base each n k).v < 2 ^ (symOf first base each n k).b := by
  obtain ⟨h1, h2⟩ := spIdx_spec (base := base) (each := each) (n := n) h0 k
  have h3 : n < spBase base each (spIdx base each n k + 1) := by
    rcases Nat.lt_or_eq_of_le (spIdx_le base each n k) with h | h
    · exact h2 h
    · rw [h]; exact hn
  rw [spBase_step] at h3
  show n - spBase base each (spIdx base each n k) < 2 ^ spB each (spIdx base each n k)
  omega
theorem len_sum : spBase 3 4 28 = 259 := by decide
theorem dst_sum : spBase 1 2 30 = 32769 := by decide
theorem lenSy_fits {n : Int} (h : ¬ (n < 3 ∨ 258 < n)) : (lenSy n).v < 2 ^ (lenSy n).b ∧ (lenSy n).b ≤ 5 ∧ (lenSy n).e = 0 := by
  unfold lenSy
  rw [if_neg h]
  by_cases h2 : n = 258
  · rw [if_pos h2]; decide
  · rw [if_neg h2]
    refine ⟨sym_fits (by omega) (by rw [len_sum]; omega), ?_, rfl⟩
    have := spIdx_le 3 4 n.toNat 27
    show spIdx 3 4 n.toNat 27 / 4 - 1 ≤ 5
    omega
theorem dstSy_fits {n : Int} (h : ¬ (n < 1 ∨ 32768 < n)) : (dstSy n).v < 2 ^ (dstSy n).b ∧ (dstSy n).b ≤ 13 ∧ (dstSy n).e = 0 := by
  unfold dstSy
  rw [if_neg h]
  refine ⟨sym_fits (by omega) (by rw [dst_sum]; omega), ?_, rfl⟩
  have := spIdx_le 1 2 n.toNat 29
  show spIdx 1 2 n.toNat 29 / 2 - 1 ≤ 13
  omega
/-! what ops and parts stand for -/
structure OpN where
  lit : Nat
  len : Int
  dist : Int
structure PtN where
  kind : Int
  text : ByteArray
  ops : List OpN
  lits : List Int
  dists : List Int
abbrev Byts := List UInt8
def copyN (b : Byts) (d : Nat) : Nat → Byts
  | 0 => b
  | k + 1 => copyN b d k ++ [(copyN b d k).getD ((copyN b d k).length - d) 0]
theorem copyN_len (b : Byts) (d : Nat) : ∀ k, (copyN b d k).length = b.length + k
  | 0 => rfl
  | k + 1 => by rw [copyN, List.length_append, copyN_len b d k, List.length_singleton]; omega
/-- ErrArg 1, ErrBig 3, ErrDist is given -/
def opN (eD : Nat) (b : Byts) (o : OpN) : Nat × Byts :=
  if o.len = 0 then (0, b ++ [UInt8.ofNat o.lit])
  else if o.len < 3 ∨ 258 < o.len ∨ o.dist < 1 ∨ 32768 < o.dist then (1, b)
  else if (b.length : Int) < o.dist then (eD, b)
  else (0, copyN b o.dist.toNat o.len.toNat)
def opS (eD : Nat) (y : Nat × Byts) (o : OpN) : Nat × Byts :=
  if y.1 ≠ 0 then y else if (opN eD y.2 o).1 ≠ 0 then opN eD y.2 o else if 16777216 < (opN eD y.2 o).2.length then (3, (opN eD y.2 o).2) else opN eD y.2 o
def opsN (eD : Nat) (b : Byts) (l : List OpN) : Nat × Byts := l.foldl (opS eD) (0, b)
def chkN (y : Nat × Byts) : Nat × Byts := if y.1 ≠ 0 then y else if 16777216 < y.2.length then (3, y.2) else y
def pkPart (eD : Nat) (b : Byts) (p : PtN) : Nat × Byts :=
  if p.kind = 0 then (if 65535 < p.text.size then (1, b) else chkN (0, b ++ p.text.data.toList))
  else if p.kind = 1 ∨ p.kind = 2 then chkN (opsN eD b p.ops)
  else (1, b)
def pkPartS (eD : Nat) (y : Nat × Byts) (p : PtN) : Nat × Byts := if y.1 ≠ 0 then y else pkPart eD y.2 p
def partsN (eD : Nat) (l : List PtN) : Nat × Byts := l.foldl (pkPartS eD) (0, [])
/-- the text of parts: ErrEmpty is given -/
def textOf (eD eE : Nat) (l : List PtN) : Nat × Byts := if l = [] then (eE, []) else if (partsN eD l).1 ≠ 0 then ((partsN eD l).1, []) else partsN eD l
theorem opsN_snoc (eD : Nat) (b : Byts) (l : List OpN) (o : OpN) : opsN eD b (l ++ [o]) = opS eD (opsN eD b l) o := by unfold opsN; rw [List.foldl_append]; rfl
theorem partsN_snoc (eD : Nat) (l : List PtN) (p : PtN) : partsN eD (l ++ [p]) = pkPartS eD (partsN eD l) p := by unfold partsN; rw [List.foldl_append]; rfl
theorem opS_stuck {eD : Nat} {y : Nat × Byts} (h : y.1 ≠ 0) (l : List OpN) : l.foldl (opS eD) y = y := by
  induction l with
  | nil => rfl
  | cons o l ih => rw [List.foldl_cons, show opS eD y o = y from if_pos h, ih]
theorem pkPartS_stuck {eD : Nat} {y : Nat × Byts} (h : y.1 ≠ 0) (l : List PtN) : l.foldl (pkPartS eD) y = y := by
  induction l with
  | nil => rfl
  | cons o l ih => rw [List.foldl_cons, show pkPartS eD y o = y from if_pos h, ih]
theorem opsN_stop {eD : Nat} {b : Byts} {l : List OpN} {k : Nat} (h : (opsN eD b (l.take k)).1 ≠ 0) : opsN eD b l = opsN eD b (l.take k) := by
  have : opsN eD b l = (l.drop k).foldl (opS eD) (opsN eD b (l.take k)) := by unfold opsN; rw [← List.foldl_append, List.take_append_drop]
  rw [this, opS_stuck h]
theorem partsN_stop {eD : Nat} {l : List PtN} {k : Nat} (h : (partsN eD (l.take k)).1 ≠ 0) : partsN eD l = partsN eD (l.take k) := by
  have : partsN eD l = (l.drop k).foldl (pkPartS eD) (partsN eD (l.take k)) := by unfold partsN; rw [← List.foldl_append, List.take_append_drop]
  rw [this, pkPartS_stuck h]
theorem opN_len {eD : Nat} {b : Byts} {o : OpN} : (opN eD b o).2.length ≤ b.length + 258 := by
  unfold opN
  split
  · simp
  · split
    · simp
    · split
      · simp
      · simp only [copyN_len]; omega
/-! the ops of a text -/
/-- how far two places of a text agree -/
def runFr (t : Byts) (at_ d : Nat) : Nat → Nat → Nat
  | 0, k => k
  | f + 1, k => if k < 258 ∧ at_ + k < t.length ∧ t.getD (at_ + k - d) 0 = t.getD (at_ + k) 0 then runFr t at_ d f (k + 1) else k
def runN' (t : Byts) (at_ d : Nat) : Nat := runFr t at_ d 259 0
/-- the longest copy among so many distances, the first of them -/
def bestS (t : Byts) (at_ : Nat) (y : Nat × Nat) (d : Nat) : Nat × Nat := if y.1 < runN' t at_ d then (runN' t at_ d, d) else y
def bestN (t : Byts) (at_ k : Nat) : Nat × Nat := (List.range k).foldl (fun y i => bestS t at_ y (i + 1)) (0, 0)
theorem bestN_succ (t : Byts) (at_ k : Nat) : bestN t at_ (k + 1) = bestS t at_ (bestN t at_ k) (k + 1) := by unfold bestN; rw [List.range_succ, List.foldl_append]; rfl
def opAt (t : Byts) (at_ : Nat) : OpN :=
  if 3 ≤ (bestN t at_ (min 256 at_)).1 then ⟨0, (bestN t at_ (min 256 at_)).1, (bestN t at_ (min 256 at_)).2⟩ else ⟨(t.getD at_ 0).toNat, 0, 0⟩
def stepAt (t : Byts) (at_ : Nat) : Nat := if 3 ≤ (bestN t at_ (min 256 at_)).1 then (bestN t at_ (min 256 at_)).1 else 1
def opsFr (t : Byts) : Nat → Nat → List OpN
  | 0, _ => []
  | f + 1, a => if a < t.length then opAt t a :: opsFr t f (a + stepAt t a) else []
def opsOf (t : Byts) : List OpN := opsFr t (t.length + 1) 0
theorem runFr_le (t : Byts) (at_ d : Nat) : ∀ f k, k ≤ 258 → runFr t at_ d f k ≤ 258
  | 0, _, h => h
  | f + 1, k, h => by
    unfold runFr
    split
    · rename_i h1; exact runFr_le t at_ d f (k + 1) (by omega)
    · exact h
theorem runN_le (t : Byts) (at_ d : Nat) : runN' t at_ d ≤ 258 := runFr_le t at_ d 259 0 (by decide)
theorem runFr_spec (t : Byts) (at_ d : Nat) : ∀ f k, k + f = 259 → (∀ q, q < k → at_ + q < t.length ∧ t.getD (at_ + q - d) 0 = t.getD (at_ + q) 0) → ∀ q, q < runFr t at_ d f k → at_ + q < t.length ∧ t.getD (at_ + q - d) 0 = t.getD (at_ + q) 0
  | 0, _, _, h => h
  | f + 1, k, hf, h => by
    unfold runFr
    split
    · rename_i h1
      refine runFr_spec t at_ d f (k + 1) (by omega) fun q hq => ?_
      rcases Nat.lt_succ_iff_lt_or_eq.1 hq with h2 | rfl
      · exact h q h2
      · exact h1.2
    · exact h
theorem runN_spec (t : Byts) (at_ d : Nat) : ∀ q, q < runN' t at_ d → at_ + q < t.length ∧ t.getD (at_ + q - d) 0 = t.getD (at_ + q) 0 := runFr_spec t at_ d 259 0 rfl (fun q hq => absurd hq (Nat.not_lt_zero q))
theorem bestN_spec (t : Byts) (at_ : Nat) : ∀ k, (bestN t at_ k).1 ≤ 258 ∧ ((bestN t at_ k).1 ≠ 0 → (bestN t at_ k).1 = runN' t at_ (bestN t at_ k).2 ∧ 1 ≤ (bestN t at_ k).2 ∧ (bestN t at_ k).2 ≤ k)
  | 0 => ⟨Nat.zero_le _, fun h => absurd rfl h⟩
  | k + 1 => by
    rw [bestN_succ]
    obtain ⟨h1, h2⟩ := bestN_spec t at_ k
    unfold bestS
    split
    · exact ⟨runN_le _ _ _, fun _ => ⟨rfl, by simp, Nat.le_refl _⟩⟩
    · exact ⟨h1, fun h => ⟨(h2 h).1, (h2 h).2.1, by have := (h2 h).2.2; omega⟩⟩
theorem stepAt_pos (t : Byts) (a : Nat) : 1 ≤ stepAt t a ∧ stepAt t a ≤ 258 := by
  unfold stepAt
  have := (bestN_spec t a (min 256 a)).1
  split <;> omega
theorem stepAt_in {t : Byts} {a : Nat} (h : a < t.length) : a + stepAt t a ≤ t.length := by
  unfold stepAt
  split
  · rename_i h3
    obtain ⟨h1, -, -⟩ := (bestN_spec t a (min 256 a)).2 (by omega)
    have := runN_spec t a (bestN t a (min 256 a)).2 ((bestN t a (min 256 a)).1 - 1) (by omega)
    omega
  · omega
/-- ops make the text on -/
theorem copyN_at {t : Byts} {a d : Nat} (hd : 1 ≤ d) (hda : d ≤ a) (ha : a ≤ t.length) : ∀ n, (∀ q, q < n → a + q < t.length ∧ t.getD (a + q - d) 0 = t.getD (a + q) 0) → copyN (t.take a) d n = t.take (a + n)
  | 0, _ => rfl
  | n + 1, h => by
    have ih := copyN_at hd hda ha n (fun q hq => h q (by omega))
    obtain ⟨h1, h2⟩ := h n (by omega)
    rw [copyN, ih, List.length_take, Nat.min_eq_left (by omega)]
    have e1 : (t.take (a + n)).getD (a + n - d) 0 = t.getD (a + n - d) 0 := by
      rw [List.getD_eq_getElem?_getD, List.getElem?_take, if_pos (by omega), ← List.getD_eq_getElem?_getD]
    rw [e1, h2, ← Nat.add_assoc, List.take_succ_eq_append_getElem h1]
    simp [List.getD, h1]
theorem opAt_makes {eD : Nat} {t : Byts} {a : Nat} (ha : a < t.length) (ht : t.length ≤ 16777216) : opN eD (t.take a) (opAt t a) = (0, t.take (a + stepAt t a)) := by
  unfold opAt stepAt opN
  by_cases h3 : 3 ≤ (bestN t a (min 256 a)).1
  · rw [if_pos h3, if_pos h3]
    obtain ⟨hl, hs⟩ := bestN_spec t a (min 256 a)
    obtain ⟨h1, h2, h4⟩ := hs (by omega)
    have hrun := runN_spec t a (bestN t a (min 256 a)).2
    rw [← h1] at hrun
    generalize (bestN t a (min 256 a)).1 = n at *
    generalize (bestN t a (min 256 a)).2 = d at *
    rw [if_neg (by simp only; omega), if_neg (by simp only; omega), if_neg (by simp only [List.length_take]; omega)]
    simp only [Int.toNat_natCast]
    rw [copyN_at h2 (by omega) (by omega) n hrun]
  · rw [if_neg h3, if_neg h3, if_pos rfl, List.take_succ_eq_append_getElem ha]
    simp [List.getD, ha]
theorem opsFr_makes {eD : Nat} {t : Byts} (ht : t.length ≤ 16777216) : ∀ f a, a ≤ t.length → t.length < a + f → (opsFr t f a).foldl (opS eD) (0, t.take a) = (0, t)
  | 0, a, h1, h2 => absurd h2 (by omega)
  | f + 1, a, h1, h2 => by
    unfold opsFr
    by_cases h : a < t.length
    · rw [if_pos h, List.foldl_cons]
      have hm := opAt_makes (eD := eD) h ht
      have hin := stepAt_in h
      have hp := (stepAt_pos t a).1
      have e : opS eD (0, t.take a) (opAt t a) = (0, t.take (a + stepAt t a)) := by
        unfold opS
        rw [if_neg (fun h => h rfl), hm, if_neg (fun h => h rfl), if_neg (by simp only [List.length_take]; omega)]
      rw [e]
      exact opsFr_makes ht f _ hin (by omega)
    · rw [if_neg h, List.take_of_length_le (by omega)]
      rfl
theorem opsOf_makes {eD : Nat} {t : Byts} (ht : t.length ≤ 16777216) : opsN eD [] (opsOf t) = (0, t) := opsFr_makes ht (t.length + 1) 0 (Nat.zero_le _) (by omega)
theorem opsFr_len (t : Byts) : ∀ f a, a ≤ t.length → (opsFr t f a).length + a ≤ t.length
  | 0, a, h => by simpa [opsFr] using h
  | f + 1, a, h => by
    unfold opsFr
    split
    · rename_i h1
      have := opsFr_len t f (a + stepAt t a) (stepAt_in h1)
      have hp := (stepAt_pos t a).1
      rw [List.length_cons]
      omega
    · simpa using h
theorem opsOf_len (t : Byts) : (opsOf t).length ≤ t.length := by have := opsFr_len t (t.length + 1) 0 (Nat.zero_le _); unfold opsOf; omega
end Go.Cm

/- Slices whose elements have several cells: read, cut, owned, appended to. Conditions: none. -/
namespace Go.Cm
open Go.RowKit Go.Proofs

/-- A slice whose elements have k cells each reads as a list of these. -/
def SlK (k : Nat) (w : World) (v : Value) (l : List (List Value)) : Prop :=
  ∃ oa cap b off, v = .slice oa l.length cap ∧ Hd w oa l.length cap b off ∧ ∀ i, i < l.length → ∀ c, c < k → w.cell? ⟨b, off + i * k + c, none⟩ = some ((l.getD i []).getD c undef)
theorem SlK.up {k : Nat} {w w' : World} {v : Value} {l : List (List Value)} (h : SlK k w v l) (hb : Below w.heap.size w w') : SlK k w' v l := by
  obtain ⟨oa, cap, b, off, rfl, hd, hc⟩ := h
  refine ⟨oa, cap, b, off, rfl, ⟨hd.hat, hd.hcap, hd.hmax, hd.hsml, fun h => Nat.lt_of_lt_of_le (hd.hblk h) hb.size⟩, fun i hi c hcl => ?_⟩
  rw [hb.cell (p := ⟨b, off + i * k + c, none⟩) (hd.hblk (by omega))]
  exact hc i hi c hcl
theorem SlK.nil (k : Nat) (w : World) : SlK k w (.slice none 0 0) [] := ⟨none, 0, 0, 0, rfl, ⟨fun h => absurd h (Nat.lt_irrefl 0), Nat.le_refl _, by simp [maxLen], by simp, fun h => absurd h (Nat.lt_irrefl 0)⟩, fun i hi => absurd hi (Nat.not_lt_zero i)⟩
theorem size_run {P : Program} {E : TypeId} {k : Nat} (hE : (P.info? E).map (·.size) = some k) (W : World) : (sizeOf E).run P W = .ok k W := by
  cases hq : P.info? E with
  | none => simp [hq] at hE
  | some inf =>
    have hs : inf.size = k := by simpa [hq] using hE
    simp [sizeOf, typeInfo, hq, hs]
/-- The address of an element, whatever the slice's make. -/
theorem index_anyK {P : Program} {w : World} {oa : Option Addr} {b off len cap : Nat} (k : Nat) (T E : TypeId) (hT : P.underlying T = some (.slice E)) (hE : (P.info? E).map (·.size) = some k) (h : Hd w oa len cap b off) :
    ∀ (W : World) (kd : IntKind) (i : Int), 0 ≤ i → i < len → (Instr.indexAt T (.slice oa len cap) (.int kd i)).run P W = .ok (.pointer (some ⟨b, off + i.toNat * k, none⟩)) W := by
  intro W kd i h0 h1
  rw [h.hat (by omega)]
  have he : P.elem T = E := by simp [Program.elem, hT]
  rw [run_indexAt_slice W T ⟨b, off, none⟩ len cap kd i (by rw [he]; exact hT), if_pos ⟨h0, h1⟩, he, size_run hE]
  simp [Result.andThen, Addr.add]
theorem run_cutK {P : Program} {k : Nat} (t E : TypeId) (ht : P.underlying t = some (.slice E)) (hE : (P.info? E).map (·.size) = some k) : P.underlying t = some (.slice (P.elem t)) ∧ ∀ W : World, (sizeOf (P.elem t)).run P W = .ok k W := by
  have he : P.elem t = E := by simp [Program.elem, ht]
  refine ⟨by rw [he]; exact ht, fun W => ?_⟩
  rw [he]; exact size_run hE W
/-- a slice from n on -/
theorem SlK.high {P : Program} {k : Nat} {w : World} {v : Value} {l : List (List Value)} (h : SlK k w v l) (t E : TypeId) (ht : P.underlying t = some (.slice E)) (hE : (P.info? E).map (·.size) = some k) (n : Nat) (hn : n ≤ l.length) :
    ∃ u, (∀ W : World, (Instr.sliceAt t v (some (.int .i64 (n : Int))) none none).run P W = .ok u W) ∧ SlK k w u (l.drop n) := by
  obtain ⟨oa, cap, b, off, rfl, hd, hc⟩ := h
  obtain ⟨h1, h2⟩ := run_cutK t E ht hE
  have hcap := hd.hcap
  have hl : (l.drop n).length = l.length - n := by rw [List.length_drop]
  refine ⟨sliced oa n l.length cap k, fun W => ?_, ?_⟩
  · rw [run_sliceAt_slice (P := P) (t := t) (h := h1), run_slice_l (t := t) (ht := h1) (h0 := by omega) (h1 := by omega), h2]
    simp [Result.andThen]
  · refine ⟨if cap = n then oa else oa.map (·.add (n * k)), cap - n, b, off + n * k, by rw [hl]; simp [sliced], ⟨fun h0 => ?_, by omega, by have := hd.hmax; omega, by have := hd.hsml; omega, fun h0 => hd.hblk (by omega)⟩, fun i hi c hcl => ?_⟩
    · rw [hl] at h0
      rw [if_neg (by omega), hd.hat (by omega)]
      simp [add_off]
    · rw [hl] at hi
      have := hc (n + i) (by omega) c hcl
      rw [Nat.add_mul, ← Nat.add_assoc] at this
      rw [this]
      simp [List.getD]
/-- Cells loaded as one value. -/
theorem run_loadVar_cells {P : Program} (w : World) (g off n : Nat) (ty : TypeId) (C : Array Value) (d : TypeDesc) (hc : ∀ c, c < n → w.cell? ⟨g, off + c, none⟩ = some (C.getD c undef)) (hs : C.size = n)
    (hu : P.underlying ty = some d) (hd : (match d with | .struct _ | .array _ _ => true | _ => false) = true) (hi : (P.info? ty).map (·.size) = some n) :
    (loadVar ty ⟨g, off, none⟩).run P w = .ok (.agg C) w := by
  have hl : (loadCells ⟨g, off, none⟩ C.toList.length).run P w = .ok C.toList.toArray w :=
    run_loadCells_list (P := P) w ⟨g, off, none⟩ C.toList (fun j v hv => by
      rw [add_off]
      have hj : j < n := by
        have := (List.getElem?_eq_some_iff.1 hv).1
        rw [Array.length_toList] at this; omega
      rw [hc j hj]
      simp only [Array.getElem?_toList] at hv
      simp [Array.getD_eq_getD_getElem?, hv])
  rw [Array.length_toList, hs] at hl
  simp only [Array.toArray_toList] at hl
  have hagg : (isAgg ty).run P w = .ok true w := by
    unfold isAgg
    rw [Sem.run_bind, run_underlying hu w]
    cases d <;> simp_all
  simp [loadVar, Sem.run_bind, hagg, size_run hi, hl]
theorem wpList_load_cells {P : Program} {ops : Array Oper} {rest : List Oper} {o : Oper} {a : Act} {w : World} {Q : Exit → Act → World → Prop} (hgd : o.guard = none) (ty : TypeId) (x : Operand) (ho : o.op = .load ty x)
    (g off n : Nat) (hx : a.eval x = .pointer (some ⟨g, off, none⟩)) (C : Array Value) (d : TypeDesc) (hc : ∀ c, c < n → w.cell? ⟨g, off + c, none⟩ = some (C.getD c undef)) (hs : C.size = n)
    (hu : P.underlying ty = some d) (hd : (match d with | .struct _ | .array _ _ => true | _ => false) = true) (hi : (P.info? ty).map (·.size) = some n)
    (h : wpList P ops Q rest (a.put o.dst (.agg C)) w) : wpList P ops Q (o :: rest) a w := by
  refine wpList_plain hgd fun K hK => ?_
  unfold Oper.wp execOp
  simp only [ho, hx, Instr.loadAt, Instr.sureAddr, Sem.run_bind, Sem.run_pure, Result.andThen_ok, run_loadVar_cells w g off n ty C d hc hs hu hd hi]
  exact hK _ _ h
/-- A slice of k-cell elements that lies in a block of its own, from block B on, or nil. -/
def OwnK (k : Nat) (w : World) (B : Nat) (E : TypeId) (v : Value) (l : List (List Value)) : Prop :=
  w.ownsRow B E k v l.length l.flatten ∧ l.length ≤ 140737488351232 ∧ ∀ x ∈ l, x.length = k
theorem OwnK.nil (k : Nat) (w : World) (B : Nat) (E : TypeId) : OwnK k w B E (.slice none 0 0) [] := ⟨World.ownsRow_nil w B E k, by simp, by simp⟩
theorem flatten_len {k : Nat} {l : List (List Value)} (h : ∀ x ∈ l, x.length = k) : l.flatten.length = l.length * k := by
  induction l with
  | nil => simp
  | cons x l ih =>
    rw [List.flatten_cons, List.length_append, ih (fun y hy => h y (List.mem_cons_of_mem _ hy)), h x List.mem_cons_self, List.length_cons, Nat.succ_mul, Nat.add_comm]
theorem flatten_at {k : Nat} {l : List (List Value)} (h : ∀ x ∈ l, x.length = k) : ∀ (i c : Nat), i < l.length → c < k → l.flatten[i * k + c]? = (l.getD i [])[c]? := by
  induction l with
  | nil => intro i c hi; simp at hi
  | cons x l ih =>
    intro i c hi hc
    have hx := h x List.mem_cons_self
    rw [List.flatten_cons]
    cases i with
    | zero => rw [Nat.zero_mul, Nat.zero_add, List.getElem?_append_left (by omega)]; simp
    | succ i =>
      rw [List.getElem?_append_right (by rw [hx, Nat.succ_mul]; omega), hx, show (i + 1) * k + c - k = i * k + c by rw [Nat.succ_mul]; omega, ih (fun y hy => h y (List.mem_cons_of_mem _ hy)) i c (by simpa using hi) hc]
      simp
theorem OwnK.sl {k : Nat} {w : World} {B : Nat} {E : TypeId} {v : Value} {l : List (List Value)} (h : OwnK k w B E v l) : SlK k w v l := by
  obtain ⟨⟨_, h⟩, hl, hk⟩ := h
  rcases h with ⟨rfl, h0⟩ | ⟨g, cap, cur, rfl, hb, hg, hnc, hcm, hcs, htake⟩
  · obtain rfl : l = [] := List.length_eq_zero_iff.1 h0
    exact SlK.nil k w
  · refine ⟨some ⟨g, 0, none⟩, cap, g, 0, rfl, ⟨fun _ => rfl, hnc, hcm, hl, fun _ => (Array.getElem?_eq_some_iff.1 hg).1⟩, fun i hi c hc => ?_⟩
    rw [cell_of_row w g (0 + i * k + c) cur E (0, 0) hg, Nat.zero_add]
    have hlt : i * k + c < l.length * k := by
      have h1 : (i + 1) * k ≤ l.length * k := Nat.mul_le_mul_right k hi
      rw [Nat.succ_mul] at h1; omega
    have h1 : l.flatten[i * k + c]? = cur[i * k + c]? := by
      rw [← htake, List.getElem?_take, if_pos hlt]; simp
    rw [← h1, flatten_at hk i c hi hc]
    have hxl : c < (l.getD i []).length := by rw [hk _ (by simp [List.getD, hi])]; exact hc
    generalize l.getD i [] = y at *
    simp [List.getD, hxl]
theorem OwnK.keep {k : Nat} {w w' : World} {B : Nat} {E : TypeId} {v : Value} {l : List (List Value)} {row : Option Nat} (h : OwnK k w B E v l) (hg : w.grownBy w' row) (hne : v.ownBlock = none ∨ v.ownBlock ≠ row) : OwnK k w' B E v l := ⟨h.1.kept hg hne, h.2⟩
theorem OwnK.up {k : Nat} {w w' : World} {B : Nat} {E : TypeId} {v : Value} {l : List (List Value)} (h : OwnK k w B E v l) (hb : Below w.heap.size w w') : OwnK k w' B E v l :=
  h.keep (row := none) ⟨hb.os, hb.tape, hb.output, hb.size, fun k hk _ => hb.block k hk⟩ (by cases v.ownBlock <;> simp)
theorem OwnK.lt {k : Nat} {w : World} {B : Nat} {E : TypeId} {v : Value} {l : List (List Value)} (h : OwnK k w B E v l) : ∀ q, v.ownBlock = some q → B ≤ q ∧ q < w.heap.size := h.1.lt
theorem OwnK.mono {k : Nat} {w : World} {B B' E : Nat} {v : Value} {l : List (List Value)} (h : OwnK k w B E v l) (hB : B' ≤ B) : OwnK k w B' E v l :=
  ⟨⟨h.1.1, h.1.2.imp id fun ⟨g, cap, cur, h1, h2, h3⟩ => ⟨g, cap, cur, h1, by omega, h3⟩⟩, h.2⟩
/-- 'append(s, x)' of one k-cell element x that lies as a slice of one. -/
theorem run_appK {P : Program} {k : Nat} (w : World) (B : Nat) (t ty E : TypeId) (z : Value) (bytes : Nat) (ht : P.underlying t = some (.slice E)) (hinf : (P.info? E).map (fun i => (i.zero, i.size, i.bytes)) = some (some z, k, bytes)) (hz : z.cells.size = k) (hk : 0 < k) (hby : bytes ≤ 64)
    (v : Value) (xs : List (List Value)) (hown : OwnK k w B E v xs) (xv : Value) (news : List (List Value)) (hx : SlK k w xv news) (hnk : ∀ x ∈ news, x.length = k) (h1 : ∀ u ∈ news.flatten, u.oneCell' = true) (hlen : xs.length + news.length ≤ 1000000000) (hB : B ≤ w.heap.size) :
    ∃ v' w', (Builtin.append_ #[t, t] ty #[v, xv]).run P w = .ok v' w' ∧ OwnK k w' B E v' (xs ++ news) ∧ w.grownBy w' v.ownBlock ∧ (∀ q, v'.ownBlock = some q → v.ownBlock = some q ∨ w.heap.size ≤ q) := by
  obtain ⟨i0, hi, hz0, hz1, hz2⟩ : ∃ i0, P.info? E = some i0 ∧ i0.zero = some z ∧ i0.size = k ∧ i0.bytes = bytes := by
    cases hq : P.info? E with
    | none => simp [hq] at hinf
    | some i0 => simp [hq] at hinf; exact ⟨i0, rfl, hinf.1, hinf.2.1, hinf.2.2⟩
  have hl1 : xs.length + news.length ≤ maxLen := by simp only [maxLen]; omega
  have hl2 : (xs.length + news.length) * bytes ≤ 140737488355328 := by
    have := Nat.mul_le_mul hlen hby; omega
  obtain ⟨oa, cx, b, off, rfl, hd, hc⟩ := hx
  obtain ⟨hrow, hsm, hxk⟩ := hown
  have hnewsl : news.flatten.length = news.length * k := flatten_len hnk
  have hall : ∀ x ∈ xs ++ news, x.length = k := fun x hx => by
    rcases List.mem_append.1 hx with h | h
    · exact hxk x h
    · exact hnk x h
  have hlen' : (xs ++ news).length ≤ 140737488351232 := by rw [List.length_append]; omega
  by_cases hn : news = []
  · subst hn
    refine ⟨v, w, ?_, ⟨by simpa using hrow, by simpa using hsm, by simpa using hxk⟩, ⟨rfl, rfl, rfl, Nat.le_refl _, fun _ _ _ => rfl⟩, fun k hk => .inl hk⟩
    rcases hrow.2 with ⟨rfl, hx0⟩ | ⟨g, cap, cur, rfl, _, _, hnc, _⟩
    · cases oa <;> simp [Builtin.append_, run_underlying ht, sizeOf, typeInfo, hi, Builtin.lenOf, Builtin.firstCells, loadCells, loadCellsFrom]
    · cases oa <;> simp [Builtin.append_, run_underlying ht, sizeOf, typeInfo, hi, Builtin.lenOf, Builtin.firstCells, loadCells, loadCellsFrom, hnc, storeCells]
  · have hpos : 0 < news.length := List.length_pos_iff.2 hn
    obtain rfl := hd.hat hpos
    have hnews : ∀ j u, news.flatten[j]? = some u → w.cell? ((⟨b, off, none⟩ : Addr).add j) = some u := fun j u hu => by
      have hj := (List.getElem?_eq_some_iff.1 hu).1
      rw [hnewsl] at hj
      have hdm : j = j / k * k + j % k := by rw [Nat.mul_comm]; exact (Nat.div_add_mod j k).symm
      have hq : j / k < news.length := (Nat.div_lt_iff_lt_mul hk).2 hj
      have hm := Nat.mod_lt j hk
      rw [add_off, hdm, ← Nat.add_assoc, hc (j / k) hq (j % k) hm]
      rw [hdm, flatten_at hnk _ _ hq hm] at hu
      rw [List.getD_eq_getElem?_getD, hu]; rfl
    rcases hrow.2 with ⟨rfl, hx0⟩ | ⟨g, cap, cur, rfl, hbg, hg, hnc, hcm, hcs, htake⟩
    · obtain rfl : xs = [] := List.length_eq_zero_iff.1 hx0
      obtain ⟨v', w', hr, ho, hgr, -⟩ := run_append_own (P := P) w w.heap.size t ty E i0 z k bytes ht hi hz0 hz1 hz2 hz hk (.slice none 0 0) 0 [] (World.ownsRow_nil _ _ _ _) ⟨b, off, none⟩ news.length cx news.flatten hnewsl hnews h1 (by simpa using hl1) (by simpa using hl2) (Nat.le_refl _)
      have hkk := ho.lt
      refine ⟨v', w', hr, ⟨⟨by simpa using hnewsl, ?_⟩, hlen', hall⟩, hgr, fun q hq => .inr (hkk q hq).1⟩
      simp only [Nat.zero_add, List.nil_append] at ho
      rcases ho.2 with ⟨h1, h2⟩ | ⟨g, cap, cur, h1, h2, h3⟩
      · exact .inl ⟨h1, by simpa using h2⟩
      · exact .inr ⟨g, cap, cur, h1, by omega, by simpa using h3⟩
    · by_cases hroom : xs.length + news.length ≤ cap
      · obtain ⟨w', hr, ho, hgr⟩ := run_append_fits (P := P) w B t ty E i0 k ht hi hz1 g xs.length cap xs.flatten ⟨hrow.1, .inr ⟨g, cap, cur, rfl, hbg, hg, hnc, hcm, hcs, htake⟩⟩ ⟨b, off, none⟩ news.length cx news.flatten hnewsl hnews h1 hroom
        exact ⟨_, w', hr, ⟨by rw [List.length_append, List.flatten_append]; exact ho, hlen', hall⟩, hgr, fun k hk => .inl hk⟩
      · have holds : ∀ j u, xs.flatten[j]? = some u → w.cell? ((⟨g, 0, none⟩ : Addr).add j) = some u := World.ownsRow.cells (g := g) hrow rfl
        have hxl : xs.flatten.length = xs.length * k := flatten_len hxk
        have hr := run_append_grow (P := P) w t ty E i0 z ht hi hz0 ⟨g, 0, none⟩ xs.length cap xs.flatten (by rw [hz1]; exact hxl) holds ⟨b, off, none⟩ news.length cx news.flatten (by rw [hz1]; exact hnewsl) hnews (by omega) (by omega) (growslice_fits (by omega) (by rw [hz2]; exact hl2))
        have hge := grownCap_ge w (xs.length + news.length) cap E
        have hcm' : grownCap w (xs.length + news.length) cap E ≤ maxLen := grownCap_le_maxLen w _ cap E hl1
        refine ⟨_, _, hr, ⟨⟨by rw [List.length_append, List.flatten_append, List.length_append, hxl, hnewsl, Nat.add_mul], .inr ⟨w.heap.size, _, _, by rw [List.length_append], hB, heap_alloc_new w.drew _, by rw [List.length_append]; exact hge, hcm', ?_, ?_⟩⟩, hlen', hall⟩, ⟨rfl, rfl, rfl, by simp, fun k hk _ => Below.heap_alloc w.drew _ k hk⟩, fun k hk => .inr (by simp [Value.ownBlock] at hk; omega)⟩
        · simp only [Array.size_append, List.size_toArray, size_zeroCells, hz, hxl, hnewsl, ← Nat.add_mul]
          congr 1; omega
        · simp only [Array.toList_append, List.append_assoc, List.length_append, List.flatten_append]
          rw [← List.append_assoc, Nat.add_mul, ← hxl, ← hnewsl, ← List.length_append]
          exact List.take_left
theorem wpList_appK {P : Program} {ops : Array Oper} {rest : List Oper} {o : Oper} {a : Act} {w : World} {Q : Exit → Act → World → Prop} (k : Nat) (hgd : o.guard = none) (s x : Operand) (t : TypeId)
    (ho : o.op = .call { callee := .builtin .append, args := #[s, x], argTypes := #[t, t] })
    (B E : TypeId) (z : Value) (bytes : Nat) (ht : P.underlying t = some (.slice E)) (hinf : (P.info? E).map (fun i => (i.zero, i.size, i.bytes)) = some (some z, k, bytes)) (hz : z.cells.size = k) (hk : 0 < k) (hby : bytes ≤ 64)
    (v : Value) (xs : List (List Value)) (hs : a.eval s = v) (hown : OwnK k w B E v xs) (xv : Value) (news : List (List Value)) (hxe : a.eval x = xv) (hx : SlK k w xv news) (hnk : ∀ x ∈ news, x.length = k) (h1 : ∀ u ∈ news.flatten, u.oneCell' = true) (hlen : xs.length + news.length ≤ 1000000000) (hB : B ≤ w.heap.size)
    (h : ∀ v' w', OwnK k w' B E v' (xs ++ news) → w.grownBy w' v.ownBlock → (∀ q, v'.ownBlock = some q → v.ownBlock = some q ∨ w.heap.size ≤ q) → wpList P ops Q rest (a.put o.dst v') w') : wpList P ops Q (o :: rest) a w := by
  obtain ⟨v', w', hr, h2, h3, h4⟩ := run_appK (P := P) w B t o.type E z bytes ht hinf hz hk hby v xs hown xv news hx hnk h1 hlen hB
  refine wpList_plain hgd fun K hK => ?_
  unfold Oper.wp execOp
  simp only [ho, resolve, invoke, builtin, Sem.run_bind, Sem.run_pure, Result.andThen_ok, List.map_toArray, List.map_cons, List.map_nil, hs, hxe, hr]
  exact hK _ _ (h v' w' h2 h3 h4)
/-- a block that has just been laid, as a slice of k-cell elements -/
theorem slK_lit (k : Nat) (w : World) (c : Array Value) (E : TypeId) (l : List (List Value)) (hl : c.toList = l.flatten) (hk : ∀ x ∈ l, x.length = k) (hc : l.length ≤ 4294967296) : SlK k (w.alloc (.cells c E)) (.slice (some ⟨w.heap.size, 0, none⟩) l.length l.length) l := by
  refine ⟨some ⟨w.heap.size, 0, none⟩, l.length, w.heap.size, 0, rfl, ⟨fun _ => rfl, Nat.le_refl _, by simp only [maxLen]; omega, by omega, fun _ => by simp⟩, fun i hi x hx => ?_⟩
  rw [Nat.zero_add, World.cell?_alloc_new, ← Array.getElem?_toList, hl, flatten_at hk i x hi hx]
  have hxl : x < (l.getD i []).length := by rw [hk _ (by simp [List.getD, hi])]; exact hx
  generalize l.getD i [] = y at *
  simp [List.getD, hxl]
end Go.Cm

/- The walks of what finds the ops of a text. Conditions: the places lie in the text. -/
namespace Go.Cm
open Go.RowKit Go.Proofs

def bys (s : ByteArray) : Byts := s.data.toList
theorem bys_len (s : ByteArray) : (bys s).length = s.size := by simp [bys]
theorem index_by {P : Program} (T : TypeId) (hT : P.underlying T = some .string) {s : ByteArray} {i : Nat} (h : i < s.size) (W : World) : (Instr.index T (.string s) (.int .i64 i)).run P W = .ok (.int .u8 (((bys s).getD i 0).toNat : Nat)) W := by
  rw [run_index_string W T s .i64 i hT, dif_pos ⟨by omega, by omega⟩]
  have : (bys s).getD i 0 = s[i] := by
    have hl : i < (bys s).length := by rw [bys_len]; exact h
    rw [List.getD_eq_getElem?_getD, List.getElem?_eq_getElem hl]
    rfl
  rw [this]
  rfl
theorem byte_ne {a b : UInt8} (h : a ≠ b) : ((a.toNat : Int) == (b.toNat : Int)) = false := by
  have : a.toNat ≠ b.toNat := fun e => h (UInt8.toNat_inj.1 e)
  have h2 : (a.toNat : Int) ≠ (b.toNat : Int) := by omega
  simpa using h2
theorem results_cell {P : Program} {fn : Func} {tmps : Array Value} {w : World} {a t : Nat} {ad : Addr} {v : Value} (hf : fn.results = #[.cell a t]) (ha : tmps.getD a undef = .pointer (some ad)) (hl : (loadVar t ad).run P w = .ok v w) :
    (results fn tmps).run P w = .ok v w := by
  have ha' : tmps[a]?.getD undef = .pointer (some ad) := by simpa using ha
  simp [results, hf, asAddr, ha', hl]
theorem ret_cell {P : Program} {fn : Func} {tmps : Array Value} {w : World} {ds : List Deferred} {s t : Nat} {ad : Addr} {x : Value} {R : Ending → World → Prop} (hf : fn.results = #[.cell s t]) (ha : tmps.getD s undef = .pointer (some ad)) (hd : ds = [])
    (hl : (loadVar t ad).run P w = .ok x w) (h : R (.returned x) w) : bodyPost P fn R .ret ⟨tmps, ds⟩ w :=
  bodyPost_ret (v := x) (results_cell hf ha hl) hd h
theorem own_load {P : Program} {w : World} {B T g n : Nat} {xs : List Value} (h : Own w B T (.slice (some ⟨g, 0, none⟩) n n) xs) (d : TypeDesc) (hu : P.underlying T = some d) (hd : (match d with | .struct _ | .array _ _ => true | _ => false) = true) (hi : (P.info? T).map (·.size) = some n) :
    (loadVar T ⟨g, 0, none⟩).run P w = .ok (.agg xs.toArray) w := by
  obtain ⟨A, hg, hs, hA⟩ := h.whole
  have hl := run_loadVar_sub (P := P) w g 0 n T T A (0, 0) d hg hu hd hi (by omega)
  have e : A.extract 0 (0 + n) = xs.toArray := by rw [Nat.zero_add, ← hs, Array.extract_size, ← hA]
  rw [e] at hl
  exact hl
set_option maxRecDepth 100000 in
theorem runPk (s : ByteArray) (a d : Nat) (hs : s.size ≤ 4294967296) (ha : a ≤ s.size) (hd1 : 1 ≤ d) (hd : d ≤ a) (w : World) :
    Calls Try.prog 83 #[.string s, .int .i64 a, .int .i64 d] w fun e w' => e = .returned (.int .i64 (runN' (bys s) a d : Nat)) ∧ ∃ x, w' = ext w x := by
  have HIX := Lib.hid (fun (i : Nat) (h : i < s.size) (W : World) => index_by (P := Try.prog) 9 Try.underlying9 h W)
  have HL := Lib.hid (bys_len s)
  obtain ⟨R, hR⟩ : ∃ R, R = runN' (bys s) a d := ⟨_, rfl⟩
  rw [← hR]
  have HR := Lib.hid hR
  clear hR
  generalize bys s = t at *
  go_enter Try.func83, Try.ntmps83
  go_wp2
  go_loopg [7] 259 (fun gk nv wr => ∃ k : Nat, nv = .int .i64 k ∧ k ≤ 258 ∧ Hid (runFr t a d (259 - k) k = R) ∧ Below w.heap.size w wr ∧ gk = 259 - k)
  case atStart => exact ⟨0, rfl, by omega, Lib.hid (by rw [HR.out]; rfl), Below.refl _ _, rfl⟩
  case round =>
    obtain ⟨k, rfl, hk, HRR, hbel, rfl⟩ := hrel
    obtain ⟨f, hf⟩ : ∃ f, 259 - k = f + 1 := ⟨258 - k, by omega⟩
    have hf2 : 259 - (k + 1) = f := by omega
    have HF2 := Lib.hid hf2
    have HRS : Hid ((if k < 258 ∧ a + k < t.length ∧ t.getD (a + k - d) 0 = t.getD (a + k) 0 then runFr t a d f (k + 1) else k) = R) := Lib.hid (by have h := HRR.out; rw [hf] at h; exact h)
    have HEND : Hid (¬ (k < 258 ∧ a + k < s.size ∧ t.getD (a + k - d) 0 = t.getD (a + k) 0) → k = R) := Lib.hid (fun h => by have h2 := HRS.out; rw [HL.out, if_neg h] at h2; exact h2)
    clear hf hf2
    by_cases h1 : k < 258
    · have h1i : (k : Int) < 258 := by omega
      by_cases h2 : a + k < s.size
      · have hi1 := HIX.out (a + k) h2
        have hi2 := HIX.out (a + k - d) (by omega)
        have e1 : ((a + k : Nat) : Int) = (a : Int) + k := by omega
        have e2 : ((a + k - d : Nat) : Int) = (a : Int) + k - d := by omega
        rw [e1] at hi1
        rw [e2] at hi2
        have h2i : (a : Int) + (k : Int) < (s.size : Int) := by omega
        by_cases h3 : t.getD (a + k - d) 0 = t.getD (a + k) 0
        · have HRT : Hid (runFr t a d f (k + 1) = R) := Lib.hid (by rw [← HRS.out, if_pos ⟨h1, by rw [HL.out]; exact h2, h3⟩])
          rw [h3] at hi2
          generalize (t.getD (a + k) 0).toNat = y at *
          clear h3 HRS HEND
          go_wp2
          go_quiet (fail)
          go_wp2
          go_roundg (259 - (k + 1))
          case measure => omega
          case rel => exact ⟨k + 1, rfl, by omega, Lib.hid (by rw [HF2.out]; exact HRT.out), b_drewN hbel _, rfl⟩
        · have hne := byte_ne h3
          have HK := Lib.hid (HEND.out (fun h => h3 h.2.2))
          generalize (t.getD (a + k) 0).toNat = y at *
          generalize (t.getD (a + k - d) 0).toNat = z at *
          clear h3 HRS HEND
          go_wp2
          go_quiet (fail)
          go_wp2
          go_ret
          exact ⟨by rw [HK.out]; rfl, ex_ext (b_drewN hbel _)⟩
      · have h2i : decide ((a : Int) + (k : Int) < (s.size : Int)) = false := by rw [decide_eq_false_iff_not]; omega
        have HK := Lib.hid (HEND.out (fun h => h2 h.2.1))
        go_wp2
        go_quiet (fail)
        go_wp2
        go_ret
        exact ⟨by rw [HK.out]; rfl, ex_ext (b_drewN hbel _)⟩
    · have h1i : decide ((k : Int) < 258) = false := by rw [decide_eq_false_iff_not]; omega
      have HK := Lib.hid (HEND.out (fun h => h1 h.1))
      by_cases h2 : a + k < s.size
      · have h2i : (a : Int) + (k : Int) < (s.size : Int) := by omega
        go_wp2
        go_quiet (fail)
        go_wp2
        go_ret
        exact ⟨by rw [HK.out]; rfl, ex_ext (b_drewN hbel _)⟩
      · have h2i : decide ((a : Int) + (k : Int) < (s.size : Int)) = false := by rw [decide_eq_false_iff_not]; omega
        go_wp2
        go_quiet (fail)
        go_wp2
        go_ret
        exact ⟨by rw [HK.out]; rfl, ex_ext (b_drewN hbel _)⟩
end Go.Cm

/- A machine that inflates, step by step, in plain Lean. Conditions: as each says. -/
namespace Go.Cm

/-- a length symbol's base and further bits; a distance symbol's -/
def lenB (s : Nat) : Nat × Nat × Bool := if s = 285 then (258, 0, true) else if 257 ≤ s ∧ s < 285 then (spBase 3 4 (s - 257), spB 4 (s - 257), true) else (0, 0, false)
def dstB (s : Nat) : Nat × Nat × Bool := if s < 30 then (spBase 1 2 s, spB 2 s, true) else (0, 0, false)
/-- where a machine stands: its mode (0 at a head, 1 stored, 2 coded, 3 at the end), the block's own words, the reader's place, the text with what is ahead of it, the blocks' beginnings -/
structure IS where
  md : Nat
  fin : Bool
  left : Nat
  li : List Nat
  di : List Nat
  p : Nat
  h : Byts
  st : List (Nat × Nat)
def closeI (z : IS) : IS := { z with md := if z.fin then 3 else 0 }
def numB (N T p : Nat) (y : Nat × Nat × Bool) : Nat × Nat × Nat := if y.2.2 = false then (0, 9, p) else (y.1 + (bitsA N T p y.2.1).1, (bitsA N T p y.2.1).2.1, (bitsA N T p y.2.1).2.2)
noncomputable def headI (N T pre : Nat) (z : IS) : Nat × IS :=
  if (headF N T z.p).2.1 ≠ 0 then ((headF N T z.p).2.1, z)
  else (0, ⟨if (headF N T z.p).1.kind = 0 then 1 else 2, (headF N T z.p).1.fin, (headF N T z.p).1.size, (headF N T z.p).1.lits, (headF N T z.p).1.dists, (headF N T z.p).2.2, z.h, z.st ++ [(z.p, z.h.length - pre)]⟩)
def storI (T : Nat) (bs : Byts) (z : IS) : Nat × IS :=
  if z.left = 0 then (0, closeI z) else if min z.left ((T - z.p) / 8) = 0 then (2, z)
  else (0, { z with left := z.left - min z.left ((T - z.p) / 8), p := z.p + 8 * min z.left ((T - z.p) / 8), h := z.h ++ (bs.drop (z.p / 8)).take (min z.left ((T - z.p) / 8)) })
def cpyI3 (z : IS) (n : Nat) (y : Nat × Nat × Nat) : Nat × IS :=
  if y.2.1 ≠ 0 then (y.2.1, z) else if min z.h.length 32768 < y.1 then (10, z) else (0, { z with p := y.2.2, h := copyN z.h y.1 n })
noncomputable def cpyI2 (N T : Nat) (z : IS) (n p : Nat) : Nat × IS :=
  if (readF z.di (N / 2 ^ p) (T - p)).2.1 ≠ 0 then ((readF z.di (N / 2 ^ p) (T - p)).2.1, z)
  else cpyI3 z n (numB N T (p + (readF z.di (N / 2 ^ p) (T - p)).2.2) (dstB (readF z.di (N / 2 ^ p) (T - p)).1))
noncomputable def cpyI (N T : Nat) (z : IS) (s p : Nat) : Nat × IS :=
  if (numB N T p (lenB s)).2.1 ≠ 0 then ((numB N T p (lenB s)).2.1, z) else cpyI2 N T z (numB N T p (lenB s)).1 (numB N T p (lenB s)).2.2
noncomputable def codI2 (N T : Nat) (z : IS) (r : Nat × Nat × Nat) : Nat × IS :=
  if r.2.1 ≠ 0 then (r.2.1, z) else if r.1 = 256 then (0, closeI { z with p := z.p + r.2.2 })
  else if 256 < r.1 then cpyI N T z r.1 (z.p + r.2.2)
  else (0, { z with p := z.p + r.2.2, h := z.h ++ [UInt8.ofNat r.1] })
noncomputable def codI (N T : Nat) (z : IS) : Nat × IS := codI2 N T z (readF z.li (N / 2 ^ z.p) (T - z.p))
/-- a step -/
noncomputable def stI (N T pre : Nat) (bs : Byts) (z : IS) : Nat × IS :=
  if z.md = 0 then headI N T pre z else if z.md = 1 then storI T bs z else if z.md = 2 then codI N T z else (0, z)
/-- no more is made than a text may have -/
def bigI (pre : Nat) (y : Nat × IS) : Nat × IS :=
  if y.1 ≠ 0 then y else if 16777216 < y.2.h.length - pre then (3, { y.2 with h := y.2.h.take (pre + 16777216) }) else y
noncomputable def playI (N T pre : Nat) (bs : Byts) (z0 : IS) : Nat → Nat × IS
  | 0 => (0, z0)
  | k + 1 => if (playI N T pre bs z0 k).1 ≠ 0 ∨ (playI N T pre bs z0 k).2.md = 3 then playI N T pre bs z0 k else bigI pre (stI N T pre bs (playI N T pre bs z0 k).2)
/-- what a machine keeps, where nothing is wrong -/
structure IOk (T pre : Nat) (z : IS) : Prop where
  p : z.p ≤ T
  md : z.md ≤ 3
  al : z.md = 1 → z.p % 8 = 0
  left : z.left ≤ 65535
  li : errI (nls z.li) = 0 ∨ z.md ≠ 2
  di : errI (nls z.di) = 0 ∨ z.md ≠ 2
  hpre : pre ≤ z.h.length
  big : z.h.length - pre ≤ 16777216
theorem bitsA_ok {N T p n : Nat} (h : (bitsA N T p n).2.1 = 0) : (bitsA N T p n).2.2 = p + n ∧ p + n ≤ T := by
  unfold bitsA at h ⊢
  split at h
  · rename_i hc
    rw [if_pos hc]; exact ⟨rfl, hc⟩
  · cases h
theorem storedN_al {N T p : Nat} (h : (storedN N T (0, p)).2.1 = 0) : (storedN N T (0, p)).2.2 % 8 = 0 := by
  have ha : alignN p % 8 = 0 := by unfold alignN; omega
  unfold storedN xb xf at h ⊢
  simp only at h ⊢
  generalize alignN p = q at *
  simp only [if_true] at h ⊢
  by_cases h1 : (bitsA N T q 16).2.1 = 0
  · obtain ⟨e1, -⟩ := bitsA_ok h1
    simp only [h1, if_true] at h ⊢
    by_cases h2 : (bitsA N T (bitsA N T q 16).2.2 16).2.1 = 0
    · obtain ⟨e2, -⟩ := bitsA_ok h2
      split at h
      · rename_i hc
        rw [if_pos hc]
        rw [e2, e1]; omega
      · exact absurd h (by simp)
    · split at h
      · exact absurd h h2
      · simp [h2] at h
  · simp only [h1, if_false] at h
    split at h
    · exact absurd h h1
    · exact absurd h h1
theorem head_kinds {N T p : Nat} (h : (headF N T p).2.1 = 0) :
    ((headF N T p).1.kind = 0 ∧ (headF N T p).2.2 % 8 = 0) ∨ ((headF N T p).1.kind = 1 ∧ (headF N T p).1.lits = fixL ∧ (headF N T p).1.dists = fixD) ∨ (headF N T p).1.kind = 2 := by
  unfold headF at h ⊢
  generalize decide ((xb N T 1 (0, p)).1 = 1) = fin at *
  generalize (xb N T 2 (xb N T 1 (0, p)).2).1 = k at *
  generalize (xb N T 2 (xb N T 1 (0, p)).2).2 = st at *
  unfold kindN at h ⊢
  by_cases h0 : st.1 ≠ 0
  · rw [if_pos h0] at h; exact absurd h h0
  rw [if_neg h0] at h ⊢
  obtain ⟨a, b⟩ := st
  obtain rfl : a = 0 := by simpa using h0
  by_cases k0 : k = 0
  · rw [if_pos k0] at h ⊢
    by_cases h1 : (storedN N T (0, b)).2.1 ≠ 0
    · rw [if_pos h1] at h; exact absurd h h1
    · rw [if_neg h1]
      exact .inl ⟨rfl, storedN_al (by simpa using h1)⟩
  rw [if_neg k0] at h ⊢
  by_cases k1 : k = 1
  · rw [if_pos k1]; exact .inr (.inl ⟨rfl, rfl, rfl⟩)
  rw [if_neg k1] at h ⊢
  by_cases k2 : k = 2
  · rw [if_pos k2] at h ⊢
    by_cases h1 : (dynN N T (0, b)).2.2.1 ≠ 0
    · rw [if_pos h1] at h; exact absurd h h1
    · rw [if_neg h1]; exact .inr (.inr rfl)
  · rw [if_neg k2] at h; cases h
theorem fixL_err : errI (nls fixL) = 0 := by decide +kernel
theorem fixD_err : errI (nls fixD) = 0 := by decide +kernel
theorem fitsE_err {l : List Int} {b : Bool} (h : fitsE l b = 0) : errI l = 0 := by
  unfold fitsE at h
  by_cases h1 : errI l ≠ 0
  · rw [if_pos h1] at h; exact absurd h h1
  · simpa using h1
theorem head_err {N T p : Nat} (h8 : 8 ∣ T) (hp : p ≤ T) (h : (headF N T p).2.1 = 0) : (headF N T p).1.kind ≠ 0 → errI (nls (headF N T p).1.lits) = 0 ∧ errI (nls (headF N T p).1.dists) = 0 := by
  intro hk
  obtain ⟨-, -, hm⟩ := headF_ok h8 hp h
  rcases head_kinds h with ⟨h0, -⟩ | ⟨h1, h2, h3⟩ | h2
  · exact absurd h0 hk
  · rw [h2, h3]; exact ⟨fixL_err, fixD_err⟩
  · rw [h2] at hm
    change mayI 2 _ _ _ = 0 at hm
    unfold mayI at hm
    rw [if_neg (by decide), if_neg (by decide), if_pos rfl] at hm
    split at hm
    · cases hm
    · unfold fits2I at hm
      split at hm
      · cases hm
      · split at hm
        · rename_i h4; exact absurd hm h4
        · rename_i h4
          exact ⟨fitsE_err (by simpa using h4), fitsE_err hm⟩
theorem head_size {N T p : Nat} (h8 : 8 ∣ T) (hp : p ≤ T) (h : (headF N T p).2.1 = 0) : (headF N T p).1.size ≤ 65535 := by
  obtain ⟨-, -, hm⟩ := headF_ok h8 hp h
  rcases head_kinds h with ⟨h0, -⟩ | ⟨h1, -⟩ | h2
  · rw [h0] at hm
    change mayI 0 _ _ _ = 0 at hm
    unfold mayI at hm
    rw [if_pos rfl] at hm
    split at hm
    · cases hm
    · omega
  · unfold headF kindN at h1 ⊢
    split
    · exact Nat.zero_le _
    · rename_i h0
      rw [if_neg h0] at h1
      split
      · rename_i k0
        rw [if_pos k0] at h1
        split
        · exact Nat.zero_le _
        · rename_i hs; rw [if_neg hs] at h1; cases h1
      · split
        · exact Nat.zero_le _
        · split
          · split <;> exact Nat.zero_le _
          · exact Nat.zero_le _
  · unfold headF kindN at h2 ⊢
    split
    · exact Nat.zero_le _
    · rename_i h0
      rw [if_neg h0] at h2
      split
      · rename_i k0
        rw [if_pos k0] at h2
        split
        · exact Nat.zero_le _
        · rename_i hs; rw [if_neg hs] at h2; cases h2
      · split
        · exact Nat.zero_le _
        · split
          · split <;> exact Nat.zero_le _
          · exact Nat.zero_le _
end Go.Cm
