/- Texts of this claim, joined: walks of small functions and plain facts about them. Conditions: as each says. -/
import Derived.Test.YticlfmakdblbkaaGF
import Derived.Test.YticlfmakdblbkaaGC
import Derived.Deep.CutBlock
import Derived.Deep.CutRange
import Derived.Deep.LoopGhost
/- The walk of the document's row of lengths. Conditions: the reader is there, the code is right. -/
namespace Go.Cm
open Go.RowKit Go.Proofs

theorem grown_far {w w1 w2 : World} {row row' : Option Nat} (h : w.grownBy w1 row) (hg : w1.grownBy w2 row') (hr : ∀ k, row' = some k → w.heap.size ≤ k) : w.grownBy w2 row :=
  ⟨hg.os.trans h.os, hg.tape.trans h.tape, hg.output.trans h.output, Nat.le_trans h.size hg.size, fun k hk hne => by rw [hg.block k (Nat.lt_of_lt_of_le hk h.size) (fun e => by have := hr k e.symm; omega), h.block k hk hne]⟩
def nbOf (a : Nat) : Nat := if a = 16 then 2 else if a = 17 then 3 else 7
def nlOf (a : Nat) : Nat := if a = 18 then 11 else 3
def nvOf (a : Nat) (l : List Nat) : Nat := if a = 16 then l.getD (l.length - 1) 0 else 0
theorem nbOf_le (a : Nat) : nbOf a ≤ 7 := by
  unfold nbOf
  split
  · omega
  · split <;> omega
theorem nlOf_le (a : Nat) : 3 ≤ nlOf a ∧ nlOf a ≤ 11 := by
  unfold nlOf
  split <;> omega
theorem repN_eq {N T a : Nat} {l : List Nat} {p : Nat} (ha : a = 16 ∨ a = 17 ∨ a = 18) (h : ¬ (a = 16 ∧ l = [])) :
    repN N T a l (0, p) = (nlOf a + (bitsA N T p (nbOf a)).1, nvOf a l, (bitsA N T p (nbOf a)).2.1, (bitsA N T p (nbOf a)).2.2) := by
  rcases ha with rfl | rfl | rfl
  · have hl : l ≠ [] := fun e => h ⟨rfl, e⟩
    unfold repN; rw [if_neg (by decide), if_pos rfl, if_neg hl]; rfl
  · rfl
  · rfl
theorem bitsA_err {N T p n : Nat} : (bitsA N T p n).2.1 ≤ 64 := by unfold bitsA; split <;> simp
theorem bitsA_lt {N T p n : Nat} : (bitsA N T p n).1 < 2 ^ n := by
  unfold bitsA; split
  · exact Nat.mod_lt _ (Nat.two_pow_pos n)
  · exact Nat.two_pow_pos n
/-- what the document's row answers -/
def RetRowR (R : List Nat × (Nat × Nat)) (s : ByteArray) (g : Nat) (w : World) (e : Ending) (w' : World) : Prop :=
  ∃ v' p', e = .returned (.tuple #[v', .int .i64 (R.2.1 : Nat)]) ∧ (R.2.1 = 0 → Own w' w.heap.size 3 v' (ints (nls R.1)) ∧ p' = R.2.2) ∧ BoxT w' g s p' ∧ p' ≤ 8 * s.size ∧ w.grownBy w' (some g)

set_option maxRecDepth 100000 in
set_option maxHeartbeats 4000000 in
theorem rowRR {w : World} {B g p n : Nat} {s : ByteArray} {v : Value} {L : List Nat} (h : BoxT w g s p) (hv : Own w B 3 v (ints (nls L))) (hB : g < B) (hL : errI (nls L) = 0) (hl19 : L.length ≤ 19) (hn : n ≤ 1000) (hs : s.size ≤ 4294967296) (hp : p ≤ 8 * s.size) :
    Calls Try.prog 76 #[.pointer (some ⟨g, 0, none⟩), v, .int .i64 n] w (RetRowR (rowN (numS s) (8 * s.size) L n (n + 1) [] (0, p)) s g w) := by
  obtain ⟨L', hL', hlen, h15, hk⟩ := errI_list hL
  have hLL' : L' = L := by
    have := congrArg (List.map Int.toNat) hL'
    rw [nls_toNat, nls_toNat] at this
    exact this.symm
  subst hLL'
  clear hL' hL
  have HH := Lib.hid h
  have hgw := h.lt
  have HRD : Hid (∀ W p, w.grownBy W (some g) → BoxT W g s p → p ≤ 8 * s.size → Calls Try.prog 85 #[.pointer (some ⟨g, 0, none⟩), v] W fun e w' => e = .returned (.tuple #[.int .i64 ((readF L' (numS s / 2 ^ p) (8 * s.size - p)).1 : Nat), .int .i64 ((readF L' (numS s / 2 ^ p) (8 * s.size - p)).2.1 : Nat)]) ∧ BoxT w' g s (p + (readF L' (numS s / 2 ^ p) (8 * s.size - p)).2.2) ∧ W.grownBy w' (some g)) := Lib.hid (fun W p hg hb hp => (readR0 v L' (show IntsAt W v (nls L') from (hv.keep hg (ne_of_row (fun k hk e => by have := (hv.lt k hk).1; injection e with e; omega))).sl) (Below.refl _ _) hb hlen h15 hk hs hp).mono fun e w' ⟨a, er, d, he, hr, hb, hg⟩ => by
    have := readF_of hr
    rw [this]
    exact ⟨he, hb, hg⟩)
  have HBT : Hid (∀ (W : World) (p n : Nat), n ≤ 32 → BoxT W g s p → p ≤ 8 * s.size → Calls Try.prog 58 #[.pointer (some ⟨g, 0, none⟩), .int .i64 n] W (RetBits BoxT s p n g W)) := Lib.hid (fun W p n hn hb hp => bitsT hb hs n hn hp)
  obtain ⟨R, hR⟩ : ∃ R, R = rowN (numS s) (8 * s.size) L' n (n + 1) [] (0, p) := ⟨_, rfl⟩
  rw [← hR]
  have HR := Lib.hid hR.symm
  have HSTOP := Lib.hid (rowN_stop (numS s) (8 * s.size) L' n)
  have HSTEP := Lib.hid (rowN_step (numS s) (8 * s.size) L' n)
  obtain ⟨oc, cc, gc, hvc, -⟩ := hv.cases
  generalize (ints (nls L')).length = nL at hvc
  subst hvc
  clear hR h hv h15 hk hlen
  unfold RetRowR
  go_enter Try.func76, Try.ntmps76
  go_wp2
  go_loopg [8] (n + 1) (fun gk r wr => ∃ l p, Own wr w.heap.size 3 r (ints (nls l)) ∧ BoxT wr g s p ∧ p ≤ 8 * s.size ∧ w.grownBy wr (some g) ∧ Hid (rowN (numS s) (8 * s.size) L' n gk l (0, p) = R) ∧ l.length ≤ n ∧ n - l.length < gk)
  case atStart => exact ⟨[], p, Own.nil _ _ _, HH.out, hp, grown_refl _ _, HR, Nat.zero_le _, by simp⟩
  case round =>
    obtain ⟨l, p, ho, hbx, hple, hgr, HRN, hll, hf⟩ := hrel
    have HO := Lib.hid ho
    have HX := Lib.hid hbx
    have HG := Lib.hid hgr
    have hsz := hgr.size
    have hlen : (ints (nls l)).length = l.length := by simp [ints, nls]
    obtain ⟨oa, cap, b, hv, hd, -, hc, -, -⟩ := ho.cases
    rw [hlen] at hv hd hc
    subst hv
    have HLEN := Lib.hid hlen
    have HC := Lib.hid hc
    have HD := Lib.hid hd
    clear ho hbx hgr hlen hc hd
    by_cases hlt : l.length < n
    · have hlti : (l.length : Int) < (n : Int) := by omega
      obtain ⟨f, rfl⟩ : ∃ f, gk = f + 1 := ⟨gk - 1, by omega⟩
      have HE := Lib.hid (HSTEP.out f l p hlt)
      rw [HRN.out] at HE
      have hcall := HRD.out wr p HG.out HX.out hple
      have hfa := readF_facts L' (numS s / 2 ^ p) (8 * s.size - p)
      generalize readF L' (numS s / 2 ^ p) (8 * s.size - p) = rd at *
      obtain ⟨a, er, d⟩ := rd
      obtain ⟨hf1, hf2, hf3, hf4⟩ := hfa
      have HCALL := Lib.hid hcall
      have hpd : p + d ≤ 8 * s.size := by simp at hf2 hple; omega
      clear hcall HRN HSTEP HSTOP hf2
      by_cases hz : er = 0
      · subst hz
        have haL := hf4 rfl
        simp at haL
        clear hf1 hf3 hf4
        by_cases ha : a < 16
        · have hai : (a : Int) < 16 := by omega
          have HST2 : Hid (R = rowN (numS s) (8 * s.size) L' n f (l ++ [a]) (0, p + d)) := Lib.hid (by rw [HE.out]; unfold rowStep; rw [if_neg (by simp), if_pos ha])
          have HAPP : Hid (ints (nls (l ++ [a])) = ints (nls l) ++ ints (nls [a])) := Lib.hid (by simp [ints, nls])
          clear ha HE
          have HLL : Hid ((ints (nls l)).length + 1 ≤ 4294967296) := Lib.hid (by rw [HLEN.out]; omega)
          go_wp2_with (first | (go_at_call 85; (with_reducible refine HCALL.out.mono ?_); rintro e w4 ⟨rfl, hb1, hb2⟩; (have HX4 := Lib.hid hb1; have HG4 := Lib.hid (grown_trans HG.out hb2); have hs4 := hb2.size; have HO4 := Lib.hid (HO.out.keep hb2 (ne_of_row (fun k hk e => by have := (HO.out.lt k hk).1; injection e with e; omega))); clear hb1 hb2)) | (at_builtin; refine wpList_app rfl (.tmp 31) (.tmp 33) 31 rfl w.heap.size 3 (.int .i64 0) 8 Try.underlying31 (by kernel_rfl) rfl (by decide) (.slice oa l.length cap) (ints (nls l)) rfl (HO4.out.up (below_alloc _ _)) (.slice (some ⟨w4.heap.size, 0, none⟩) 1 1) (ints (nls [a])) rfl (by simpa [ints, nls] using sl_lit w4 #[.int .i64 (a : Int)] 3 (by simp)) (ints_cell _) (by have := HLL.out; simpa [ints, nls] using this) (Nat.le_trans hsz (Nat.le_trans hs4 (by simp))) ?_; intro v' w5 hown1 hg1 hk1; (have HO5 := Lib.hid hown1; have HG5 := Lib.hid hg1; clear hown1 hg1 hk1)))
          go_roundg f
          case measure => omega
          case rel =>
            have hr2 : (Value.slice oa l.length cap).ownBlock ≠ some g := fun e => by have := (HO4.out.lt g e).1; omega
            exact ⟨l ++ [a], p + d, by rw [HAPP.out]; exact HO5.out, (HX4.out.up (below_alloc w4 _)).stay HG5.out hr2, hpd, grown_far (grown_trans HG4.out (grown_below (below_alloc w4 _) _)) HG5.out (fun k hk => (HO4.out.lt k hk).1), Lib.hid HST2.out.symm, by simp; omega, by simp; omega⟩
        · have hai : ¬ (a : Int) < 16 := by omega
          have hsym : a = 16 ∨ a = 17 ∨ a = 18 := by omega
          have HST2 : Hid (R = if n < l.length + (repN (numS s) (8 * s.size) a l (0, p + d)).1 then ([], xf 3 (repN (numS s) (8 * s.size) a l (0, p + d)).2.2) else rowN (numS s) (8 * s.size) L' n f (l ++ List.replicate (repN (numS s) (8 * s.size) a l (0, p + d)).1 (repN (numS s) (8 * s.size) a l (0, p + d)).2.1) (repN (numS s) (8 * s.size) a l (0, p + d)).2.2) := Lib.hid (by rw [HE.out]; unfold rowStep; rw [if_neg (by simp), if_neg ha])
          clear ha HE haL
          by_cases hsp : a = 16 ∧ l = []
          · obtain ⟨rfl, rfl⟩ := hsp
            have hr : repN (numS s) (8 * s.size) 16 [] (0, p + d) = (0, 0, 4, p + d) := rfl
            have HST3 : Hid (R.2.1 = 4) := Lib.hid (by rw [HST2.out, hr, if_neg (by simp), rowN_stop _ _ _ _ _ _ _ (fun h => by cases h.1)])
            clear hr HST2
            go_wp2_with (go_at_call 85; (with_reducible refine HCALL.out.mono ?_); rintro e w4 ⟨rfl, hb1, hb2⟩; (have HX4 := Lib.hid hb1; have HG4 := Lib.hid (grown_trans HG.out hb2); have hs4 := hb2.size; have HO4 := Lib.hid (HO.out.keep hb2 (ne_of_row (fun k hk e => by have := (HO.out.lt k hk).1; injection e with e; omega))); clear hb1 hb2))
            go_ret2
            exact ⟨_, p + d, (by rw [HST3.out]; rfl), fun h => absurd (HST3.out.symm.trans h) (by decide), HX4.out, hpd, HG4.out⟩
          · have hrep := repN_eq (N := numS s) (T := 8 * s.size) (p := p + d) hsym hsp
            rw [hrep] at HST2
            have hml := bitsA_lt (N := numS s) (T := 8 * s.size) (p := p + d) (n := nbOf a)
            have hp2 := (bitsA_le (N := numS s) (n := nbOf a) hpd).1
            have hbo := nbOf_le a
            have hlo := nlOf_le a
            have HBTC := Lib.hid (fun W h => HBT.out W (p + d) (nbOf a) (by omega) h hpd)
            unfold RetBits at HBTC
            clear hrep HBT HRD
            generalize bitsA (numS s) (8 * s.size) (p + d) (nbOf a) = r2 at *
            obtain ⟨m, e2, p2⟩ := r2
            go_upto_block 2 with (go_at_call 85; (with_reducible refine HCALL.out.mono ?_); rintro e w4 ⟨rfl, hb1, hb2⟩; (have HX4 := Lib.hid hb1; have HG4 := Lib.hid (grown_trans HG.out hb2); have hs4 := hb2.size; have HO4 := Lib.hid (HO.out.keep hb2 (ne_of_row (fun k hk e => by have := (HO.out.lt k hk).1; injection e with e; omega))); clear hb1 hb2))
            go_cut [11, 12, 13] from 16 to 77 (fun x11 x12 x13 wx => x11 = .int .i64 (nbOf a : Nat) ∧ x12 = .int .i64 (nlOf a : Nat) ∧ x13 = .int .i64 (nvOf a l : Nat) ∧ wx = w4)
            case first =>
              rcases hsym with rfl | rfl | rfl
              · have hln0 : l ≠ [] := fun e => hsp ⟨rfl, e⟩
                have hln : 0 < l.length := List.length_pos_iff.2 hln0
                obtain ⟨oa2, cap2, b2, hv2, hd2, -, hc2, -, -⟩ := HO4.out.cases
                rw [HLEN.out] at hv2 hd2 hc2
                injection hv2 with q1 q2 q3
                subst q1 q3
                have hix := index_any (P := Try.prog) 31 3 Try.underlying31 (by kernel_rfl) hd2
                have hbb := hd2.hblk hln
                have hcell := hc2 (l.length - 1) (by omega)
                rw [last_cell l hln0] at hcell
                have hm := hd2.len
                have HVO : Hid (nvOf 16 l = l.getD (l.length - 1) 0) := Lib.hid rfl
                have hpred : (l.length : Int) - 1 = ((l.length - 1 : Nat) : Int) := by omega
                have hplt : l.length - 1 < l.length := by omega
                have hl0 : ((l.length : Int) == 0) = false := by simp; omega
                clear hd2 hc2 hln0 hsp HST2 HBTC HC HD
                generalize hyy : l.getD (l.length - 1) 0 = y at *
                generalize l.length - 1 = j at *
                generalize l.length = nl at *
                go_wp2
                go_meet
                case rel => exact ⟨rfl, rfl, by rw [HVO.out], rfl⟩
              · clear HST2 HBTC hsp
                go_wp2
                go_meet
                case rel => exact ⟨rfl, rfl, rfl, rfl⟩
              · clear HST2 HBTC hsp
                go_wp2
                go_meet
                case rel => exact ⟨rfl, rfl, rfl, rfl⟩
            case rest =>
              obtain ⟨rfl, rfl, rfl, hwc⟩ := hcut
              subst hwc
              have HC5 := Lib.hid (HBTC.out _ HX4.out)
              have hszw := HG4.out.size
              clear HBTC hsp hsym HC HD
              generalize nbOf a = bo at *
              generalize nlOf a = lo at *
              generalize nvOf a l = vo at *
              have hb7 : 2 ^ bo ≤ 2 ^ 7 := Nat.pow_le_pow_right (by decide) hbo
              try simp only at hml
              have hm : m ≤ 128 := by omega
              clear hml hb7
              have hlo1 := hlo.1
              have hlo2 := hlo.2
              try simp only at hp2 HST2
              by_cases he2 : e2 = 0
              · subst he2
                by_cases hbig : n < l.length + (lo + m)
                · have hbi : (l.length : Int) + (lo : Int) + (m : Int) > (n : Int) := by omega
                  have HST3 : Hid (R = ([], (3, p2))) := Lib.hid (by rw [HST2.out]; exact if_pos hbig)
                  clear hbig HST2
                  go_wp2_with (go_at_call 58; (with_reducible refine HC5.out.mono ?_); rintro e w5 ⟨rfl, hb1, hb2⟩; (have HX5 := Lib.hid hb1; have HG5 := Lib.hid (grown_trans HG4.out hb2); clear hb1 hb2))
                  go_ret2
                  rw [HST3.out]
                  exact ⟨_, p2, rfl, (fun h => by cases h), HX5.out, hp2, HG5.out⟩
                · have hbi : ¬ (l.length : Int) + (lo : Int) + (m : Int) > (n : Int) := by omega
                  have HST3 : Hid (R = rowN (numS s) (8 * s.size) L' n f (l ++ List.replicate (lo + m) vo) (0, p2)) := Lib.hid (by rw [HST2.out]; exact if_neg hbig)
                  have HTM : Hid (∀ W, Own W w.heap.size 3 (.slice oa l.length cap) (ints (nls l)) → w.heap.size ≤ W.heap.size → Calls Try.prog 50 #[.slice oa l.length cap, .int .i64 ((lo : Int) + (m : Int)), .int .i64 (vo : Nat)] W fun e w' => ∃ v', e = .returned v' ∧ Own w' w.heap.size 3 v' (ints (nls (l ++ List.replicate (lo + m) vo))) ∧ Below w.heap.size W w') := Lib.hid (fun W ho hB => by
                    have := timesB (.slice oa l.length cap) l (lo + m) vo W w.heap.size ho hB (by omega)
                    rw [Int.natCast_add] at this
                    exact this)
                  clear HST2
                  go_wp2_with (first | (go_at_call 58; (with_reducible refine HC5.out.mono ?_); rintro e w5 ⟨rfl, hb1, hb2⟩; (have HX5 := Lib.hid hb1; have HG5 := Lib.hid (grown_trans HG4.out hb2); have HO5 := Lib.hid (HO4.out.keep hb2 (ne_of_row (fun k hk e => by have := (HO4.out.lt k hk).1; injection e with e; omega))); clear hb1 hb2)) | (go_at_call 50; (with_reducible refine (HTM.out _ HO5.out HG5.out.size).mono ?_); rintro e w6 ⟨v6, rfl, hb1, hb2⟩; (have HO6 := Lib.hid hb1; have HB6 := Lib.hid hb2; clear hb1 hb2)))
                  go_roundg f
                  case measure => omega
                  case rel =>
                    have hbelow : w.grownBy w6 (some g) := ⟨HB6.out.os.trans HG5.out.os, HB6.out.tape.trans HG5.out.tape, HB6.out.output.trans HG5.out.output, Nat.le_trans HG5.out.size HB6.out.size, fun k hk hne => by rw [HB6.out.block k hk, HG5.out.block k hk hne]⟩
                    have hbx : BoxT w6 g s p2 := ⟨HX5.out.own.of_blk (fun k hk => HB6.out.block k (by have e2 : some g = some k := hk; injection e2 with e2; omega))⟩
                    exact ⟨l ++ List.replicate (lo + m) vo, p2, HO6.out, hbx, hp2, hbelow, Lib.hid HST3.out.symm, by simp; omega, by simp; omega⟩
              · have he2i : ((e2 : Int) != 0) = true := by simpa using he2
                have HST3 : Hid (R.2.1 = e2) := Lib.hid (by
                  rw [HST2.out]
                  by_cases hbig : n < l.length + (lo + m)
                  · rw [if_pos hbig]; show (xf 3 (e2, p2)).1 = e2; rw [xf_of (by exact he2)]
                  · rw [if_neg hbig, rowN_stop _ _ _ _ _ _ _ (fun h => he2 h.1)])
                have HNE := Lib.hid he2
                clear HST2 he2
                go_wp2_with (go_at_call 58; (with_reducible refine HC5.out.mono ?_); rintro e w5 ⟨rfl, hb1, hb2⟩; (have HX5 := Lib.hid hb1; have HG5 := Lib.hid (grown_trans HG4.out hb2); clear hb1 hb2))
                go_ret2
                rw [HST3.out]
                exact ⟨_, p2, rfl, fun h => absurd h HNE.out, HX5.out, hp2, HG5.out⟩
      · have hz' : ((er : Int) != 0) = true := by simpa using hz
        have hd0 := hf3 hz
        have HST2 : Hid (R = (l, er, p)) := Lib.hid (by rw [HE.out]; unfold rowStep; exact if_pos hz)
        simp at hd0
        subst hd0
        have HNE := Lib.hid hz
        clear hf3 hf4 HE hz HC HD
        go_wp2_with (go_at_call 85; (with_reducible refine HCALL.out.mono ?_); rintro e w4 ⟨rfl, hb1, hb2⟩; (have HX4 := Lib.hid hb1; have HG4 := Lib.hid (grown_trans HG.out hb2); have hs4 := hb2.size; have HO4 := Lib.hid (HO.out.keep hb2 (ne_of_row (fun k hk e => by have := (HO.out.lt k hk).1; injection e with e; omega))); clear hb1 hb2))
        go_ret2
        rw [HST2.out]
        exact ⟨_, p + 0, rfl, fun h => absurd h HNE.out, HX4.out, hpd, HG4.out⟩
    · have hlti : ¬ (l.length : Int) < (n : Int) := by omega
      have HE := Lib.hid (HSTOP.out gk l (0, p) (fun h => hlt h.2))
      rw [HRN.out] at HE
      clear hlt hf HC HD
      go_wp2
      go_ret2
      rw [HE.out]
      first | exact ⟨_, p, rfl, fun _ => ⟨HO.out, rfl⟩, HX.out, hple, HG.out⟩ | exact ⟨_, rfl, p, fun _ => ⟨HO.out, rfl⟩, HX.out, hple, HG.out⟩
end Go.Cm

/- The walk of the document's stored head. Conditions: the reader is there. -/
namespace Go.Cm
open Go.RowKit Go.Proofs

theorem Own.keepN {w w' : World} {B E b n cap : Nat} {xs : List Value} {row : Option Nat} (h : Own w B E (.slice (some ⟨b, 0, none⟩) n cap) xs) (hg : w.grownBy w' row) (hne : row ≠ some b) : Own w' B E (.slice (some ⟨b, 0, none⟩) n cap) xs := h.keep hg (.inr (fun e => hne e.symm))
theorem bitsA_two {N T p n : Nat} (h : (bitsA N T p n).2.1 ≠ 0) : (bitsA N T p n).2.1 = 2 := by
  unfold bitsA at h ⊢
  split
  · rename_i hc
    rw [if_pos hc] at h
    exact absurd rfl h
  · rfl
theorem xb_zero (N T n p : Nat) : xb N T n (0, p) = bitsA N T p n := rfl
theorem xb_bad {N T n e p : Nat} (h : e ≠ 0) : xb N T n (e, p) = (0, (e, p)) := if_neg h
/-- what a function of the document's that reads a head answers -/
def RetHR (H : HeadN) (er pf : Nat) (s : ByteArray) (g : Nat) (w : World) (e : Ending) (w' : World) : Prop :=
  ∃ v1 v2 p', e = .returned (.tuple #[.agg #[.bool H.fin, .int .i64 (H.kind : Nat), .int .i64 (H.size : Nat), v1, v2], .int .i64 (er : Nat)]) ∧ Own w' w.heap.size 3 v1 (ints (nls H.lits)) ∧ Own w' w.heap.size 3 v2 (ints (nls H.dists)) ∧ BoxT w' g s p' ∧ p' ≤ 8 * s.size ∧ (er = 0 → p' = pf) ∧ w.grownBy w' (some g)

set_option maxRecDepth 100000 in
set_option maxHeartbeats 1000000 in
theorem storedRR {w : World} {g p k : Nat} {s : ByteArray} {fin : Bool} (h : BoxT w g s p) (hs : s.size ≤ 4294967296) (hp : p ≤ 8 * s.size) :
    Calls Try.prog 59 #[.pointer (some ⟨g, 0, none⟩), .agg #[.bool fin, .int .i64 (k : Nat), .int .i64 0, .slice none 0 0, .slice none 0 0]] w
      (RetHR (if (storedN (numS s) (8 * s.size) (0, p)).2.1 = 0 then ⟨fin, k, (storedN (numS s) (8 * s.size) (0, p)).1, [], []⟩ else HeadN.zero) (storedN (numS s) (8 * s.size) (0, p)).2.1 (storedN (numS s) (8 * s.size) (0, p)).2.2 s g w) := by
  have HB := Lib.hid h
  have hgw := h.lt
  have hp8 : alignN p ≤ 8 * s.size := by unfold alignN; omega
  have HAL := Lib.hid (fun (W : World) (h : BoxT W g s p) => alignT h hs hp)
  have HBT : Hid (∀ (W : World) (p : Nat), BoxT W g s p → p ≤ 8 * s.size → Calls Try.prog 58 #[.pointer (some ⟨g, 0, none⟩), .int .i64 16] W (RetBits BoxT s p 16 g W)) := Lib.hid (fun W p hb hp => bitsT hb hs 16 (by omega) hp)
  have HP1 := Lib.hid (bitsA_le (N := numS s) (n := 16) hp8).1
  have HB1 := Lib.hid (fun W h => HBT.out W (alignN p) h hp8)
  have ht1 := bitsA_two (N := numS s) (T := 8 * s.size) (p := alignN p) (n := 16)
  have hl1 := bitsA_lt (N := numS s) (T := 8 * s.size) (p := alignN p) (n := 16)
  obtain ⟨D, hD⟩ : ∃ D, D = storedN (numS s) (8 * s.size) (0, p) := ⟨_, rfl⟩
  rw [← hD]
  obtain ⟨H, hH⟩ : ∃ H, H = if D.2.1 = 0 then (⟨fin, k, D.1, [], []⟩ : HeadN) else HeadN.zero := ⟨_, rfl⟩
  rw [← hH]
  have HHD := Lib.hid hH
  clear hH
  unfold storedN at hD
  dsimp only at hD
  rw [xb_zero] at hD
  unfold RetBits at HB1
  obtain ⟨r1, h1⟩ : ∃ r1, r1 = bitsA (numS s) (8 * s.size) (alignN p) 16 := ⟨_, rfl⟩
  rw [← h1] at hD HB1 HP1 ht1 hl1
  clear h1
  obtain ⟨n, e1, p1⟩ := r1
  have HP1' := HP1.out
  have HB2 := Lib.hid (fun W h => HBT.out W p1 h HP1')
  have HP2 := Lib.hid (bitsA_le (N := numS s) (n := 16) HP1').1
  have ht2 := bitsA_two (N := numS s) (T := 8 * s.size) (p := p1) (n := 16)
  have hl2 := bitsA_lt (N := numS s) (T := 8 * s.size) (p := p1) (n := 16)
  have HX2 : Hid (e1 = 0 → xb (numS s) (8 * s.size) 16 (e1, p1) = bitsA (numS s) (8 * s.size) p1 16) := Lib.hid (fun h => by rw [h]; rfl)
  unfold RetBits at HB2
  generalize bitsA (numS s) (8 * s.size) p1 16 = r2 at *
  obtain ⟨m, e2, p2⟩ := r2
  simp only at hl1 hl2 ht1 ht2 hD
  have HD := Lib.hid hD
  have HR0 : Hid (∀ w1 : World, (w.alloc (.cells #[Value.bool fin, .int .i64 (k : Nat), .int .i64 0, .slice none 0 0, .slice none 0 0] 36)).alloc (.cells #[Value.bool false, .int .i64 0, .int .i64 0, .slice none 0 0, .slice none 0 0] 36) = w1 → Own w1 (w.heap.size + 1) 36 (.slice (some ⟨w.heap.size + 1, 0, none⟩) 5 5) zH.toList ∧ Own w1 w.heap.size 36 (.slice (some ⟨w.heap.size, 0, none⟩) 5 5) [Value.bool fin, .int .i64 (k : Nat), .int .i64 (0 : Nat), .slice none 0 0, .slice none 0 0] ∧ BoxT w1 g s p ∧ Below w.heap.size w w1) := Lib.hid (fun w1 e => by
    subst e
    have h1 := own_lit (w.alloc (.cells #[Value.bool fin, .int .i64 (k : Nat), .int .i64 0, .slice none 0 0, .slice none 0 0] 36)) (w.heap.size + 1) zH 36 (by simp [zH]) (by simp)
    have h2 := (own_lit w w.heap.size #[Value.bool fin, .int .i64 (k : Nat), .int .i64 0, .slice none 0 0, .slice none 0 0] 36 (by simp) (Nat.le_refl _)).up (below_alloc _ (.cells zH 36))
    refine ⟨by simpa [zH] using h1, by simpa [zH] using h2, HB.out.up (by repeat (first | exact Below.refl _ _ | assumption | refine b_drewN ?_ _ | refine Below.drew ?_ | refine b_ext' ?_ _ | refine b_alloc' ?_ _)), (by repeat (first | exact Below.refl _ _ | assumption | refine b_drewN ?_ _ | refine Below.drew ?_ | refine b_ext' ?_ _ | refine b_alloc' ?_ _))⟩)
  clear hD h HBT hp8 HP1'
  unfold RetHR
  go_enter Try.func59, Try.ntmps59
  go_upto_region 4 with (first | (go_at_call 75; (obtain ⟨hr0, hh0, hx0, hbl0⟩ := HR0.out _ rfl); (with_reducible refine (HAL.out _ hx0).mono ?_); rintro e w2 ⟨rfl, hb1, hg1⟩; (have hne1 := hbl0.size; have HR2 := Lib.hid (hr0.keepN hg1 (fun e => by injection e with e; omega)); have HH2 := Lib.hid (hh0.keepN hg1 (fun e => by injection e with e; omega)); have HG2 := Lib.hid (grown_trans (grown_below hbl0 (some g)) hg1); have HX2' := Lib.hid hb1; have HC2 := Lib.hid (HB1.out w2 hb1); clear hr0 hh0 hx0 hbl0 hb1 hg1 HR0 HAL HB1)) | (go_at_call 58; first | ((with_reducible refine HC2.out.mono ?_); rintro e w3 ⟨rfl, hb1, hg1⟩; (have HR3 := Lib.hid (HR2.out.keepN hg1 (fun e => by injection e with e; omega)); have HH3 := Lib.hid (HH2.out.keepN hg1 (fun e => by injection e with e; omega)); have HG3 := Lib.hid (grown_trans HG2.out hg1); have HC3 := Lib.hid (HB2.out w3 hb1); clear hb1 hg1 HC2 HB2 HR2 HH2 HG2)) | ((with_reducible refine HC3.out.mono ?_); rintro e w4 ⟨rfl, hb1, hg1⟩; (have HR4 := Lib.hid (HR3.out.keepN hg1 (fun e => by injection e with e; omega)); have HH4 := Lib.hid (HH3.out.keepN hg1 (fun e => by injection e with e; omega)); have HG4 := Lib.hid (grown_trans HG3.out hg1); have HX4 := Lib.hid hb1; clear hb1 hg1 HC3 HR3 HH3 HG3))))
  by_cases h1 : e1 = 0
  · subst h1
    have HDB := Lib.hid HD.out
    rw [HX2.out rfl] at HDB
    by_cases h2 : e2 = 0
    · subst h2
      by_cases hc : m + n = 65535
      · have hci : ((n : Int) + (m : Int) != 65535) = false := by simp; omega
        have HDE : Hid (D = (n, (0, p2))) := Lib.hid (by rw [HDB.out]; exact congrArg (Prod.mk n) (if_pos hc))
        have hhz : H = ⟨fin, k, n, [], []⟩ := by rw [HHD.out, HDE.out]; rfl
        have HHZ := Lib.hid hhz
        clear hc hhz HD HDB HHD HX2
        have hf4 := HH4.out.free 2
        have hc4 := HH4.out.cell (i := 2) (by simp)
        have hb4 := HH4.out.blk.2
        have hst := HH4.out.store 2 (.int .i64 (n : Nat))
        have HST := Lib.hid hst.1
        have HSG := Lib.hid hst.2
        have HR5 := Lib.hid (HR4.out.keepN hst.2 (fun e => by injection e with e; omega))
        obtain ⟨A, hA, hAs, hAl⟩ := hst.1.whole
        have hA1 : ∀ u ∈ A.toList, u.oneCell' = true := by
          rw [hAl]; exact head_one fin k n none none 0 0 0 0
        have HAL := Lib.hid hAl
        clear hst hAl
        go_wp2_with (first | (refine load_box rfl 36 5 _ rfl w.heap.size rfl A hAs hA _ Try.underlying36 rfl (by kernel_rfl) ?_) | (refine wpList_store_agg rfl 36 _ _ rfl (w.heap.size + 1) 36 (w.heap.size + 1) 5 5 rfl A rfl (by rw [hAs]; kernel_rfl) _ HR5.out (by rw [hAs]; simp [zH]) hA1 ?_; intro w9 hown9 hg9; (have HG9 := Lib.hid hg9; have HR9 := Lib.hid hown9; clear hown9 hg9)))
        have hr9 := HR9.out
        rw [hAs, List.drop_of_length_le (by simp [zH]), List.append_nil] at hr9
        refine ret_cell_tmp (s := 4) (b := 5) (ad := ⟨w.heap.size + 1, 0, none⟩) (x := .agg A) (y := .int .i64 0) rfl rfl rfl rfl (load_whole (n := 5) hr9 _ Try.underlying36 rfl (by kernel_rfl)) ?_
        have hAe : A = #[.bool fin, .int .i64 (k : Nat), .int .i64 (n : Nat), .slice none 0 0, .slice none 0 0] := by
          rw [← Array.toArray_toList (xs := A), HAL.out]; rfl
        rw [HHZ.out, HDE.out, hAe]
        exact ⟨_, _, p2, rfl, Own.nil _ _ _, Own.nil _ _ _, (HX4.out.stay HSG.out (fun e => by injection e with e; omega)).stay HG9.out (fun e => by injection e with e; omega), HP2.out, fun _ => rfl, grown_new (grown_new HG4.out HSG.out (Nat.le_refl _)) HG9.out (by omega)⟩
      · have hci : ((n : Int) + (m : Int) != 65535) = true := by simp; omega
        have HDE : Hid (D = (n, (6, p2))) := Lib.hid (by rw [HDB.out]; exact congrArg (Prod.mk n) (if_neg hc))
        clear hc HD HDB HX2
        go_wp2_with (refine wpList_store_agg rfl 36 _ _ rfl (w.heap.size + 1) 36 (w.heap.size + 1) 5 5 rfl zH rfl (by kernel_rfl) _ HR4.out (by simp [zH]) zH_one ?_; intro w9 hown9 hg9; (have HG9 := Lib.hid hg9; have HR9 : Hid (Own w9 (w.heap.size + 1) 36 (.slice (some ⟨w.heap.size + 1, 0, none⟩) 5 5) zH.toList) := Lib.hid hown9; clear hown9 hg9))
        refine ret_cell_tmp (s := 4) (b := 5) (ad := ⟨w.heap.size + 1, 0, none⟩) (x := .agg zH) (y := .int .i64 6) rfl rfl rfl rfl (load_whole (n := 5) HR9.out _ Try.underlying36 rfl (by kernel_rfl)) ?_
        have hhz : H = HeadN.zero := by rw [HHD.out, HDE.out]; rfl
        rw [hhz, HDE.out]
        exact ⟨_, _, p2, rfl, Own.nil _ _ _, Own.nil _ _ _, HX4.out.stay HG9.out (fun e => by injection e with e; omega), HP2.out, (fun h => by cases h), grown_new HG4.out HG9.out (by omega)⟩
    · have h2i : ((e2 : Int) != 0) = true := by simpa using h2
      have HDE : Hid (D = (n, (2, p2))) := Lib.hid (by
        rw [HDB.out]
        refine congrArg (Prod.mk n) ?_
        have e := ht2 h2
        show (if m + n = 65535 then (e2, p2) else xf 6 (e2, p2)) = _
        rw [xf_of (by exact h2), e]
        split <;> rfl)
      clear h2 HD HDB HX2 ht2
      go_wp2_with (refine wpList_store_agg rfl 36 _ _ rfl (w.heap.size + 1) 36 (w.heap.size + 1) 5 5 rfl zH rfl (by kernel_rfl) _ HR4.out (by simp [zH]) zH_one ?_; intro w9 hown9 hg9; (have HG9 := Lib.hid hg9; have HR9 : Hid (Own w9 (w.heap.size + 1) 36 (.slice (some ⟨w.heap.size + 1, 0, none⟩) 5 5) zH.toList) := Lib.hid hown9; clear hown9 hg9))
      refine ret_cell_tmp (s := 4) (b := 5) (ad := ⟨w.heap.size + 1, 0, none⟩) (x := .agg zH) (y := .int .i64 2) rfl rfl rfl rfl (load_whole (n := 5) HR9.out _ Try.underlying36 rfl (by kernel_rfl)) ?_
      have hhz : H = HeadN.zero := by rw [HHD.out, HDE.out]; rfl
      rw [hhz, HDE.out]
      exact ⟨_, _, p2, rfl, Own.nil _ _ _, Own.nil _ _ _, HX4.out.stay HG9.out (fun e => by injection e with e; omega), HP2.out, (fun h => by cases h), grown_new HG4.out HG9.out (by omega)⟩
  · have h1i : ((e1 : Int) != 0) = true := by simpa using h1
    have HDE : Hid (D = (n, (2, p1))) := Lib.hid (by
      rw [HD.out]
      refine congrArg (Prod.mk n) ?_
      have e := ht1 h1
      rw [xb_bad h1, xf_of (by exact h1), e]
      split <;> rfl)
    clear h1 HD HX2 ht1
    go_wp2_with (refine wpList_store_agg rfl 36 _ _ rfl (w.heap.size + 1) 36 (w.heap.size + 1) 5 5 rfl zH rfl (by kernel_rfl) _ HR4.out (by simp [zH]) zH_one ?_; intro w9 hown9 hg9; (have HG9 := Lib.hid hg9; have HR9 : Hid (Own w9 (w.heap.size + 1) 36 (.slice (some ⟨w.heap.size + 1, 0, none⟩) 5 5) zH.toList) := Lib.hid hown9; clear hown9 hg9))
    refine ret_cell_tmp (s := 4) (b := 5) (ad := ⟨w.heap.size + 1, 0, none⟩) (x := .agg zH) (y := .int .i64 2) rfl rfl rfl rfl (load_whole (n := 5) HR9.out _ Try.underlying36 rfl (by kernel_rfl)) ?_
    have hhz : H = HeadN.zero := by rw [HHD.out, HDE.out]; rfl
    rw [hhz, HDE.out]
    exact ⟨_, _, p2, rfl, Own.nil _ _ _, Own.nil _ _ _, HX4.out.stay HG9.out (fun e => by injection e with e; omega), HP2.out, (fun h => by cases h), grown_new HG4.out HG9.out (by omega)⟩
end Go.Cm

/- The walk of the document's dynamic head. Conditions: the reader is there. -/
namespace Go.Cm
open Go.RowKit Go.Proofs

theorem dynM_err {N T a b c : Nat} {st : Nat × Nat} (h : st.1 ≠ 0) : dynM N T a b c st = ([], [], st) := by
  have h4 : (if 286 < 257 + a ∨ 30 < 1 + b then xf 3 st else st) = st := by
    split
    · exact xf_of h
    · rfl
  unfold dynM dynL
  rw [h4, codeK_err N T c 19 (List.replicate 19 0, st) h]
  exact if_pos h
theorem dynM_big {N T a b c p : Nat} (h : 286 < 257 + a ∨ 30 < 1 + b) : dynM N T a b c (0, p) = ([], [], (3, p)) := by
  unfold dynM dynL
  rw [if_pos h, codeK_err N T c 19 (List.replicate 19 0, xf 3 (0, p)) (by show (3 : Nat) ≠ 0; decide)]
  exact if_pos (by show (3 : Nat) ≠ 0; decide)
theorem dyn_good {N T p : Nat} {a b c p1 p2 p3 : Nat} (h1 : bitsA N T p 5 = (a, 0, p1)) (h2 : bitsA N T p1 5 = (b, 0, p2)) (h3 : bitsA N T p2 4 = (c, 0, p3)) : dynN N T (0, p) = dynM N T a b c (0, p3) := by
  unfold dynN
  simp only [xb_zero, h1, h2, h3]
theorem dyn_bad {N T p : Nat} {a b c e1 e2 e3 p1 p2 p3 : Nat} (h1 : bitsA N T p 5 = (a, e1, p1)) (h2 : bitsA N T p1 5 = (b, e2, p2)) (h3 : bitsA N T p2 4 = (c, e3, p3)) (h : e1 ≠ 0 ∨ e2 ≠ 0 ∨ e3 ≠ 0) : (dynN N T (0, p)).2.2.1 = 2 := by
  have t1 := bitsA_two (N := N) (T := T) (p := p) (n := 5)
  have t2 := bitsA_two (N := N) (T := T) (p := p1) (n := 5)
  have t3 := bitsA_two (N := N) (T := T) (p := p2) (n := 4)
  rw [h1] at t1
  rw [h2] at t2
  rw [h3] at t3
  unfold dynN
  by_cases he1 : e1 = 0
  · subst he1
    by_cases he2 : e2 = 0
    · subst he2
      have he3 : e3 ≠ 0 := by omega
      simp only [xb_zero, h1, h2, h3]
      rw [dynM_err (by exact he3)]
      exact t3 he3
    · simp only [xb_zero, h1, h2, xb_bad he2]
      rw [dynM_err (by exact he2)]
      exact t2 he2
  · simp only [xb_zero, h1, xb_bad he1]
    rw [dynM_err (by exact he1)]
    exact t1 he1
theorem codeK_fix (N T c : Nat) (x : List Nat × (Nat × Nat)) (j : Nat) (h : (codeK N T c j x).2.1 ≠ 0) : ∀ d, codeK N T c (j + d) x = codeK N T c j x
  | 0 => rfl
  | d + 1 => by
    rw [← Nat.add_assoc, codeK_step, codeK_fix N T c x j h d, if_neg (fun z => h z.2)]
theorem codeK_stay (N T c : Nat) (x : List Nat × (Nat × Nat)) : ∀ d, codeK N T c (4 + c + d) x = codeK N T c (4 + c) x
  | 0 => rfl
  | d + 1 => by
    rw [← Nat.add_assoc, codeK_step, codeK_stay N T c x d, if_neg (fun z => by have := z.1; omega)]

set_option maxRecDepth 100000 in
set_option maxHeartbeats 4000000 in
theorem dynamicRR {w : World} {g p k : Nat} {s : ByteArray} {fin : Bool} (h : BoxT w g s p) (hs : s.size ≤ 4294967296) (hp : p ≤ 8 * s.size) :
    Calls Try.prog 60 #[.pointer (some ⟨g, 0, none⟩), .agg #[.bool fin, .int .i64 (k : Nat), .int .i64 0, .slice none 0 0, .slice none 0 0]] w
      (RetHR (if (dynN (numS s) (8 * s.size) (0, p)).2.2.1 = 0 then ⟨fin, k, 0, (dynN (numS s) (8 * s.size) (0, p)).1, (dynN (numS s) (8 * s.size) (0, p)).2.1⟩ else HeadN.zero) (dynN (numS s) (8 * s.size) (0, p)).2.2.1 (dynN (numS s) (8 * s.size) (0, p)).2.2.2 s g w) := by
  have HB := Lib.hid h
  have hgw := h.lt
  have HBT := Lib.hid (fun (W : World) (p n : Nat) (hn : n ≤ 32) (hb : BoxT W g s p) (hp : p ≤ 8 * s.size) => bitsT hb hs n hn hp)
  have HRW := Lib.hid (fun (W : World) (p n : Nat) (L : List Nat) (v : Value) (hb : BoxT W g s p) (hv : Own W w.heap.size 3 v (ints (nls L))) (hL : errI (nls L) = 0) (hl : L.length ≤ 19) (hn : n ≤ 1000) (hp : p ≤ 8 * s.size) => rowRR hb hv hgw hL hl hn hs hp)
  obtain ⟨D, hD⟩ : ∃ D, D = dynN (numS s) (8 * s.size) (0, p) := ⟨_, rfl⟩
  rw [← hD]
  obtain ⟨H, hH⟩ : ∃ H, H = if D.2.2.1 = 0 then (⟨fin, k, 0, D.1, D.2.1⟩ : HeadN) else HeadN.zero := ⟨_, rfl⟩
  rw [← hH]
  have HHD := Lib.hid hH
  clear hH
  obtain ⟨r1, h1⟩ : ∃ r1, r1 = bitsA (numS s) (8 * s.size) p 5 := ⟨_, rfl⟩
  obtain ⟨a, e1, p1⟩ := r1
  obtain ⟨r2, h2⟩ : ∃ r2, r2 = bitsA (numS s) (8 * s.size) p1 5 := ⟨_, rfl⟩
  obtain ⟨b, e2, p2⟩ := r2
  obtain ⟨r3, h3⟩ : ∃ r3, r3 = bitsA (numS s) (8 * s.size) p2 4 := ⟨_, rfl⟩
  obtain ⟨c, e3, p3⟩ := r3
  have HP1 : Hid (p1 ≤ 8 * s.size) := Lib.hid (by have := (bitsA_le (N := numS s) (n := 5) hp).1; rw [← h1] at this; exact this)
  have HP2 : Hid (p2 ≤ 8 * s.size) := Lib.hid (by have := (bitsA_le (N := numS s) (n := 5) HP1.out).1; rw [← h2] at this; exact this)
  have HP3 : Hid (p3 ≤ 8 * s.size) := Lib.hid (by have := (bitsA_le (N := numS s) (n := 4) HP2.out).1; rw [← h3] at this; exact this)
  have ha : a < 32 := by have := bitsA_lt (N := numS s) (T := 8 * s.size) (p := p) (n := 5); rw [← h1] at this; exact this
  have hb : b < 32 := by have := bitsA_lt (N := numS s) (T := 8 * s.size) (p := p1) (n := 5); rw [← h2] at this; exact this
  have hc : c < 16 := by have := bitsA_lt (N := numS s) (T := 8 * s.size) (p := p2) (n := 4); rw [← h3] at this; exact this
  have HB1 : Hid (∀ W, BoxT W g s p → Calls Try.prog 58 #[.pointer (some ⟨g, 0, none⟩), .int .i64 5] W fun e w' => e = .returned (.tuple #[.int .i64 (a : Nat), .int .i64 (e1 : Nat)]) ∧ BoxT w' g s p1 ∧ W.grownBy w' (some g)) := Lib.hid (fun W h => by
    have := HBT.out W p 5 (by omega) h hp
    unfold RetBits at this
    rw [← h1] at this
    exact this)
  have HB2 : Hid (∀ W, BoxT W g s p1 → Calls Try.prog 58 #[.pointer (some ⟨g, 0, none⟩), .int .i64 5] W fun e w' => e = .returned (.tuple #[.int .i64 (b : Nat), .int .i64 (e2 : Nat)]) ∧ BoxT w' g s p2 ∧ W.grownBy w' (some g)) := Lib.hid (fun W h => by
    have := HBT.out W p1 5 (by omega) h HP1.out
    unfold RetBits at this
    rw [← h2] at this
    exact this)
  have HB3 : Hid (∀ W, BoxT W g s p2 → Calls Try.prog 58 #[.pointer (some ⟨g, 0, none⟩), .int .i64 4] W fun e w' => e = .returned (.tuple #[.int .i64 (c : Nat), .int .i64 (e3 : Nat)]) ∧ BoxT w' g s p3 ∧ W.grownBy w' (some g)) := Lib.hid (fun W h => by
    have := HBT.out W p2 4 (by omega) h HP2.out
    unfold RetBits at this
    rw [← h3] at this
    exact this)
  have HBAD : Hid (e1 ≠ 0 ∨ e2 ≠ 0 ∨ e3 ≠ 0 → D.2.2.1 = 2) := Lib.hid (fun h => by rw [hD]; exact dyn_bad h1.symm h2.symm h3.symm h)
  have HGOOD : Hid (e1 = 0 → e2 = 0 → e3 = 0 → D = dynM (numS s) (8 * s.size) a b c (0, p3)) := Lib.hid (fun q1 q2 q3 => by subst q1 q2 q3; rw [hD]; exact dyn_good h1.symm h2.symm h3.symm)
  have HR0 : Hid (∀ w1 : World, (w.alloc (.cells #[Value.bool fin, .int .i64 (k : Nat), .int .i64 0, .slice none 0 0, .slice none 0 0] 36)).alloc (.cells #[Value.bool false, .int .i64 0, .int .i64 0, .slice none 0 0, .slice none 0 0] 36) = w1 → Own w1 (w.heap.size + 1) 36 (.slice (some ⟨w.heap.size + 1, 0, none⟩) 5 5) zH.toList ∧ Own w1 w.heap.size 36 (.slice (some ⟨w.heap.size, 0, none⟩) 5 5) [Value.bool fin, .int .i64 (k : Nat), .int .i64 (0 : Nat), .slice none 0 0, .slice none 0 0] ∧ BoxT w1 g s p ∧ Below w.heap.size w w1) := Lib.hid (fun w1 e => by
    subst e
    have h1 := own_lit (w.alloc (.cells #[Value.bool fin, .int .i64 (k : Nat), .int .i64 0, .slice none 0 0, .slice none 0 0] 36)) (w.heap.size + 1) zH 36 (by simp [zH]) (by simp)
    have h2 := (own_lit w w.heap.size #[Value.bool fin, .int .i64 (k : Nat), .int .i64 0, .slice none 0 0, .slice none 0 0] 36 (by simp) (Nat.le_refl _)).up (below_alloc _ (.cells zH 36))
    refine ⟨by simpa [zH] using h1, by simpa [zH] using h2, HB.out.up (by repeat (first | exact Below.refl _ _ | assumption | refine b_drewN ?_ _ | refine Below.drew ?_ | refine b_ext' ?_ _ | refine b_alloc' ?_ _)), (by repeat (first | exact Below.refl _ _ | assumption | refine b_drewN ?_ _ | refine Below.drew ?_ | refine b_ext' ?_ _ | refine b_alloc' ?_ _))⟩)
  clear hD h h1 h2 h3
  unfold RetHR
  go_enter Try.func60, Try.ntmps60
  go_upto_region 4 with (go_at_call 58; first | ((obtain ⟨hr0, hh0, hx0, hbl0⟩ := HR0.out _ rfl); (with_reducible refine (HB1.out _ hx0).mono ?_); rintro e w1 ⟨rfl, hb1, hg1⟩; (have hne1 := hbl0.size; have HR_w1 := Lib.hid (hr0.keepN hg1 (fun e => by injection e with e; omega)); have HH_w1 := Lib.hid (hh0.keepN hg1 (fun e => by injection e with e; omega)); have HG_w1 := Lib.hid (grown_trans (grown_below hbl0 (some g)) hg1); have HX_w1 := Lib.hid hb1; have HC2 := Lib.hid (HB2.out w1 hb1); clear hr0 hh0 hx0 hbl0 hb1 hg1 HR0 HB1)) | ((with_reducible refine HC2.out.mono ?_); rintro e w2 ⟨rfl, hb1, hg1⟩; (have HR_w2 := Lib.hid (HR_w1.out.keepN hg1 (fun e => by injection e with e; omega)); have HH_w2 := Lib.hid (HH_w1.out.keepN hg1 (fun e => by injection e with e; omega)); have HG_w2 := Lib.hid (grown_trans HG_w1.out hg1); have HX_w2 := Lib.hid hb1; have HC3 := Lib.hid (HB3.out w2 hb1); clear hb1 hg1 HC2)) | ((with_reducible refine HC3.out.mono ?_); rintro e w3 ⟨rfl, hb1, hg1⟩; (have HR_w3 := Lib.hid (HR_w2.out.keepN hg1 (fun e => by injection e with e; omega)); have HH_w3 := Lib.hid (HH_w2.out.keepN hg1 (fun e => by injection e with e; omega)); have HG_w3 := Lib.hid (grown_trans HG_w2.out hg1); have HX_w3 := Lib.hid hb1; clear hb1 hg1 HC3)))
  clear HR_w1 HH_w1 HG_w1 HX_w1 HR_w2 HH_w2 HG_w2 HX_w2 HB2 HB3
  have hs3 := HG_w3.out.size
  by_cases he : e1 ≠ 0 ∨ e2 ≠ 0 ∨ e3 ≠ 0
  · have HDE := Lib.hid (HBAD.out he)
    have HNE : Hid (¬ (2 : Nat) = 0) := Lib.hid (by decide)
    clear HBAD HGOOD HRW HBT
    by_cases q1 : e1 = 0
    · subst q1
      by_cases q2 : e2 = 0
      · subst q2
        have q3 : ((e3 : Int) != 0) = true := by have : e3 ≠ 0 := by omega
                                                 simpa using this
        clear he
        go_wp2_with (refine wpList_store_agg rfl 36 _ _ rfl (w.heap.size + 1) 36 (w.heap.size + 1) 5 5 rfl zH rfl (by kernel_rfl) _ HR_w3.out (by simp [zH]) zH_one ?_; intro wz hownz hgz; (have HGZ := Lib.hid hgz; have HRZ : Hid (Own wz (w.heap.size + 1) 36 (.slice (some ⟨w.heap.size + 1, 0, none⟩) 5 5) zH.toList) := Lib.hid hownz; clear hownz hgz))
        refine ret_cell_tmp (s := 4) (b := 5) (ad := ⟨w.heap.size + 1, 0, none⟩) (x := .agg zH) (y := .int .i64 2) rfl rfl rfl rfl (load_whole (n := 5) HRZ.out _ Try.underlying36 rfl (by kernel_rfl)) ?_
        have hhz : H = HeadN.zero := by rw [HHD.out, HDE.out]; exact if_neg HNE.out
        rw [hhz, HDE.out]
        have hxz := HX_w3.out.stay HGZ.out (fun e => by injection e with e; omega)
        have hgz := grown_new HG_w3.out HGZ.out (by omega)
        first | exact ⟨_, _, p3, rfl, Own.nil _ _ _, Own.nil _ _ _, hxz, HP3.out, (fun h => absurd h HNE.out), hgz⟩ | exact ⟨_, _, rfl, Own.nil _ _ _, Own.nil _ _ _, p3, hxz, HP3.out, (fun h => absurd h HNE.out), hgz⟩ | exact ⟨_, rfl, Own.nil _ _ _, _, Own.nil _ _ _, p3, hxz, HP3.out, (fun h => absurd h HNE.out), hgz⟩
      · have q2' : ((e2 : Int) != 0) = true := by simpa using q2
        clear he q2
        go_wp2_with (refine wpList_store_agg rfl 36 _ _ rfl (w.heap.size + 1) 36 (w.heap.size + 1) 5 5 rfl zH rfl (by kernel_rfl) _ HR_w3.out (by simp [zH]) zH_one ?_; intro wz hownz hgz; (have HGZ := Lib.hid hgz; have HRZ : Hid (Own wz (w.heap.size + 1) 36 (.slice (some ⟨w.heap.size + 1, 0, none⟩) 5 5) zH.toList) := Lib.hid hownz; clear hownz hgz))
        refine ret_cell_tmp (s := 4) (b := 5) (ad := ⟨w.heap.size + 1, 0, none⟩) (x := .agg zH) (y := .int .i64 2) rfl rfl rfl rfl (load_whole (n := 5) HRZ.out _ Try.underlying36 rfl (by kernel_rfl)) ?_
        have hhz : H = HeadN.zero := by rw [HHD.out, HDE.out]; exact if_neg HNE.out
        rw [hhz, HDE.out]
        have hxz := HX_w3.out.stay HGZ.out (fun e => by injection e with e; omega)
        have hgz := grown_new HG_w3.out HGZ.out (by omega)
        first | exact ⟨_, _, p3, rfl, Own.nil _ _ _, Own.nil _ _ _, hxz, HP3.out, (fun h => absurd h HNE.out), hgz⟩ | exact ⟨_, _, rfl, Own.nil _ _ _, Own.nil _ _ _, p3, hxz, HP3.out, (fun h => absurd h HNE.out), hgz⟩ | exact ⟨_, rfl, Own.nil _ _ _, _, Own.nil _ _ _, p3, hxz, HP3.out, (fun h => absurd h HNE.out), hgz⟩
    · have q1' : ((e1 : Int) != 0) = true := by simpa using q1
      clear he q1
      go_wp2_with (refine wpList_store_agg rfl 36 _ _ rfl (w.heap.size + 1) 36 (w.heap.size + 1) 5 5 rfl zH rfl (by kernel_rfl) _ HR_w3.out (by simp [zH]) zH_one ?_; intro wz hownz hgz; (have HGZ := Lib.hid hgz; have HRZ : Hid (Own wz (w.heap.size + 1) 36 (.slice (some ⟨w.heap.size + 1, 0, none⟩) 5 5) zH.toList) := Lib.hid hownz; clear hownz hgz))
      refine ret_cell_tmp (s := 4) (b := 5) (ad := ⟨w.heap.size + 1, 0, none⟩) (x := .agg zH) (y := .int .i64 2) rfl rfl rfl rfl (load_whole (n := 5) HRZ.out _ Try.underlying36 rfl (by kernel_rfl)) ?_
      have hhz : H = HeadN.zero := by rw [HHD.out, HDE.out]; exact if_neg HNE.out
      rw [hhz, HDE.out]
      have hxz := HX_w3.out.stay HGZ.out (fun e => by injection e with e; omega)
      have hgz := grown_new HG_w3.out HGZ.out (by omega)
      first | exact ⟨_, _, p3, rfl, Own.nil _ _ _, Own.nil _ _ _, hxz, HP3.out, (fun h => absurd h HNE.out), hgz⟩ | exact ⟨_, _, rfl, Own.nil _ _ _, Own.nil _ _ _, p3, hxz, HP3.out, (fun h => absurd h HNE.out), hgz⟩ | exact ⟨_, rfl, Own.nil _ _ _, _, Own.nil _ _ _, p3, hxz, HP3.out, (fun h => absurd h HNE.out), hgz⟩
  · obtain ⟨q1, q2, q3⟩ : e1 = 0 ∧ e2 = 0 ∧ e3 = 0 := by omega
    subst q1 q2 q3
    have HDM := Lib.hid (HGOOD.out rfl rfl rfl)
    clear HBAD HGOOD he
    by_cases hbig : 286 < 257 + a ∨ 30 < 1 + b
    · have HDE : Hid (D.2.2.1 = 3) := Lib.hid (by rw [HDM.out, dynM_big hbig])
      have HNE : Hid (¬ (3 : Nat) = 0) := Lib.hid (by decide)
      clear HDM HRW HBT
      by_cases hb1 : 286 < 257 + a
      · have hi : (a : Int) + 257 > 286 := by omega
        clear hbig
        go_wp2_with (refine wpList_store_agg rfl 36 _ _ rfl (w.heap.size + 1) 36 (w.heap.size + 1) 5 5 rfl zH rfl (by kernel_rfl) _ HR_w3.out (by simp [zH]) zH_one ?_; intro wz hownz hgz; (have HGZ := Lib.hid hgz; have HRZ : Hid (Own wz (w.heap.size + 1) 36 (.slice (some ⟨w.heap.size + 1, 0, none⟩) 5 5) zH.toList) := Lib.hid hownz; clear hownz hgz))
        refine ret_cell_tmp (s := 4) (b := 5) (ad := ⟨w.heap.size + 1, 0, none⟩) (x := .agg zH) (y := .int .i64 3) rfl rfl rfl rfl (load_whole (n := 5) HRZ.out _ Try.underlying36 rfl (by kernel_rfl)) ?_
        have hhz : H = HeadN.zero := by rw [HHD.out, HDE.out]; exact if_neg HNE.out
        rw [hhz, HDE.out]
        have hxz := HX_w3.out.stay HGZ.out (fun e => by injection e with e; omega)
        have hgz := grown_new HG_w3.out HGZ.out (by omega)
        first | exact ⟨_, _, p3, rfl, Own.nil _ _ _, Own.nil _ _ _, hxz, HP3.out, (fun h => absurd h HNE.out), hgz⟩ | exact ⟨_, _, rfl, Own.nil _ _ _, Own.nil _ _ _, p3, hxz, HP3.out, (fun h => absurd h HNE.out), hgz⟩ | exact ⟨_, rfl, Own.nil _ _ _, _, Own.nil _ _ _, p3, hxz, HP3.out, (fun h => absurd h HNE.out), hgz⟩
      · have hi : ¬ (a : Int) + 257 > 286 := by omega
        have hi2 : (b : Int) + 1 > 30 := by omega
        clear hbig
        go_wp2_with (refine wpList_store_agg rfl 36 _ _ rfl (w.heap.size + 1) 36 (w.heap.size + 1) 5 5 rfl zH rfl (by kernel_rfl) _ HR_w3.out (by simp [zH]) zH_one ?_; intro wz hownz hgz; (have HGZ := Lib.hid hgz; have HRZ : Hid (Own wz (w.heap.size + 1) 36 (.slice (some ⟨w.heap.size + 1, 0, none⟩) 5 5) zH.toList) := Lib.hid hownz; clear hownz hgz))
        refine ret_cell_tmp (s := 4) (b := 5) (ad := ⟨w.heap.size + 1, 0, none⟩) (x := .agg zH) (y := .int .i64 3) rfl rfl rfl rfl (load_whole (n := 5) HRZ.out _ Try.underlying36 rfl (by kernel_rfl)) ?_
        have hhz : H = HeadN.zero := by rw [HHD.out, HDE.out]; exact if_neg HNE.out
        rw [hhz, HDE.out]
        have hxz := HX_w3.out.stay HGZ.out (fun e => by injection e with e; omega)
        have hgz := grown_new HG_w3.out HGZ.out (by omega)
        first | exact ⟨_, _, p3, rfl, Own.nil _ _ _, Own.nil _ _ _, hxz, HP3.out, (fun h => absurd h HNE.out), hgz⟩ | exact ⟨_, _, rfl, Own.nil _ _ _, Own.nil _ _ _, p3, hxz, HP3.out, (fun h => absurd h HNE.out), hgz⟩ | exact ⟨_, rfl, Own.nil _ _ _, _, Own.nil _ _ _, p3, hxz, HP3.out, (fun h => absurd h HNE.out), hgz⟩
    · have hla : 257 + a ≤ 286 := by omega
      have hlb : 1 + b ≤ 30 := by omega
      have hi : ¬ (a : Int) + 257 > 286 := by omega
      have hi2 : ¬ (b : Int) + 1 > 30 := by omega
      have HDL : Hid (D = dynL (numS s) (8 * s.size) a b (codeK (numS s) (8 * s.size) c 19 (List.replicate 19 0, (0, p3)))) := Lib.hid (by rw [HDM.out]; unfold dynM; rw [if_neg hbig])
      clear HDM hbig
      have hmk : ∀ W : World, (Instr.makeSlice 31 (.int .i64 19) (.int .i64 19)).run Try.prog W = .ok (.slice (some ⟨W.heap.size, 0, none⟩) 19 19) (W.alloc (.cells (madeCells #[Value.int .i64 0] 19) 3)) := run_mk (P := Try.prog) 31 3 (.int .i64 0) 8 19 Try.underlying31 (by kernel_rfl) rfl (by decide) (by omega)
      have hom := own_made w3 w.heap.size 3 (.int .i64 0) 19 hs3 (by decide)
      have hzl : List.replicate 19 (Value.int .i64 0) = ints (nls (List.replicate 19 0)) := rfl
      rw [hzl] at hom
      clear hzl
      obtain ⟨Z, hZ⟩ : ∃ Z, Z = List.replicate 19 0 := ⟨_, rfl⟩
      rw [← hZ] at hom HDL
      have HZ : Hid (Z.length = 19) := Lib.hid (by rw [hZ]; rfl)
      have HOM := Lib.hid hom
      have HB4 := Lib.hid (below_alloc w3 (.cells (madeCells #[Value.int .i64 0] 19) 3))
      clear hZ hom
      generalize madeCells #[Value.int .i64 0] 19 = MC at *
      have HSTEP := Lib.hid (fun j => codeK_step (numS s) (8 * s.size) c j (Z, (0, p3)))
      have HCL := Lib.hid (fun j => codeK_len (numS s) (8 * s.size) c (Z, (0, p3)) j)
      have HFIX := Lib.hid (fun j h d => codeK_fix (numS s) (8 * s.size) c (Z, (0, p3)) j h d)
      have HSTAY := Lib.hid (fun d => codeK_stay (numS s) (8 * s.size) c (Z, (0, p3)) d)
      have HK0 : Hid (codeK (numS s) (8 * s.size) c 0 (Z, (0, p3)) = (Z, (0, p3))) := Lib.hid rfl
      have HBS : Hid (∀ (W : World) (p : Nat), BoxT W g s p → p ≤ 8 * s.size → Calls Try.prog 58 #[.pointer (some ⟨g, 0, none⟩), .int .i64 3] W (RetBits BoxT s p 3 g W)) := Lib.hid (fun W p hb hp => HBT.out W p 3 (by omega) hb hp)
      clear HBT
      go_wp2_with (go_at_call 47; (with_reducible refine (ordR _).mono ?_); rintro e w5 ⟨vo, rfl, ho5, hb5⟩; (have HOX := Lib.hid ho5; have HOO := Lib.hid (ho5.mono (B' := w.heap.size) (Nat.le_trans hs3 HB4.out.size)); have HB5 := Lib.hid hb5; clear ho5 hb5))
      have hol : (ints (nls ordN)).length = 19 := rfl
      obtain ⟨oo, co, go, hvo, hdo, -⟩ := HOO.out.cases
      rw [hol] at hvo hdo
      obtain rfl := hdo.hat (by omega)
      subst hvo
      have HO5 := Lib.hid (HOM.out.up HB5.out)
      have HGO : Hid (∀ j, j < 19 → (ints (nls ordN)).getD j undef = .int .i64 (ordN.getD j 0 : Nat)) := Lib.hid (fun j hj => by have hl : j < ordN.length := hj; simp [ints, nls, List.getD, hl])
      have HOL := Lib.hid hol
      have hixo := fun (W : World) (j : Nat) (hj : j < 19) => index_any (P := Try.prog) 31 3 Try.underlying31 (by kernel_rfl) hdo W .i64 (j : Int) (by omega) (by omega)
      simp only [Nat.zero_add, Int.toNat_natCast] at hixo
      have hdc : Hd w5 (some ⟨w3.heap.size, 0, none⟩) 19 19 w3.heap.size 0 := ⟨fun _ => rfl, Nat.le_refl _, by decide, by decide, fun _ => Nat.lt_of_lt_of_le (by simp) HB5.out.size⟩
      have hixc := fun (W : World) (j : Nat) (hj : j < 19) => index_any (P := Try.prog) 31 3 Try.underlying31 (by kernel_rfl) hdc W .i64 (j : Int) (by omega) (by omega)
      simp only [Nat.zero_add, Int.toNat_natCast] at hixc
      have HIXO := Lib.hid hixo
      have HIXC := Lib.hid hixc
      have HNEB : Hid (go ≠ w3.heap.size) := Lib.hid (by
        have h1 : w3.heap.size < (w3.alloc (.cells MC 3)).heap.size := by simp
        have h2 := (HOX.out.lt go rfl).1
        omega)
      clear HOX
      have HR5 := Lib.hid ((HR_w3.out.up HB4.out).up HB5.out)
      have HH5 := Lib.hid ((HH_w3.out.up HB4.out).up HB5.out)
      have HX5 := Lib.hid ((HX_w3.out.up HB4.out).up HB5.out)
      have HG5 : Hid (w.grownBy w5 (some g)) := Lib.hid (grown_trans (grown_trans HG_w3.out (grown_below HB4.out _)) (grown_below HB5.out _))
      have hgs4 : w.heap.size + 1 < w3.heap.size := (HR_w3.out.lt _ rfl).2
      clear HOM HB4 HB5 hmk HR_w3 HH_w3 HX_w3 HG_w3 hixo hixc hdc hdo hol
      have hgs3 : w.heap.size ≤ w3.heap.size := hs3
      clear hs3
      generalize w3.heap.size = gc at *
      go_loopg [14] 20 (fun gk i wr => ∃ j pj L, j ≤ 4 + c ∧ i = .int .i64 (j : Nat) ∧ Hid (codeK (numS s) (8 * s.size) c j (Z, (0, p3)) = (L, (0, pj))) ∧ Own wr w.heap.size 3 (.slice (some ⟨gc, 0, none⟩) 19 19) (ints (nls L)) ∧ Own wr w.heap.size 3 (.slice (some ⟨go, 0, none⟩) 19 co) (ints (nls ordN)) ∧ BoxT wr g s pj ∧ pj ≤ 8 * s.size ∧ w.grownBy wr (some g) ∧ Own wr (w.heap.size + 1) 36 (.slice (some ⟨w.heap.size + 1, 0, none⟩) 5 5) zH.toList ∧ Own wr w.heap.size 36 (.slice (some ⟨w.heap.size, 0, none⟩) 5 5) [Value.bool fin, .int .i64 (k : Nat), .int .i64 (0 : Nat), .slice none 0 0, .slice none 0 0] ∧ gk = 20 - j)
      case atStart => exact ⟨0, p3, Z, Nat.zero_le _, rfl, HK0, HO5.out, HOO.out, HX5.out, HP3.out, HG5.out, HR5.out, HH5.out, rfl⟩
      case round =>
        clear HO5 HOO HX5 HG5 HR5 HH5 HK0
        obtain ⟨j, pj, L, hj, rfl, HK, ho, hoo, hx, hpj, hgr, hr, hh, hgk⟩ := hrel
        have HO := Lib.hid ho
        have HOO := Lib.hid hoo
        have HX := Lib.hid hx
        have HG := Lib.hid hgr
        have HR := Lib.hid hr
        have HH := Lib.hid hh
        have hst := HSTEP.out j
        have hcl := HCL.out j
        rw [HK.out] at hst hcl
        have HLL : Hid (L.length = 19) := Lib.hid (by rw [← HZ.out]; exact hcl)
        clear ho hoo hx hgr hr hh hcl HSTEP HCL HZ
        by_cases hlt : j < 4 + c
        · have hji : (j : Int) < (c : Int) + 4 := by omega
          have hj19 : j < 19 := by omega
          rw [if_pos ⟨hlt, rfl⟩, xb_zero] at hst
          have hy := ordN_lt j
          have HC := Lib.hid (HBS.out _ pj HX.out hpj)
          have HPJ := Lib.hid (bitsA_le (N := numS s) (n := 3) hpj).1
          have hGO := HGO.out j hj19
          have hixj := fun W => HIXO.out W j hj19
          have hixy := fun W => HIXC.out W (ordN.getD j 0) hy
          unfold RetBits at HC
          clear HBS HGO HIXO HIXC
          generalize bitsA (numS s) (8 * s.size) pj 3 = r at *
          obtain ⟨n, e4, p4⟩ := r
          have HST := Lib.hid hst
          dsimp only at HST HPJ
          clear hst
          generalize ordN.getD j 0 = y at *
          by_cases h4 : e4 = 0
          · subst h4
            have HSL : Hid ((ints (nls L)).set y (.int .i64 (n : Nat)) = ints (nls (L.set y n))) := Lib.hid (by rw [ints_set', nls_set])
            go_wp2_with (go_at_call 58; (with_reducible refine HC.out.mono ?_); rintro e w6 ⟨rfl, hb1, hg1⟩; (have HX6 := Lib.hid hb1; have HG6 := Lib.hid (grown_trans HG.out hg1); have HO6 := Lib.hid (HO.out.keepN hg1 (fun e => by injection e with e; omega)); have HOO6 := Lib.hid (HOO.out.keepN hg1 (fun e => by have := (HOO.out.lt go rfl).1; injection e with e; omega)); have HR6 := Lib.hid (HR.out.keepN hg1 (fun e => by injection e with e; omega)); have HH6 := Lib.hid (HH.out.keepN hg1 (fun e => by injection e with e; omega)); have hcj := HOO6.out.cell (i := j) hj19; rw [hGO] at hcj; have hgo6 := (HOO6.out.lt go rfl).2; have hgc6 := (HO6.out.lt gc rfl).2; have hf6 := HO6.out.free y; have hcy := HO6.out.cell (i := y) (by rw [ints_nls_len, HLL.out]; exact hy); have HSET := Lib.hid (HO6.out.store y (.int .i64 (n : Nat))); clear hb1 hg1))
            have hwg := HG6.out.size
            have hgob := (HOO6.out.lt go rfl).1
            have hngo := HNEB.out
            go_roundg (20 - (j + 1))
            case measure => omega
            case rel =>
              have hset := HSET.out
              rw [HSL.out] at hset
              have hcoh : ∀ (b' : Nat), b' ≠ gc → some gc ≠ some b' := fun b' h e => h (by injection e with e; exact e.symm)
              exact ⟨j + 1, p4, L.set y n, by omega, by go_num, HST, hset.1, HOO6.out.keepN hset.2 (hcoh _ hngo), HX6.out.stay hset.2 (hcoh _ (by omega)), HPJ.out, grown_new HG6.out hset.2 hgs3, HR6.out.keepN hset.2 (hcoh _ (by omega)), HH6.out.keepN hset.2 (hcoh _ (by omega)), rfl⟩
          · have h4' : ((e4 : Int) != 0) = true := by simpa using h4
            have HDE : Hid (D.2.2.1 = e4) := Lib.hid (by
              have hk := HST.out
              have hf := HFIX.out (j + 1) (by rw [hk]; exact h4) (19 - (j + 1))
              rw [show j + 1 + (19 - (j + 1)) = 19 by omega, hk] at hf
              rw [HDL.out, hf]
              unfold dynL
              rw [if_pos (by exact h4)])
            have HNE := Lib.hid h4
            clear h4 HST HDL HFIX HSTAY HRW HOO
            go_wp2_with (first | (go_at_call 58; (with_reducible refine HC.out.mono ?_); rintro e w6 ⟨rfl, hb1, hg1⟩; (have HX6 := Lib.hid hb1; have HG6 := Lib.hid (grown_trans HG.out hg1); have HR6 := Lib.hid (HR.out.keepN hg1 (fun e => by injection e with e; omega)); clear hb1 hg1)) | (refine wpList_store_agg rfl 36 _ _ rfl (w.heap.size + 1) 36 (w.heap.size + 1) 5 5 rfl zH rfl (by kernel_rfl) _ HR6.out (by simp [zH]) zH_one ?_; intro wz hownz hgz; (have HGZ := Lib.hid hgz; have HRZ : Hid (Own wz (w.heap.size + 1) 36 (.slice (some ⟨w.heap.size + 1, 0, none⟩) 5 5) zH.toList) := Lib.hid hownz; clear hownz hgz)))
            refine ret_cell_tmp (s := 4) (b := 5) (ad := ⟨w.heap.size + 1, 0, none⟩) (x := .agg zH) (y := .int .i64 (e4 : Nat)) rfl rfl rfl rfl (load_whole (n := 5) HRZ.out _ Try.underlying36 rfl (by kernel_rfl)) ?_
            have hhz : H = HeadN.zero := by rw [HHD.out, HDE.out]; exact if_neg HNE.out
            rw [hhz, HDE.out]
            have hxz := HX6.out.stay HGZ.out (fun e => by injection e with e; omega)
            have hgz := grown_new HG6.out HGZ.out (by omega)
            first | exact ⟨_, _, p4, rfl, Own.nil _ _ _, Own.nil _ _ _, hxz, HPJ.out, (fun h => absurd h HNE.out), hgz⟩ | exact ⟨_, _, rfl, Own.nil _ _ _, Own.nil _ _ _, p4, hxz, HPJ.out, (fun h => absurd h HNE.out), hgz⟩ | exact ⟨_, rfl, Own.nil _ _ _, _, Own.nil _ _ _, p4, hxz, HPJ.out, (fun h => absurd h HNE.out), hgz⟩
        · obtain rfl : j = 4 + c := by omega
          have hji : ¬ ((4 + c : Nat) : Int) < (c : Int) + 4 := by omega
          have hjj : ((4 + c : Nat) : Int) = 4 + (c : Int) := by omega
          have HDK : Hid (D = dynL (numS s) (8 * s.size) a b (L, (0, pj))) := Lib.hid (by
            have h := HSTAY.out (15 - c)
            rw [show 4 + c + (15 - c) = 19 by omega, HK.out] at h
            rw [HDL.out, h])
          clear HDL HSTAY HFIX HK hst HBS HGO HIXO HIXC HOO hlt
          have HFC := Lib.hid (fitsR (.slice (some ⟨gc, 0, none⟩) 19 19) (nls L) false wr (show IntsAt wr _ (nls L) from HO.out.sl))
          have HFE := Lib.hid (fun h => fitsE_bad (l := nls L) false h)
          have hhd := HDK.out
          unfold dynL at hhd
          dsimp only at hhd
          have hen0 : ¬ ((0 : Nat) ≠ 0) := fun h => h rfl
          rw [if_neg hen0] at hhd
          have HD2 := Lib.hid hhd
          clear HDK hhd hen0
          generalize hFF : fitsE (nls L) false = F at *
          by_cases hF : F = 0
          · have hE : errI (nls L) = 0 := by
              apply Classical.byContradiction; intro hn
              have := HFE.out hn
              omega
            subst hF
            have HD3 : Hid (D = if (rowN (numS s) (8 * s.size) L (257 + a + (1 + b)) (257 + a + (1 + b) + 1) [] (0, pj)).2.1 ≠ 0 then ([], [], (rowN (numS s) (8 * s.size) L (257 + a + (1 + b)) (257 + a + (1 + b) + 1) [] (0, pj)).2) else ((rowN (numS s) (8 * s.size) L (257 + a + (1 + b)) (257 + a + (1 + b) + 1) [] (0, pj)).1.take (257 + a), (rowN (numS s) (8 * s.size) L (257 + a + (1 + b)) (257 + a + (1 + b) + 1) [] (0, pj)).1.drop (257 + a), fits2 ((rowN (numS s) (8 * s.size) L (257 + a + (1 + b)) (257 + a + (1 + b) + 1) [] (0, pj)).1.take (257 + a)) ((rowN (numS s) (8 * s.size) L (257 + a + (1 + b)) (257 + a + (1 + b) + 1) [] (0, pj)).1.drop (257 + a)), (rowN (numS s) (8 * s.size) L (257 + a + (1 + b)) (257 + a + (1 + b) + 1) [] (0, pj)).2.2)) := Lib.hid (by rw [HD2.out, if_neg (fun h => h rfl)])
            clear HD2 HFE hFF
            obtain ⟨r, hr⟩ : ∃ r, r = rowN (numS s) (8 * s.size) L (257 + a + (1 + b)) (257 + a + (1 + b) + 1) [] (0, pj) := ⟨_, rfl⟩
            have HRL : Hid (r.2.1 = 0 → r.1.length = 257 + a + (1 + b)) := Lib.hid (fun h => by rw [hr] at h ⊢; exact rowN_len _ _ _ _ _ _ _ (Nat.zero_le _) (by simp) h)
            have hnn : ((257 + a : Nat) : Int) + (b : Int) + 1 = ((257 + a + (1 + b) : Nat) : Int) := by omega
            have hlad : (a : Int) + 257 = ((257 + a : Nat) : Int) := by omega
            have HROW : Hid (∀ W, BoxT W g s pj → Own W w.heap.size 3 (.slice (some ⟨gc, 0, none⟩) 19 19) (ints (nls L)) → w.heap.size ≤ W.heap.size → Calls Try.prog 76 #[.pointer (some ⟨g, 0, none⟩), .slice (some ⟨gc, 0, none⟩) 19 19, .int .i64 ((257 + a + (1 + b) : Nat) : Int)] W (RetRowR r s g W)) := Lib.hid (fun W hb hv hB => by rw [hr]; exact rowRR hb hv hgw hE (by rw [HLL.out]; decide) (by omega) hs hpj)
            rw [← hr] at HD3
            unfold RetRowR at HROW
            clear hr hE HRW
            obtain ⟨R, en6, p6⟩ := r
            dsimp only at HD3 HRL HROW
            have hnr : 257 + a ≤ 257 + a + (1 + b) := by omega
            have hl256 : 256 < 257 + a := by omega
            have hnb : 257 + a + (1 + b) ≤ 400 := by omega
            generalize 257 + a + (1 + b) = nr at *
            generalize 257 + a = la at *
            by_cases h6 : en6 = 0
            · subst h6
              have HD4 : Hid (D = (R.take la, R.drop la, fits2 (R.take la) (R.drop la), p6)) := Lib.hid (by rw [HD3.out]; exact if_neg (fun h => h rfl))
              have HRL2 : Hid (R.length = nr) := Lib.hid (HRL.out rfl)
              clear HD3 HRL
              go_wp2_with (first | (go_at_call 62; (with_reducible refine HFC.out.mono ?_); rintro e w7 ⟨rfl, hb7⟩; (have HB7 := Lib.hid hb7; have HR7 := Lib.hid (HR.out.up hb7); have HH7 := Lib.hid (HH.out.up hb7); have HX7 := Lib.hid (HX.out.up hb7); have HO7 := Lib.hid (HO.out.up hb7); have HG7 := Lib.hid (grown_trans HG.out (grown_below hb7 _)); clear hb7)) | (go_at_call 76; (with_reducible refine (HROW.out w7 HX7.out HO7.out HG7.out.size).mono ?_); rintro e w8 ⟨v8, p8, rfl, ho8, hx8, hp8, hg8⟩; (have HV8 := Lib.hid ho8; have HR8 := Lib.hid (HR7.out.keepN hg8 (fun e => by injection e with e; omega)); have HH8 := Lib.hid (HH7.out.keepN hg8 (fun e => by injection e with e; omega)); have HX8 := Lib.hid hx8; have HP8 := Lib.hid hp8; have HG8 := Lib.hid (grown_trans HG7.out hg8); have hsz7 := HG7.out.size; clear ho8 hx8 hp8 hg8)))
              obtain ⟨hv8, rfl⟩ := HV8.out (by trivial)
              have HW8 := Lib.hid hv8
              have hrl := HRL2.out
              obtain ⟨u1, hu1, hsl1⟩ := hv8.sl.low (P := Try.prog) 31 3 Try.underlying31 (by kernel_rfl) la (by rw [ints_nls_len]; omega)
              rw [ints_take] at hsl1
              have HL1 := Lib.hid hsl1
              have HN1 : Hid ((ints (nls (R.take la))).length ≤ 4294967296 ∧ (ints (nls (R.drop la))).length ≤ 4294967296) := Lib.hid (by simp [ints, nls]; omega)
              have HLT : Hid (256 < (R.take la).length) := Lib.hid (by rw [List.length_take]; omega)
              have hs8 := HG8.out.size
              have hz7 : w.heap.size + 1 < w7.heap.size := HR7.out.blk.2
              have hz8 : w.heap.size + 1 < w8.heap.size := HR8.out.blk.2
              have hc3 := HH8.out.cell (i := 3) (by simp)
              have hb8 := HH8.out.blk.2
              clear hv8 hsl1 hrl HV8 HR7 HH7 HX7 HO7 HG7 HB7 HFC HROW HR HH HX HO HG
              refine wp_region_tailg [0,1,2,3,4,5] [6,7] [8] (by kernel_rfl) (by kernel_rfl) ?_
              simp only [pick, List.map_cons, List.map_nil, List.getD_cons_zero, List.getD_cons_succ]
              repeat (go_big_quiet_step (fail))
              refine wpQuiet_nil ?_
              have HB9 : Hid (Below w8.heap.size w8 w8.drew) := Lib.hid (b_drew1 (Below.refl _ _))
              generalize w8.drew = w9 at *
              unfold wpAct
              go_wp2_with (at_builtin; refine wpList_app rfl (.tmp 100) (.tmp 104) 31 rfl w.heap.size 3 (.int .i64 0) 8 Try.underlying31 (by kernel_rfl) rfl (by decide) (.slice none 0 0) [] rfl (Own.nil _ _ _) u1 (ints (nls (R.take la))) rfl (HL1.out.up HB9.out) (ints_cell _) (by have := HN1.out.1; simpa using this) (Nat.le_trans hs8 HB9.out.size) ?_; intro v1 w10 hown1 hg1 hk1; (have HO10 := Lib.hid hown1; have HB10 : Hid (Below w8.heap.size w8 w10) := Lib.hid (HB9.out.grown hg1 HB9.out.size (fun k hk => by cases hk)); have HK1 := Lib.hid hk1; clear hown1 hg1 hk1))
              refine ⟨ex_ext HB10.out, ?_⟩
              (unfold wpAct; go_wp2; refine ⟨ex_ext HB10.out, ?_⟩)
              unfold wpAct
              rw [List.nil_append] at HO10
              obtain ⟨o1, c1', g1, hv1, -⟩ := HO10.out.cases
              subst hv1
              generalize (ints (nls (R.take la))).length = n1 at *
              have HR10 := Lib.hid (HR8.out.up HB10.out)
              have HH10 := Lib.hid (HH8.out.up HB10.out)
              have HX10 := Lib.hid (HX8.out.up HB10.out)
              have HG10 : Hid (w.grownBy w10 (some g)) := Lib.hid (grown_trans HG8.out (grown_below HB10.out _))
              have HW10 := Lib.hid (HW8.out.up HB10.out)
              have hg1' : ∀ q, (Value.slice o1 n1 c1').ownBlock = some q → w8.heap.size ≤ q := fun q hq => by
                rcases HK1.out q hq with h | h
                · cases h
                · exact Nat.le_trans HB9.out.size h
              have HO1K := Lib.hid hg1'
              clear hc3 hb8 HR8 HH8 HX8 HG8 HL1 HB9 HB10 HK1 HW8 hg1' hu1
              have hb10 := HH10.out.blk.2
              have hc10 := HH10.out.cell (i := 3) (by simp)
              have hf10 := HH10.out.free 3
              have hst := HH10.out.store 3 (.slice o1 n1 c1')
              have HST := Lib.hid hst
              clear hst
              have hs10 := HG10.out.size
              unfold wpAct
              go_wp2
              refine ⟨trivial, ?_⟩
              unfold wpAct
              have HR11 := Lib.hid (HR10.out.keepN HST.out.2 (fun e => by injection e with e; omega))
              have HH11 := Lib.hid HST.out.1
              have HX11 := Lib.hid (HX10.out.stay HST.out.2 (fun e => by injection e with e; omega))
              have HG11 := Lib.hid (grown_new HG10.out HST.out.2 (Nat.le_refl _))
              have HO11 := Lib.hid (HO10.out.keep HST.out.2 (ne_of_row (fun q hq e => by have := HO1K.out q hq; injection e with e; omega)))
              have HW11 := Lib.hid (HW10.out.keep HST.out.2 (ne_of_row (fun q hq e => by have := (HW10.out.lt q hq).1; injection e with e; omega)))
              clear HST HR10 HH10 HX10 HG10 HO10 HW10 hb10 hc10 hf10
              generalize w10.setCell ⟨w.heap.size, 3, none⟩ (.slice o1 n1 c1') = w11 at *
              have hrl := HRL2.out
              obtain ⟨u2, hu2, hsl2⟩ := HW11.out.sl.high (P := Try.prog) 31 3 Try.underlying31 (by kernel_rfl) la (by rw [ints_nls_len]; omega)
              rw [ints_drop] at hsl2
              have HL2 := Lib.hid hsl2
              have hz11 : w.heap.size + 1 < w11.heap.size := HR11.out.blk.2
              have hc4 := HH11.out.cell (i := 4) (by simp)
              have hb11 := HH11.out.blk.2
              have hs11 := HG11.out.size
              clear hsl2 HW11 hrl
              go_wp2
              refine wp_region_tailg [0,1,2,3,4,5] [6,7] [8] (by kernel_rfl) (by kernel_rfl) ?_
              simp only [pick, List.map_cons, List.map_nil, List.getD_cons_zero, List.getD_cons_succ]
              repeat (go_big_quiet_step (fail))
              refine wpQuiet_nil ?_
              have HB12 : Hid (Below w11.heap.size w11 w11.drew) := Lib.hid (b_drew1 (Below.refl _ _))
              generalize w11.drew = w12 at *
              unfold wpAct
              go_wp2_with (at_builtin; refine wpList_app rfl (.tmp 108) (.tmp 112) 31 rfl w.heap.size 3 (.int .i64 0) 8 Try.underlying31 (by kernel_rfl) rfl (by decide) (.slice none 0 0) [] rfl (Own.nil _ _ _) u2 (ints (nls (R.drop la))) rfl (HL2.out.up HB12.out) (ints_cell _) (by have := HN1.out.2; simpa using this) (Nat.le_trans hs11 HB12.out.size) ?_; intro v2 w13 hown1 hg1 hk1; (have HP13 := Lib.hid hown1; have HB13 : Hid (Below w11.heap.size w11 w13) := Lib.hid (HB12.out.grown hg1 HB12.out.size (fun k hk => by cases hk)); have HK2 := Lib.hid hk1; clear hown1 hg1 hk1))
              refine ⟨ex_ext HB13.out, ?_⟩
              (unfold wpAct; go_wp2; refine ⟨ex_ext HB13.out, ?_⟩)
              unfold wpAct
              rw [List.nil_append] at HP13
              obtain ⟨o2, c2', g2, hv2, -⟩ := HP13.out.cases
              subst hv2
              generalize (ints (nls (R.drop la))).length = n2 at *
              have HR13 := Lib.hid (HR11.out.up HB13.out)
              have HH13 := Lib.hid (HH11.out.up HB13.out)
              have HX13 := Lib.hid (HX11.out.up HB13.out)
              have HO13 := Lib.hid (HO11.out.up HB13.out)
              have HG13 : Hid (w.grownBy w13 (some g)) := Lib.hid (grown_trans HG11.out (grown_below HB13.out _))
              have hg2' : ∀ q, (Value.slice o2 n2 c2').ownBlock = some q → w11.heap.size ≤ q := fun q hq => by
                rcases HK2.out q hq with h | h
                · cases h
                · exact Nat.le_trans HB12.out.size h
              have HO2K := Lib.hid hg2'
              clear hc4 HR11 HH11 HX11 HG11 HL2 HB12 HB13 HK2 hg2' hu2 HO11
              have hb13 := HH13.out.blk.2
              have hc13 := HH13.out.cell (i := 4) (by simp)
              have hf13 := HH13.out.free 4
              have HST := Lib.hid (HH13.out.store 4 (.slice o2 n2 c2'))
              have hs13 := HG13.out.size
              unfold wpAct
              go_wp2
              refine ⟨trivial, ?_⟩
              unfold wpAct
              have HR14 := Lib.hid (HR13.out.keepN HST.out.2 (fun e => by injection e with e; omega))
              have HH14 := Lib.hid HST.out.1
              have HX14 := Lib.hid (HX13.out.stay HST.out.2 (fun e => by injection e with e; omega))
              have HG14 := Lib.hid (grown_new HG13.out HST.out.2 (Nat.le_refl _))
              have HO14 := Lib.hid (HO13.out.keep HST.out.2 (ne_of_row (fun q hq e => by have := HO1K.out q hq; injection e with e; omega)))
              have HP14 := Lib.hid (HP13.out.keep HST.out.2 (ne_of_row (fun q hq e => by have := HO2K.out q hq; injection e with e; omega)))
              clear HST HR13 HH13 HX13 HG13 HO13 HP13 hb13 hc13 hf13
              generalize w13.setCell ⟨w.heap.size, 4, none⟩ (.slice o2 n2 c2') = w14 at *
              have hc3 := HH14.out.cell (i := 3) (by simp)
              have hc4 := HH14.out.cell (i := 4) (by simp)
              have hb14 := HH14.out.blk.2
              have HFT := Lib.hid (fits2R _ _ _ _ w14 (show IntsAt w14 _ _ from HO14.out.sl) (show IntsAt w14 _ _ from HP14.out.sl) HLT.out)
              have HS14 := Lib.hid HG14.out.size
              generalize fits2 (R.take la) (R.drop la) = fe at *
              clear HLT HN1 HRL2
              by_cases hfe : fe = 0
              · subst hfe
                have HDE : Hid (D = (R.take la, R.drop la, 0, p8)) := HD4
                have hhz : H = ⟨fin, k, 0, R.take la, R.drop la⟩ := by rw [HHD.out, HDE.out]; rfl
                have HHZ := Lib.hid hhz
                clear hhz
                go_wp2_with (first | (go_at_call 45; (with_reducible refine HFT.out.mono ?_); rintro e w15 ⟨rfl, hb15⟩; (have HB15 := Lib.hid hb15; have HR15 := Lib.hid (HR14.out.up hb15); have HH15 := Lib.hid (HH14.out.up hb15); obtain ⟨A, hA, hAs, hAl⟩ := HH15.out.whole; have hA1 : ∀ u ∈ A.toList, u.oneCell' = true := (by rw [hAl]; exact head_one fin k 0 o1 o2 n1 n2 c1' c2'); have HAL := Lib.hid hAl; clear hb15 hAl)) | (refine load_box rfl 36 5 _ rfl w.heap.size rfl A hAs hA _ Try.underlying36 rfl (by kernel_rfl) ?_) | (refine wpList_store_agg rfl 36 _ _ rfl (w.heap.size + 1) 36 (w.heap.size + 1) 5 5 rfl A rfl (by rw [hAs]; kernel_rfl) _ HR15.out (by rw [hAs]; simp [zH]) hA1 ?_; intro wz hownz hgz; (have HGZ := Lib.hid hgz; have HRZ := Lib.hid hownz; clear hownz hgz)))
                have hr9 := HRZ.out
                rw [hAs, List.drop_of_length_le (by simp [zH]), List.append_nil] at hr9
                refine ret_cell_tmp (s := 4) (b := 5) (ad := ⟨w.heap.size + 1, 0, none⟩) (x := .agg A) (y := .int .i64 0) rfl rfl rfl rfl (load_whole (n := 5) hr9 _ Try.underlying36 rfl (by kernel_rfl)) ?_
                have hAe : A = #[.bool fin, .int .i64 (k : Nat), .int .i64 (0 : Nat), .slice o1 n1 c1', .slice o2 n2 c2'] := by
                  rw [← Array.toArray_toList (xs := A), HAL.out]; rfl
                rw [HHZ.out, HDE.out, hAe]
                have hxz := (HX14.out.up HB15.out).stay HGZ.out (fun e => by injection e with e; omega)
                have hgz := grown_new (grown_trans HG14.out (grown_below HB15.out _)) HGZ.out (by omega)
                have hs14 := HS14.out
                have hoz := (HO14.out.up HB15.out).keep HGZ.out (ne_of_row (fun q hq e => by have := HO1K.out q hq; injection e with e; omega))
                have hpz := (HP14.out.up HB15.out).keep HGZ.out (ne_of_row (fun q hq e => by have := HO2K.out q hq; injection e with e; omega))
                first | exact ⟨_, _, p8, rfl, hoz, hpz, hxz, HP8.out, fun _ => rfl, hgz⟩ | exact ⟨_, _, rfl, hoz, hpz, p8, hxz, HP8.out, fun _ => rfl, hgz⟩
              · have hfe' : ((fe : Int) != 0) = true := by simpa using hfe
                have HDE : Hid (D.2.2.1 = fe) := Lib.hid (by rw [HD4.out])
                have HNE := Lib.hid hfe
                clear hfe HD4
                go_wp2_with (first | (go_at_call 45; (with_reducible refine HFT.out.mono ?_); rintro e w15 ⟨rfl, hb15⟩; (have HR15 := Lib.hid (HR14.out.up hb15); have HX15 := Lib.hid (HX14.out.up hb15); have HG15 := Lib.hid (grown_trans HG14.out (grown_below hb15 _)); clear hb15)) | (refine wpList_store_agg rfl 36 _ _ rfl (w.heap.size + 1) 36 (w.heap.size + 1) 5 5 rfl zH rfl (by kernel_rfl) _ HR15.out (by simp [zH]) zH_one ?_; intro wz hownz hgz; (have HGZ := Lib.hid hgz; have HRZ : Hid (Own wz (w.heap.size + 1) 36 (.slice (some ⟨w.heap.size + 1, 0, none⟩) 5 5) zH.toList) := Lib.hid hownz; clear hownz hgz)))
                refine ret_cell_tmp (s := 4) (b := 5) (ad := ⟨w.heap.size + 1, 0, none⟩) (x := .agg zH) (y := .int .i64 (fe : Nat)) rfl rfl rfl rfl (load_whole (n := 5) HRZ.out _ Try.underlying36 rfl (by kernel_rfl)) ?_
                have hhz : H = HeadN.zero := by rw [HHD.out, HDE.out]; exact if_neg HNE.out
                rw [hhz, HDE.out]
                have hxz := HX15.out.stay HGZ.out (fun e => by injection e with e; omega)
                have hgz := grown_new HG15.out HGZ.out (by omega)
                first | exact ⟨_, _, p8, rfl, Own.nil _ _ _, Own.nil _ _ _, hxz, HP8.out, (fun h => absurd h HNE.out), hgz⟩ | exact ⟨_, _, rfl, Own.nil _ _ _, Own.nil _ _ _, p8, hxz, HP8.out, (fun h => absurd h HNE.out), hgz⟩ | exact ⟨_, rfl, Own.nil _ _ _, _, Own.nil _ _ _, p8, hxz, HP8.out, (fun h => absurd h HNE.out), hgz⟩
            · have h6' : ((en6 : Int) != 0) = true := by simpa using h6
              have HDE : Hid (D.2.2.1 = en6) := Lib.hid (by rw [HD3.out, if_pos h6])
              have HNE := Lib.hid h6
              clear h6 HD3 HRL
              go_wp2_with (first | (go_at_call 62; (with_reducible refine HFC.out.mono ?_); rintro e w7 ⟨rfl, hb7⟩; (have HB7 := Lib.hid hb7; have HR7 := Lib.hid (HR.out.up hb7); have HH7 := Lib.hid (HH.out.up hb7); have HX7 := Lib.hid (HX.out.up hb7); have HO7 := Lib.hid (HO.out.up hb7); have HG7 := Lib.hid (grown_trans HG.out (grown_below hb7 _)); clear hb7)) | (go_at_call 76; (with_reducible refine (HROW.out w7 HX7.out HO7.out HG7.out.size).mono ?_); rintro e w8 ⟨v8, p8, rfl, ho8, hx8, hp8, hg8⟩; (have HV8 := Lib.hid ho8; have HR8 := Lib.hid (HR7.out.keepN hg8 (fun e => by injection e with e; omega)); have HH8 := Lib.hid (HH7.out.keepN hg8 (fun e => by injection e with e; omega)); have HX8 := Lib.hid hx8; have HP8 := Lib.hid hp8; have HG8 := Lib.hid (grown_trans HG7.out hg8); have hsz7 := HG7.out.size; clear ho8 hx8 hp8 hg8)) | (refine wpList_store_agg rfl 36 _ _ rfl (w.heap.size + 1) 36 (w.heap.size + 1) 5 5 rfl zH rfl (by kernel_rfl) _ HR8.out (by simp [zH]) zH_one ?_; intro wz hownz hgz; (have HGZ := Lib.hid hgz; have HRZ : Hid (Own wz (w.heap.size + 1) 36 (.slice (some ⟨w.heap.size + 1, 0, none⟩) 5 5) zH.toList) := Lib.hid hownz; clear hownz hgz)))
              refine ret_cell_tmp (s := 4) (b := 5) (ad := ⟨w.heap.size + 1, 0, none⟩) (x := .agg zH) (y := .int .i64 (en6 : Nat)) rfl rfl rfl rfl (load_whole (n := 5) HRZ.out _ Try.underlying36 rfl (by kernel_rfl)) ?_
              have hhz : H = HeadN.zero := by rw [HHD.out, HDE.out]; exact if_neg HNE.out
              rw [hhz, HDE.out]
              have hxz := HX8.out.stay HGZ.out (fun e => by injection e with e; omega)
              have hgz := grown_new HG8.out HGZ.out (by omega)
              first | exact ⟨_, _, p8, rfl, Own.nil _ _ _, Own.nil _ _ _, hxz, HP8.out, (fun h => absurd h HNE.out), hgz⟩ | exact ⟨_, _, rfl, Own.nil _ _ _, Own.nil _ _ _, p8, hxz, HP8.out, (fun h => absurd h HNE.out), hgz⟩ | exact ⟨_, rfl, Own.nil _ _ _, _, Own.nil _ _ _, p8, hxz, HP8.out, (fun h => absurd h HNE.out), hgz⟩
          · have hF' : ((F : Int) != 0) = true := by simpa using hF
            have HDE : Hid (D.2.2.1 = F) := Lib.hid (by rw [HD2.out, if_pos hF])
            have HNE := Lib.hid hF
            clear hF HD2 HRW HFE hFF
            go_wp2_with (first | (go_at_call 62; (with_reducible refine HFC.out.mono ?_); rintro e w7 ⟨rfl, hb7⟩; (have HB7 := Lib.hid hb7; have HR7 := Lib.hid (HR.out.up hb7); have HH7 := Lib.hid (HH.out.up hb7); have HX7 := Lib.hid (HX.out.up hb7); have HO7 := Lib.hid (HO.out.up hb7); have HG7 := Lib.hid (grown_trans HG.out (grown_below hb7 _)); clear hb7)) | (refine wpList_store_agg rfl 36 _ _ rfl (w.heap.size + 1) 36 (w.heap.size + 1) 5 5 rfl zH rfl (by kernel_rfl) _ HR7.out (by simp [zH]) zH_one ?_; intro wz hownz hgz; (have HGZ := Lib.hid hgz; have HRZ : Hid (Own wz (w.heap.size + 1) 36 (.slice (some ⟨w.heap.size + 1, 0, none⟩) 5 5) zH.toList) := Lib.hid hownz; clear hownz hgz)))
            refine ret_cell_tmp (s := 4) (b := 5) (ad := ⟨w.heap.size + 1, 0, none⟩) (x := .agg zH) (y := .int .i64 (F : Nat)) rfl rfl rfl rfl (load_whole (n := 5) HRZ.out _ Try.underlying36 rfl (by kernel_rfl)) ?_
            have hhz : H = HeadN.zero := by rw [HHD.out, HDE.out]; exact if_neg HNE.out
            rw [hhz, HDE.out]
            have hxz := HX7.out.stay HGZ.out (fun e => by injection e with e; omega)
            have hgz := grown_new HG7.out HGZ.out (by omega)
            first | exact ⟨_, _, pj, rfl, Own.nil _ _ _, Own.nil _ _ _, hxz, hpj, (fun h => absurd h HNE.out), hgz⟩ | exact ⟨_, _, rfl, Own.nil _ _ _, Own.nil _ _ _, pj, hxz, hpj, (fun h => absurd h HNE.out), hgz⟩ | exact ⟨_, rfl, Own.nil _ _ _, _, Own.nil _ _ _, pj, hxz, hpj, (fun h => absurd h HNE.out), hgz⟩
end Go.Cm
