/- Texts of this claim, joined: walks of small functions and plain facts about them. Conditions: as each says. -/
import Derived.Test.YtmophmeiemfikaaQA
import Derived.Test.YtmophmeiemfikaaRows
import Derived.WalkKit
import Derived.WalkSpells
import Derived.WalkLawsBesides
import Derived.Deep.QuietTactic
import Derived.BigQuiet
import Derived.Lib.Hide
import Derived.Deep.LoopGhost
import Derived.Laws.BitsLemmas
import Derived.Laws.Small
/- The walks of the program's codes of lengths. Conditions: the argument reads as a list. -/
namespace Go.Cm
open Go.RowKit Go.Proofs

def z16 : Array Value := (ints (List.replicate 16 0)).toArray
theorem zero_16 (W : World) : (zeroValue 173).run Try.prog W = .ok (.agg z16) W := by kernel_rfl
theorem z16_list : z16.toList = ints (nls (List.replicate 16 0)) := rfl
def cntsN (L : List Nat) : List Nat := (List.range 16).map fun n => L.count n
theorem cntsN_getD (L : List Nat) (n : Nat) (h : n < 16) : (cntsN L).getD n 0 = L.count n := by
  simp [cntsN, List.getD, h]
theorem box16 (w : World) (A : Array Value) (hA : A = z16) : BoxA (w.alloc (.cells A 173)) 173 16 w.heap.size (nls (List.replicate 16 0)) := by
  subst hA
  exact boxA_new w 173 z16 (nls (List.replicate 16 0)) z16_list (by decide)
/-- what 'counts' answers -/
def RetCounts (l : List Int) (w : World) (e : Ending) (w' : World) : Prop :=
  ∃ c : List Nat, c.length = 16 ∧ e = .returned (.tuple #[.agg (ints (nls c)).toArray, .int .i64 (wrongI l : Nat)]) ∧ (wrongI l = 0 → c = cntsN (l.map Int.toNat)) ∧ Below w.heap.size w w'
theorem store_box {P : Program} {ops : Array Oper} {rest : List Oper} {o : Oper} {a : Act} {w : World} {Q : Exit → Act → World → Prop} (hgd : o.guard = none) (T n : Nat) (x y : Operand) (ho : o.op = .store T x y)
    (g : Nat) (hx : a.eval x = .pointer (some ⟨g, 0, none⟩)) (cl c2 : List Int) (hy : a.eval y = .agg (ints c2).toArray) (h2 : c2.length = n) (hi : (P.info? T).map (·.size) = some n) (hown : BoxA w T n g cl)
    (h : ∀ w', BoxA w' T n g c2 → w.grownBy w' (some g) → wpList P ops Q rest (a.put o.dst undef) w') : wpList P ops Q (o :: rest) a w := by
  have hs : (ints c2).toArray.size = n := by simp [h2]
  have hl : (ints cl).length = n := by rw [ints_length, hown.len]
  refine wpList_store_agg hgd T x y ho g T g n n hx (ints c2).toArray hy (by rw [hs]; exact hi) (ints cl) hown.own (by omega) (fun u hu => ?_) fun w' hw hg => h w' ⟨?_, h2⟩ hg
  · simp only [ints, List.mem_map] at hu
    obtain ⟨z, -, rfl⟩ := hu; rfl
  · rw [List.drop_of_length_le (by omega), List.append_nil] at hw
    exact hw
theorem cnt_step {l : List Int} {k : Nat} (hk : k < l.length) {y : Nat} (hy : l.getD k 0 = (y : Int)) {c : List Nat} (hl : c.length = 16) (hy15 : y < 16) (hc : ∀ n, n < 16 → c.getD n 0 = ((l.take k).map Int.toNat).count n) :
    ∀ n, n < 16 → (c.set y (c.getD y 0 + 1)).getD n 0 = ((l.take (k + 1)).map Int.toNat).count n := by
  intro n hn
  rw [take_succ_getD l k 0 hk, List.map_append, List.count_append, hy]
  simp only [List.map_cons, List.map_nil, Int.toNat_natCast, List.count_singleton]
  by_cases h : y = n
  · subst h
    rw [getD_set_self' (by omega), hc _ hn, if_pos (beq_self_eq_true _)]
  · rw [getD_set_ne' h, hc _ hn, if_neg (by simpa using h)]; rfl
theorem cnts_end {l : List Int} {c : List Nat} (hl : c.length = 16) (hc : ∀ n, n < 16 → c.getD n 0 = (l.map Int.toNat).count n) : c = cntsN (l.map Int.toNat) := by
  refine List.ext_getElem (by simp [hl, cntsN]) fun n h1 h2 => ?_
  have := hc n (by omega)
  simp only [cntsN, List.getElem_map, List.getElem_range]
  rw [← this]
  simp [List.getD, h1]
set_option maxRecDepth 100000 in
theorem countsP (v : Value) (l : List Int) (w : World) (h : IntsAt w v l) : Calls Try.prog 130 #[v] w (RetCounts l w) := by
  obtain ⟨oa, cap, b, off, rfl, hd, hc⟩ := h.open
  have hix := index_any (P := Try.prog) 39 3 Try.underlying39 (by kernel_rfl) hd
  have hm := hd.len
  have hbk := hd.hblk
  have HC := Lib.hid hc; clear hc h hd
  have hz := zero_16
  obtain ⟨Z, hZ⟩ : ∃ Z, Z = z16 := ⟨_, rfl⟩
  rw [← hZ] at hz
  obtain ⟨O, hO⟩ : ∃ O, O = List.replicate 16 0 := ⟨_, rfl⟩
  have hb1 := box16 w Z hZ
  have hb2 := box16 (w.alloc (.cells Z 173)) Z hZ
  rw [show (w.alloc (.cells Z 173)).heap.size = w.heap.size + 1 by simp] at hb2
  rw [← hO] at hb1 hb2
  have HB2 := Lib.hid hb2
  have HB3 : Hid (BoxA ((w.alloc (.cells Z 173)).alloc (.cells Z 173)) 173 16 w.heap.size (nls O)) := Lib.hid (hb1.up (below_alloc _ _))
  have HBL : Hid (Below w.heap.size w ((w.alloc (.cells Z 173)).alloc (.cells Z 173))) := Lib.hid (by repeat (first | exact Below.refl _ _ | assumption | refine b_drewN ?_ _ | refine Below.drew ?_ | refine b_ext' ?_ _ | refine b_alloc' ?_ _))
  have HOL : Hid (O.length = 16) := Lib.hid (by rw [hO]; simp)
  have HOC : Hid (∀ n, n < 16 → O.getD n 0 = ((l.take 0).map Int.toNat).count n) := Lib.hid (fun n hn => by rw [hO, List.getD_eq_getElem?_getD, List.getElem?_replicate, if_pos hn]; simp)
  clear hZ hb1 hb2 hO
  by_cases hbig : 320 < l.length
  · have hb : (l.length : Int) > 320 := by omega
    have HE := Lib.hid (wrongI_big hbig)
    obtain ⟨A, hgA, hsA, hA⟩ := HB2.out.open
    have HA := Lib.hid (congrArg List.toArray hA)
    clear hA
    go_enter Try.func130, Try.ntmps130
    go_wp2_with (first | (refine load_box rfl 173 16 _ rfl (w.heap.size + 1) rfl A hsA hgA _ Try.underlying173 rfl (by kernel_rfl) ?_) | (refine store_box rfl 173 16 _ _ rfl w.heap.size rfl (nls O) (nls O) (congrArg Value.agg HA.out) (by rw [nls_length]; exact HOL.out) (by kernel_rfl) HB3.out ?_; intro w2 hB2 hg2; have HB4 := Lib.hid hB2; have HG2 := Lib.hid hg2; clear hB2 hg2))
    refine ret_cell_tmp (s := 2) (b := 3) (ad := ⟨w.heap.size, 0, none⟩) (x := .agg (ints (nls O)).toArray) (y := .int .i64 3) rfl rfl rfl rfl (HB4.out.load _ Try.underlying173 rfl (by kernel_rfl)) ?_
    refine ⟨O, HOL.out, by rw [HE.out]; rfl, fun h0 => (by rw [HE.out] at h0; cases h0), ?_⟩
    exact HBL.out.grown HG2.out HBL.out.size (fun k hk => by cases hk; exact Nat.le_refl _)
  · have hb : ¬ (l.length : Int) > 320 := by omega
    go_enter Try.func130, Try.ntmps130
    go_wp2
    go_loopg [13] (l.length + 1) (fun gk i wr => ∃ (k : Nat) (c : List Nat), k ≤ l.length ∧ i = .int .i64 k ∧ Hid (c.length = 16) ∧ BoxA wr 173 16 (w.heap.size + 1) (nls c) ∧ BoxA wr 173 16 w.heap.size (nls O) ∧ Hid (∀ q, q < k → 0 ≤ l.getD q 0 ∧ l.getD q 0 ≤ 15) ∧ Hid (∀ n, n < 16 → c.getD n 0 = ((l.take k).map Int.toNat).count n) ∧ Below w.heap.size w wr ∧ gk = l.length + 1 - k)
    case atStart => exact ⟨0, O, Nat.zero_le _, rfl, HOL, HB2.out, HB3.out, Lib.hid (fun j hj => absurd hj (Nat.not_lt_zero j)), HOC, HBL.out, rfl⟩
    case round =>
      clear HB2 HB3 HBL HOC
      obtain ⟨k, c, hk, rfl, HCL, hb2, hb3, HALL, HCN, hbel, rfl⟩ := hrel
      have HB2 := Lib.hid hb2
      have HB3 := Lib.hid hb3
      have HBL := Lib.hid hbel
      have hsz := hbel.size
      clear hb2 hb3 hbel
      by_cases hlt : k < l.length
      · have hbb := hbk (by omega)
        have hcell := (HBL.out.cell (p := ⟨b, off + k, none⟩) hbb).trans (HC.out k hlt)
        have HW : Hid ((0 ≤ l.getD k 0 ∧ l.getD k 0 ≤ 15) → ∀ q, q < k + 1 → 0 ≤ l.getD q 0 ∧ l.getD q 0 ≤ 15) := Lib.hid (fun h q hq => by
          rcases Nat.lt_succ_iff_lt_or_eq.1 hq with h1 | rfl
          · exact HALL.out q h1
          · exact h)
        have HF : Hid (¬ (0 ≤ l.getD k 0 ∧ l.getD k 0 ≤ 15) → wrongI l = 1) := Lib.hid (wrongI_bad hbig hlt)
        have HST : Hid (∀ y : Nat, l.getD k 0 = (y : Int) → y < 16 → ∀ n, n < 16 → (c.set y (c.getD y 0 + 1)).getD n 0 = ((l.take (k + 1)).map Int.toNat).count n) := Lib.hid (fun y hy hy15 => cnt_step hlt hy HCL.out hy15 HCN.out)
        have HCB : Hid (∀ n, n < 16 → c.getD n 0 ≤ 320) := Lib.hid (fun n hn => by
          rw [HCN.out n hn]
          have := List.count_le_length (a := n) (l := (l.take k).map Int.toNat)
          simp only [List.length_map, List.length_take] at this
          omega)
        have hbb2 : b < wr.heap.size := by omega
        generalize l.getD k 0 = y at *
        by_cases hok : 0 ≤ y ∧ y ≤ 15
        · obtain ⟨h0, h1⟩ := hok
          obtain ⟨n, rfl⟩ : ∃ n : Nat, y = (n : Int) := ⟨y.toNat, by omega⟩
          have hn : n < 16 := by omega
          have hcn := HB2.out.cell hn
          rw [nls_getD] at hcn
          have hcb := HCB.out n hn
          have hfn := HB2.out.free n
          have hbg := HB2.out.lt
          have hset := HB2.out.set n ((c.getD n 0 : Nat) + 1)
          have HST2 := Lib.hid (HST.out n rfl hn)
          have HSET := Lib.hid hset
          clear hset
          have hns : nls c = nls c := rfl
          have HNS : Hid ((nls c).set n (((c.getD n 0 : Nat) : Int) + 1) = nls (c.set n (c.getD n 0 + 1))) := Lib.hid (by rw [← nls_set]; norm_cast)
          generalize c.getD n 0 = m at *
          go_wp2
          go_roundg (l.length - k)
          case measure => omega
          case rel =>
            refine ⟨k + 1, c.set n (m + 1), by omega, by go_num, Lib.hid (by rw [List.length_set]; exact HCL.out), ?_, ?_, Lib.hid (HW.out ⟨h0, h1⟩), Lib.hid HST2.out, ?_, by omega⟩
            · have := HSET.out.1
              rw [HNS.out] at this
              exact this
            · exact HB3.out.keep HSET.out.2 (by simp)
            · exact HBL.out.grown HSET.out.2 (by omega) (fun k hk => by cases hk; omega)
        · have HE := HF.out hok
          have HE2 := Lib.hid HE
          clear HE
          obtain ⟨A, hgA, hsA, hA⟩ := HB2.out.open
          have HA := Lib.hid (congrArg List.toArray hA)
          clear hA
          by_cases h0 : y < 0
          · go_wp2_with (first | (refine load_box rfl 173 16 _ rfl (w.heap.size + 1) rfl A hsA hgA _ Try.underlying173 rfl (by kernel_rfl) ?_) | (refine store_box rfl 173 16 _ _ rfl w.heap.size rfl (nls O) (nls c) (congrArg Value.agg HA.out) (by rw [nls_length]; exact HCL.out) (by kernel_rfl) HB3.out ?_; intro w2 hB2 hg2; have HB4 := Lib.hid hB2; have HG2 := Lib.hid hg2; clear hB2 hg2))
            refine ret_cell_tmp (s := 2) (b := 3) (ad := ⟨w.heap.size, 0, none⟩) (x := .agg (ints (nls c)).toArray) (y := .int .i64 1) rfl rfl rfl rfl (HB4.out.load _ Try.underlying173 rfl (by kernel_rfl)) ?_
            refine ⟨c, HCL.out, by rw [HE2.out]; rfl, fun h0 => (by rw [HE2.out] at h0; cases h0), ?_⟩
            exact HBL.out.grown HG2.out (by omega) (fun k hk => by cases hk; exact Nat.le_refl _)
          · have h1 : y > 15 := by omega
            go_wp2_with (first | (refine load_box rfl 173 16 _ rfl (w.heap.size + 1) rfl A hsA hgA _ Try.underlying173 rfl (by kernel_rfl) ?_) | (refine store_box rfl 173 16 _ _ rfl w.heap.size rfl (nls O) (nls c) (congrArg Value.agg HA.out) (by rw [nls_length]; exact HCL.out) (by kernel_rfl) HB3.out ?_; intro w2 hB2 hg2; have HB4 := Lib.hid hB2; have HG2 := Lib.hid hg2; clear hB2 hg2))
            refine ret_cell_tmp (s := 2) (b := 3) (ad := ⟨w.heap.size, 0, none⟩) (x := .agg (ints (nls c)).toArray) (y := .int .i64 1) rfl rfl rfl rfl (HB4.out.load _ Try.underlying173 rfl (by kernel_rfl)) ?_
            refine ⟨c, HCL.out, by rw [HE2.out]; rfl, fun h0 => (by rw [HE2.out] at h0; cases h0), ?_⟩
            exact HBL.out.grown HG2.out (by omega) (fun k hk => by cases hk; exact Nat.le_refl _)
      · obtain rfl : k = l.length := by omega
        have HE := Lib.hid (wrongI_ok hbig HALL.out)
        have hcn := HCN.out
        rw [List.take_length] at hcn
        have HCE := Lib.hid (cnts_end HCL.out hcn)
        clear hcn
        obtain ⟨A, hgA, hsA, hA⟩ := HB2.out.open
        have HA := Lib.hid (congrArg List.toArray hA)
        clear hA
        go_wp2_with (first | (refine load_box rfl 173 16 _ rfl (w.heap.size + 1) rfl A hsA hgA _ Try.underlying173 rfl (by kernel_rfl) ?_) | (refine store_box rfl 173 16 _ _ rfl w.heap.size rfl (nls O) (nls c) (congrArg Value.agg HA.out) (by rw [nls_length]; exact HCL.out) (by kernel_rfl) HB3.out ?_; intro w2 hB2 hg2; have HB4 := Lib.hid hB2; have HG2 := Lib.hid hg2; clear hB2 hg2))
        refine ret_cell_tmp (s := 2) (b := 3) (ad := ⟨w.heap.size, 0, none⟩) (x := .agg (ints (nls c)).toArray) (y := .int .i64 0) rfl rfl rfl rfl (HB4.out.load _ Try.underlying173 rfl (by kernel_rfl)) ?_
        refine ⟨c, HCL.out, by rw [HE.out]; rfl, fun _ => HCE.out, ?_⟩
        exact HBL.out.grown HG2.out (by omega) (fun k hk => by cases hk; exact Nat.le_refl _)
theorem totN_step_le (L : List Nat) (hl : L.length ≤ 320) (k : Nat) (hk : k < 15) : totN L k + L.count (k + 1) * 2 ^ (14 - k) ≤ 10485760 := by
  have := totN_le L (k + 1) (by omega)
  have h2 : L.length * 32768 ≤ 320 * 32768 := Nat.mul_le_mul_right _ hl
  exact Nat.le_trans this h2
set_option maxRecDepth 100000 in
theorem totalP (L : List Nat) (hl : L.length ≤ 320) (w : World) : Calls Try.prog 131 #[.agg (ints (nls (cntsN L))).toArray] w fun e w' => e = .returned (.int .i64 (totN L 15 : Nat)) ∧ ∃ x, w' = ext w x := by
  have hlc : (nls (cntsN L)).length = 16 := by simp [nls, cntsN]
  have hb := boxA_new w 173 (ints (nls (cntsN L))).toArray (nls (cntsN L)) rfl (by omega)
  rw [hlc] at hb
  have HGT : Hid (∀ n, n < 16 → (nls (cntsN L)).getD n 0 = (L.count n : Nat)) := Lib.hid (fun n hn => by rw [nls_getD, cntsN_getD L n hn])
  obtain ⟨C, hC⟩ : ∃ C, C = nls (cntsN L) := ⟨_, rfl⟩
  rw [← hC] at hb HGT ⊢
  clear hC hlc
  have HB := Lib.hid hb
  clear hb
  go_enter Try.func131, Try.ntmps131
  go_wp2
  go_loop [3, 5] (fun n i => ∃ k : Nat, k ≤ 15 ∧ i = .int .i64 k ∧ n = .int .i64 (totN L k : Nat)) (fun _ i => 15 - (intOf i).toNat)
  case atStart => exact ⟨0, Nat.zero_le _, rfl, rfl⟩
  case round =>
    obtain ⟨k, hk, rfl, rfl⟩ := hrel
    by_cases hlt : k < 15
    · have hcell := HB.out.cell (c := k + 1) (by omega)
      rw [HGT.out (k + 1) (by omega)] at hcell
      have hlt2 := HB.out.lt
      have hst := totN_step_le L hl k hlt
      have HS : Hid (totN L (k + 1) = totN L k + L.count (k + 1) * 2 ^ (14 - k)) := Lib.hid rfl
      have hcb := List.count_le_length (a := k + 1) (l := L)
      have e1 : (15 : Int) - (k : Int) - 1 = ((14 - k : Nat) : Int) := by omega
      have hk2 : 14 - k ≤ 14 := by omega
      generalize hm : 14 - k = m at *
      have HST := Lib.hid hst
      generalize totN L k = s at *
      generalize L.count (k + 1) = c at *
      have HPW : Hid (2 ^ m ≤ 16384) := Lib.hid (Nat.le_trans (Nat.pow_le_pow_right (by decide) hk2) (by decide))
      clear hst
      have hs1 : s ≤ 10485760 := by have := HST.out; omega
      have hn0 : (0 : Int) ≤ (k : Int) + 1 := by omega
      go_wp2
      go_round
      case rel =>
        refine ⟨k + 1, by omega, by go_num, ?_⟩
        have h1 := HST.out
        have h2 : ((c : Int) * (2 : Int) ^ m) = ((c * 2 ^ m : Nat) : Int) := by norm_cast
        rw [HS.out, h2]
        generalize c * 2 ^ m = q at *
        rw [IntWalk.wrap64_in (q : Int) ⟨by omega, by omega⟩, IntWalk.wrap64_in _ ⟨by omega, by omega⟩]
        norm_cast
      case measure => simp [intOf]; omega
    · obtain rfl : k = 15 := by omega
      go_wp2
      go_ret
      exact ⟨rfl, (ex_ext (by repeat (first | exact Below.refl _ _ | assumption | refine b_drewN ?_ _ | refine Below.drew ?_ | refine b_ext' ?_ _ | refine b_alloc' ?_ _)))⟩
/-- the first codes up to length k -/
def nextN (L : List Nat) (k : Nat) : List Nat := (List.range 16).map fun j => if j ≤ k then firstN L j else 0
theorem nextN_getD (L : List Nat) (k j : Nat) (h : j < 16) : (nextN L k).getD j 0 = if j ≤ k then firstN L j else 0 := by simp [nextN, List.getD, h]
theorem nextN_zero (L : List Nat) : nextN L 0 = List.replicate 16 0 := by
  rw [List.eq_replicate_iff]
  refine ⟨by simp [nextN], fun x hx => ?_⟩
  obtain ⟨q, -, rfl⟩ := List.mem_map.1 hx
  split
  · rename_i h; rw [show q = 0 by omega]; rfl
  · rfl
theorem nextN_one (L : List Nat) : nextN L 1 = nextN L 0 := by
  unfold nextN
  refine List.map_congr_left fun j _ => ?_
  by_cases h : j ≤ 0
  · rw [if_pos h, if_pos (by omega)]
  · rw [if_neg h]
    split
    · rw [show j = 1 by omega]; rfl
    · rfl
theorem nextN_set (L : List Nat) (k : Nat) (hk : 1 ≤ k) : (nextN L k).set (k + 1) (2 * (firstN L k + L.count k)) = nextN L (k + 1) := by
  refine List.ext_getElem (by simp [nextN]) fun j h1 h2 => ?_
  rw [List.getElem_set]
  simp only [nextN, List.getElem_map, List.getElem_range]
  by_cases h : k + 1 = j
  · subst h
    rw [if_pos rfl, if_pos (Nat.le_refl _), first_succ L k hk]
  · rw [if_neg h]
    by_cases h2 : j ≤ k
    · rw [if_pos h2, if_pos (by omega)]
    · rw [if_neg h2, if_neg (by omega)]
/-- the next code of each length, behind i symbols -/
def nxtN (L : List Nat) (i : Nat) : List Nat := (List.range 16).map fun j => if j = 0 then 0 else firstN L j + (L.take i).count j
theorem nxtN_zero (L : List Nat) : nextN L 15 = nxtN L 0 := by
  unfold nextN nxtN
  refine List.map_congr_left fun j hj => ?_
  have := List.mem_range.1 hj
  rw [if_pos (by omega), List.take_zero, List.count_nil, Nat.add_zero]
  split
  · rename_i h; subst h; rfl
  · rfl
theorem nxtN_getD (L : List Nat) (i j : Nat) (h : j < 16) (h0 : 0 < j) : (nxtN L i).getD j 0 = firstN L j + (L.take i).count j := by
  simp [nxtN, List.getD, h]; omega
theorem nxtN_skip (L : List Nat) (i : Nat) (hi : i < L.length) (h : L.getD i 0 = 0) : nxtN L (i + 1) = nxtN L i := by
  unfold nxtN
  refine List.map_congr_left fun j _ => ?_
  split
  · rfl
  · rw [count_take_succ L i j hi, if_neg (by omega), Nat.add_zero]
theorem nxtN_set (L : List Nat) (i : Nat) (hi : i < L.length) (h : 0 < L.getD i 0) : (nxtN L i).set (L.getD i 0) (firstN L (L.getD i 0) + (L.take i).count (L.getD i 0) + 1) = nxtN L (i + 1) := by
  refine List.ext_getElem (by simp [nxtN]) fun j h1 h2 => ?_
  rw [List.getElem_set]
  simp only [nxtN, List.getElem_map, List.getElem_range]
  by_cases he : L.getD i 0 = j
  · subst he
    rw [if_pos rfl, if_neg (by omega), count_take_succ L i _ hi, if_pos rfl, Nat.add_assoc]
  · rw [if_neg he]
    split
    · rfl
    · rw [count_take_succ L i j hi, if_neg he, Nat.add_zero]
/-- the codes of the symbols below i -/
def outN (L : List Nat) (i : Nat) : List Nat := (List.range L.length).map fun q => if q < i then codeN L q else 0
theorem outN_length (L : List Nat) (i : Nat) : (outN L i).length = L.length := by simp [outN]
theorem outN_zero (L : List Nat) : outN L 0 = List.replicate L.length 0 := by
  rw [List.eq_replicate_iff]
  refine ⟨by simp [outN], fun x hx => ?_⟩
  obtain ⟨q, -, rfl⟩ := List.mem_map.1 hx
  rw [if_neg (by omega)]
theorem outN_all (L : List Nat) : outN L L.length = codesN L := by
  unfold outN codesN
  refine List.map_congr_left fun q hq => ?_
  rw [if_pos (List.mem_range.1 hq)]
theorem outN_set (L : List Nat) (i : Nat) : (outN L i).set i (codeN L i) = outN L (i + 1) := by
  refine List.ext_getElem (by simp [outN]) fun q h1 h2 => ?_
  rw [List.getElem_set]
  simp only [outN, List.getElem_map, List.getElem_range]
  by_cases he : i = q
  · subst he; rw [if_pos rfl, if_pos (by omega)]
  · rw [if_neg he]
    by_cases h3 : q < i
    · rw [if_pos h3, if_pos (by omega)]
    · rw [if_neg h3, if_neg (by omega)]
theorem outN_skip (L : List Nat) (i : Nat) (h : L.getD i 0 = 0) : outN L (i + 1) = outN L i := by
  unfold outN
  refine List.map_congr_left fun q _ => ?_
  by_cases he : q = i
  · subst he; rw [if_pos (by omega), if_neg (by omega)]; unfold codeN; rw [if_pos h]
  · by_cases h3 : q < i
    · rw [if_pos h3, if_pos (by omega)]
    · rw [if_neg h3, if_neg (by omega)]
theorem code_pos (L : List Nat) (i : Nat) (h : 0 < L.getD i 0) : codeN L i = firstN L (L.getD i 0) + (L.take i).count (L.getD i 0) := by
  unfold codeN rankN; rw [if_neg (by omega)]
set_option maxRecDepth 100000 in
set_option maxHeartbeats 1000000 in
theorem codesP (v : Value) (l : List Int) (w : World) (h : IntsAt w v l) : Calls Try.prog 112 #[v] w (RetCodes l w) := by
  have HWR : Hid (∀ w', Below w.heap.size w w' → Calls Try.prog 130 #[v] w' (RetCounts l w')) := Lib.hid (fun w' hb => countsP v l w' (h.up hb))
  have hz := zero_16
  obtain ⟨Z, hZ⟩ : ∃ Z, Z = z16 := ⟨_, rfl⟩
  rw [← hZ] at hz
  have HZ := Lib.hid hZ
  clear hZ
  by_cases hw0 : wrongI l = 0
  · obtain ⟨hlen, hall⟩ := wrongI_zero hw0
    obtain ⟨L, rfl, h15⟩ := nls_of hall
    rw [nls_length] at hlen
    have he := errI_nls hlen h15
    have HTP := Lib.hid (totalP L hlen)
    have HTA := Lib.hid (totN_all L h15)
    have HCE : Hid (∀ c : List Nat, c.length = 16 → c = cntsN L → ∀ n, n < 16 → (nls c).getD n 0 = (L.count n : Nat)) := Lib.hid (fun c _ hc n hn => by rw [hc, nls_getD, cntsN_getD L n hn])
    unfold RetCounts at HWR
    rw [hw0] at HWR
    obtain ⟨oa, cap, b, off, rfl, hd, hc⟩ := h.open
    rw [nls_length] at hd hc
    unfold RetCodes
    rw [nls_length] at HWR ⊢
    rw [nls_toNat] at HWR ⊢
    have hix := index_any (P := Try.prog) 39 3 Try.underlying39 (by kernel_rfl) hd
    have hm := hd.len
    have hbk := hd.hblk
    have HC := Lib.hid hc; clear hc h hd hw0 hall
    rw [HTA.out] at HTP
    by_cases hk : 32768 < kraftN L
    · rw [if_pos hk] at he
      have hk2 : (kraftN L : Int) > 32768 := by omega
      clear HTA
      generalize kraftN L = K at *
      go_enter Try.func112, Try.ntmps112
      go_wp2_with (first | (go_at_call 130; refine (HWR.out _ (by repeat (first | exact Below.refl _ _ | assumption | refine b_drewN ?_ _ | refine Below.drew ?_ | refine b_ext' ?_ _ | refine b_alloc' ?_ _))).mono ?_; rintro e w1 ⟨c, hc1, rfl, hc2, hc3⟩; have HC1 := Lib.hid hc1; have HC2 := Lib.hid hc2; have HC3 := Lib.hid hc3; clear hc1 hc2 hc3) | (refine store_box rfl 173 16 _ _ rfl w1.heap.size rfl (nls (List.replicate 16 0)) (nls c) rfl (by rw [nls_length]; exact HC1.out) (by kernel_rfl) (box16 w1 Z HZ.out) ?_; intro w2 hb2 hg2; (obtain ⟨A, hgA, hsA, hA⟩ := hb2.open; have HAE := Lib.hid (congrArg List.toArray hA); have HB2 := Lib.hid hb2; have HG2 := Lib.hid hg2; have HT2 := Lib.hid (HTP.out); rw [← HC2.out (by trivial), ← HAE.out] at HT2; clear hb2 hg2 hA)) | (refine load_box rfl 173 16 _ rfl w1.heap.size rfl A hsA hgA _ Try.underlying173 rfl (by kernel_rfl) ?_) | (go_at_call 131; refine (HT2.out _).mono ?_; rintro e w3 ⟨rfl, y, rfl⟩))
      go_ret2
      have hb2 : Below w.heap.size w w2 := (HC3.out.trans ((below_alloc w1 _).mono HC3.out.size)).grown HG2.out (Nat.le_trans HC3.out.size (by simp)) (fun k hk => by cases hk; exact HC3.out.size)
      exact ⟨.slice none 0 0, rfl, Own.nil _ _ _, (by repeat (first | exact Below.refl _ _ | assumption | refine b_drewN ?_ _ | refine Below.drew ?_ | refine b_ext' ?_ _ | refine b_alloc' ?_ _))⟩
    · rw [if_neg hk] at he
      have hk2 : ¬ (kraftN L : Int) > 32768 := by omega
      have HK : Hid (kraftN L ≤ 32768) := Lib.hid (by omega)
      have HFU := Lib.hid (full_le h15 HK.out)
      have HFL := Lib.hid (first_le h15 HK.out)
      have H15 : Hid (∀ i, i < L.length → L.getD i 0 ≤ 15) := Lib.hid (fun i hi => h15 _ (getD_mem L i 0 hi))
      rw [he]
      clear h15 he HTA
      generalize kraftN L = K at *
      have hmk := run_mk (P := Try.prog) 39 3 (.int .i64 0) 8 L.length Try.underlying39 (by kernel_rfl) rfl (by decide) (by omega)
      go_enter Try.func112, Try.ntmps112
      go_wp2_with (first | (go_at_call 130; refine (HWR.out _ (by repeat (first | exact Below.refl _ _ | assumption | refine b_drewN ?_ _ | refine Below.drew ?_ | refine b_ext' ?_ _ | refine b_alloc' ?_ _))).mono ?_; rintro e w1 ⟨c, hc1, rfl, hc2, hc3⟩; have HC1 := Lib.hid hc1; have HC2 := Lib.hid hc2; have HC3 := Lib.hid hc3; clear hc1 hc2 hc3) | (refine store_box rfl 173 16 _ _ rfl w1.heap.size rfl (nls (List.replicate 16 0)) (nls c) rfl (by rw [nls_length]; exact HC1.out) (by kernel_rfl) (box16 w1 Z HZ.out) ?_; intro w2 hb2 hg2; (obtain ⟨A, hgA, hsA, hA⟩ := hb2.open; have HAE := Lib.hid (congrArg List.toArray hA); have HB2 := Lib.hid hb2; have HG2 := Lib.hid hg2; have HT2 := Lib.hid (HTP.out); rw [← HC2.out (by trivial), ← HAE.out] at HT2; clear hb2 hg2 hA)) | (refine load_box rfl 173 16 _ rfl w1.heap.size rfl A hsA hgA _ Try.underlying173 rfl (by kernel_rfl) ?_) | (go_at_call 131; refine (HT2.out _).mono ?_; rintro e w3 ⟨rfl, y, rfl⟩))
      have hb2 : Below w.heap.size w w2 := (HC3.out.trans ((below_alloc w1 _).mono HC3.out.size)).grown HG2.out (Nat.le_trans HC3.out.size (by simp)) (fun k hk => by cases hk; exact HC3.out.size)
      have hb3 : Below w.heap.size w ((ext w2 y).alloc (.cells Z 173)) := (by repeat (first | exact Below.refl _ _ | assumption | refine b_drewN ?_ _ | refine Below.drew ?_ | refine b_ext' ?_ _ | refine b_alloc' ?_ _))
      have hn0 := box16 (ext w2 y) Z HZ.out
      rw [← nextN_zero L] at hn0
      have hc0 := (HB2.out.up (ext_below w2 y)).up (below_alloc (ext w2 y) (.cells Z 173))
      have hgc : w.heap.size ≤ w1.heap.size := HC3.out.size
      have hgn : w.heap.size ≤ (ext w2 y).heap.size := Nat.le_trans hb2.size (size_ext _ _)
      have hne : w1.heap.size ≠ (ext w2 y).heap.size := by have := HB2.out.lt; have := size_ext w2 y; omega
      have HN := Lib.hid hn0
      have HCC := Lib.hid hc0
      have HBL := Lib.hid hb3
      have HCE2 := Lib.hid (HCE.out c HC1.out (HC2.out (by trivial)))
      clear hb2 hb3 hn0 hc0 HB2 HG2 HC3 HT2 HAE hgA hsA HWR HTP HC1 HC2
      generalize (ext w2 y).alloc (.cells Z 173) = w4 at *
      generalize (ext w2 y).heap.size = gn at *
      generalize w1.heap.size = gc at *
      generalize nls c = C at *
      go_loopg [24] 15 (fun gk i wr => ∃ k : Nat, k ≤ 15 ∧ i = .int .i64 k ∧ BoxA wr 173 16 gn (nls (nextN L k)) ∧ BoxA wr 173 16 gc C ∧ Below w.heap.size w wr ∧ gk = 15 - k)
      case atStart => exact ⟨0, Nat.zero_le _, rfl, HN.out, HCC.out, HBL.out, rfl⟩
      case round =>
        clear HN HCC HBL
        obtain ⟨k, hk, rfl, hn0, hc0, hb0, rfl⟩ := hrel
        have HN := Lib.hid hn0
        have HCC := Lib.hid hc0
        have HBL := Lib.hid hb0
        have hszb := hb0.size
        clear hn0 hc0 hb0
        by_cases hlt : k < 15
        · by_cases h1 : 1 ≤ k
          · have hkp : (k : Int) > 0 := by omega
            have hcn := HN.out.cell (c := k) (by omega)
            rw [nls_getD, nextN_getD L k k (by omega), if_pos (Nat.le_refl _)] at hcn
            have hcc := HCC.out.cell (c := k) (by omega)
            rw [HCE2.out k (by omega)] at hcc
            have hfn := HN.out.free (k + 1)
            have hcn2 := HN.out.cell (c := k + 1) (by omega)
            generalize (nls (nextN L k)).getD (k + 1) 0 = z at *
            have hln := HN.out.lt
            have hlc := HCC.out.lt
            have HSET := Lib.hid (nextN_set L k h1)
            have hful : firstN L k + L.count k ≤ 32768 := Nat.le_trans (HFU.out k h1 (by omega)) (Nat.le_trans (Nat.pow_le_pow_right (by decide) (show k ≤ 15 by omega)) (by decide))
            have hst := HN.out.set (k + 1) (2 * (firstN L k + L.count k) : Nat)
            rw [nls_set, HSET.out] at hst
            have HST := Lib.hid hst
            clear hst
            generalize firstN L k = f at *
            generalize L.count k = m at *
            have e2 : ((2 * (f + m) : Nat) : Int) = ((f : Int) + (m : Int)) * 2 := by omega
            rw [e2] at HST
            clear e2
            go_wp2
            refine wp_region_tailg [0,1,2,3,4,5,6,7,8,9,10] [] [11] (by kernel_rfl) (by kernel_rfl) ?_
            simp only [pick, List.map_cons, List.map_nil, List.getD_cons_zero, List.getD_cons_succ]
            repeat (go_big_quiet_step (fail))
            refine wpQuiet_nil ?_
            unfold wpAct
            unfold wpAct
            go_wp2
            refine ⟨trivial, ?_⟩
            unfold wpAct
            go_wp2
            go_roundg (15 - (k + 1))
            case measure => omega
            case rel =>
              refine ⟨k + 1, by omega, by go_num, ?_, ?_, ?_, rfl⟩
              · have h5 := HST.out.1.up (below_drewN _ 1)
                rw [← World.drew_is_drewN] at h5
                exact h5
              · have h5 := (HCC.out.keep HST.out.2 (by simp; omega)).up (below_drewN _ 1)
                rw [← World.drew_is_drewN] at h5
                exact h5
              · have h5 := (HBL.out.grown HST.out.2 (by omega) (fun k hk => by cases hk; exact hgn)).trans ((below_drewN _ 1).mono (by have := HST.out.2.size; omega))
                rw [← World.drew_is_drewN] at h5
                exact h5
          · obtain rfl : k = 0 := by omega
            have HN1 := Lib.hid (nextN_one L)
            go_wp2
            go_roundg (15 - 1)
            case measure => omega
            case rel =>
              refine ⟨1, by omega, by go_num, ?_, HCC.out, HBL.out, rfl⟩
              rw [HN1.out]; exact HN.out
        · obtain rfl : k = 15 := by omega
          rw [nxtN_zero] at HN
          have hgw := HN.out.lt
          have hown := own_made wr w.heap.size 3 (.int .i64 0) L.length HBL.out.size (by omega)
          have e : ints (nls (outN L 0)) = List.replicate L.length (Value.int .i64 0) := by rw [outN_zero]; simp [ints, nls]
          rw [← e] at hown
          have HO := Lib.hid hown
          have HN5 := Lib.hid (HN.out.up (below_alloc wr (.cells (madeCells #[Value.int .i64 0] L.length) 3)))
          have HBL5 := Lib.hid (HBL.out.alloc HBL.out.size (.cells (madeCells #[Value.int .i64 0] L.length) 3))
          have hnew : gn ≠ wr.heap.size := by omega
          clear hown e hgw HN HCC HBL
          go_wp2
          generalize wr.alloc (.cells (madeCells #[Value.int .i64 0] L.length) 3) = w5 at *
          generalize wr.heap.size = g8 at *
          go_loopg [46] L.length (fun gk i wr => ∃ k : Nat, k ≤ L.length ∧ i = .int .i64 k ∧ BoxA wr 173 16 gn (nls (nxtN L k)) ∧ Own wr w.heap.size 3 (.slice (some ⟨g8, 0, none⟩) L.length L.length) (ints (nls (outN L k))) ∧ Below w.heap.size w wr ∧ gk = L.length - k)
          case atStart => exact ⟨0, Nat.zero_le _, rfl, HN5.out, HO.out, HBL5.out, rfl⟩
          case round =>
            clear HN5 HO HBL5
            obtain ⟨i, hi, rfl, hn0, ho0, hb0, rfl⟩ := hrel
            have HN := Lib.hid hn0
            have HO := Lib.hid ho0
            have HBL := Lib.hid hb0
            have hszb := hb0.size
            clear hn0 ho0 hb0
            by_cases hlt : i < L.length
            · have hbb := hbk (by omega)
              have hcell := (HBL.out.cell (p := ⟨b, off + i, none⟩) hbb).trans (HC.out i hlt)
              rw [nls_getD] at hcell
              have hbb2 : b < wr.heap.size := by omega
              have hx15 := H15.out i hlt
              have HSK := Lib.hid (nxtN_skip L i hlt)
              have HOSK := Lib.hid (outN_skip L i)
              have HSET := Lib.hid (nxtN_set L i hlt)
              have HGD := Lib.hid (nxtN_getD L i (L.getD i 0) (by omega))
              have HCP := Lib.hid (code_pos L i)
              have HOS := Lib.hid (outN_set L i)
              have HFX := Lib.hid (fun h => HFU.out (L.getD i 0) h hx15)
              have HLE : Hid ((L.take i).count (L.getD i 0) ≤ L.count (L.getD i 0)) := Lib.hid (List.Sublist.count_le _ (List.take_sublist _ _))
              generalize L.getD i 0 = x at *
              by_cases hx0 : 0 < x
              · have hxp : (x : Int) > 0 := by omega
                have hcn := HN.out.cell (c := x) (by omega)
                rw [nls_getD, HGD.out hx0] at hcn
                have hfn := HN.out.free x
                have hln := HN.out.lt
                have h2x : 2 ^ x ≤ 32768 := Nat.le_trans (Nat.pow_le_pow_right (by decide) (show x ≤ 15 by omega)) (by decide)
                have hcb : firstN L x + (L.take i).count x ≤ 32768 := by have := HFX.out hx0; have := HLE.out; omega
                have hS := HSET.out hx0
                have hO := HOS.out
                rw [HCP.out hx0] at hO
                generalize firstN L x + (L.take i).count x = c at *
                have hoc := HO.out.cell (i := i) (by rw [ints_length, nls_length, outN_length]; exact hlt)
                rw [ints_getD _ _ (by rw [nls_length, outN_length]; exact hlt)] at hoc
                have hof := HO.out.free i
                have hob := HO.out.blk
                generalize (nls (outN L i)).getD i 0 = z at *
                have hst1 := HO.out.store i (.int .i64 (c : Nat))
                rw [ints_set', nls_set, hO] at hst1
                have hn1 := HN.out.keep hst1.2 (by simp; omega)
                have hst2 := hn1.set x ((c + 1 : Nat) : Int)
                rw [nls_set, hS] at hst2
                have HST1 := Lib.hid hst1
                have HST2 := Lib.hid hst2
                have hi2 : i < 4294967296 := by omega
                clear hS hO hst1 hst2 hn1 h2x
                go_wp2
                go_roundg (L.length - (i + 1))
                case measure => omega
                case rel =>
                  refine ⟨i + 1, by omega, by go_num, HST2.out.1, HST1.out.1.keep HST2.out.2 (.inr (by simp [Value.ownBlock]; omega)), ?_, rfl⟩
                  have h5 := HBL.out.grown HST1.out.2 (by omega) (fun k hk => by cases hk; exact hob.1)
                  exact h5.grown HST2.out.2 h5.size (fun k hk => by cases hk; exact hgn)
              · obtain rfl : x = 0 := by omega
                go_wp2
                go_roundg (L.length - (i + 1))
                case measure => omega
                case rel =>
                  refine ⟨i + 1, by omega, by go_num, ?_, ?_, HBL.out, rfl⟩
                  · rw [HSK.out (by trivial)]; exact HN.out
                  · rw [HOSK.out (by trivial)]; exact HO.out
            · obtain rfl : i = L.length := by omega
              have HOA := Lib.hid (outN_all L)
              go_wp2
              go_ret2
              refine ⟨.slice (some ⟨g8, 0, none⟩) L.length L.length, rfl, ?_, HBL.out⟩
              rw [← HOA.out]
              exact HO.out
  · have he := errI_of_wrong hw0
    have hne : ¬ (wrongI l : Int) = 0 := by omega
    have hne2 : ¬ errI l = 0 := by omega
    unfold RetCodes
    rw [if_neg hne2, he]
    clear h he hne2
    unfold RetCounts at HWR
    generalize wrongI l = n at *
    go_enter Try.func112, Try.ntmps112
    go_wp2_with (first | (go_at_call 130; refine (HWR.out _ (by repeat (first | exact Below.refl _ _ | assumption | refine b_drewN ?_ _ | refine Below.drew ?_ | refine b_ext' ?_ _ | refine b_alloc' ?_ _))).mono ?_; rintro e w1 ⟨c, hc1, rfl, hc2, hc3⟩; have HC1 := Lib.hid hc1; have HC2 := Lib.hid hc2; have HC3 := Lib.hid hc3; clear hc1 hc2 hc3) | (refine store_box rfl 173 16 _ _ rfl w1.heap.size rfl (nls (List.replicate 16 0)) (nls c) rfl (by rw [nls_length]; exact HC1.out) (by kernel_rfl) (box16 w1 Z HZ.out) ?_; intro w2 hb2 hg2; have HB2 := Lib.hid hb2; have HG2 := Lib.hid hg2; clear hb2 hg2))
    go_ret2
    exact ⟨.slice none 0 0, rfl, Own.nil _ _ _, (HC3.out.trans ((below_alloc w1 _).mono HC3.out.size)).grown HG2.out (Nat.le_trans HC3.out.size (by simp)) (fun k hk => by cases hk; exact HC3.out.size)⟩
end Go.Cm

/- The walks of the functions that turn bits. Conditions: none. -/
namespace Go.Cm
open Go.RowKit Go.Proofs

theorem many (n : Int) (w : World) : Calls Try.prog 91 #[.int .i64 n] w fun e w' => e = .returned (.bool (decide (0 ≤ n ∧ n ≤ 32))) ∧ w' = w := by
  by_cases h1 : 0 ≤ n
  · by_cases h2 : n ≤ 32
    · go_enter Try.func91, Try.ntmps91
      go_wp2
      go_ret
      exact ⟨by simp [h1, h2], rfl⟩
    · go_enter Try.func91, Try.ntmps91
      go_wp2
      go_ret
      exact ⟨by simp [h2], rfl⟩
  · go_enter Try.func91, Try.ntmps91
    go_wp2
    go_ret
    exact ⟨by simp; omega, rfl⟩
theorem u32_bits (a b : Nat) (ha : a < 4294967296) (hb : b < 4294967296) : bits .and .u32 a b = ((a &&& b : Nat) : Int) ∧ bits .or .u32 a b = ((a ||| b : Nat) : Int) :=
  bits_nat .u32 32 (by decide) (fun n h0 h1 => by rw [IntKind.wrap_u32]; omega) a b ha hb
theorem step_val (x m s p : Nat) (hx : x < 4294967296) (hm : m < 4294967296) (hp : p = 2 ^ s) : bits .or .u32 (bits .and .u32 ((x : Int) / (p : Int)) (m : Int)) (bits .and .u32 (x : Int) (m : Int) * (p : Int) % 4294967296) = ((step1 m s x : Nat) : Int) := by
  have e1 : (x : Int) / (p : Int) = ((x / p : Nat) : Int) := (Int.natCast_ediv x p).symm
  have h1 : x / p < 4294967296 := Nat.lt_of_le_of_lt (Nat.div_le_self _ _) hx
  have h2 : x &&& m < 4294967296 := Nat.and_lt_two_pow (n := 32) _ hm
  have e2 : ((x &&& m : Nat) : Int) * (p : Int) % 4294967296 = (((x &&& m) * p % 4294967296 : Nat) : Int) := by rw [Int.natCast_emod, Int.natCast_mul]; rfl
  rw [e1, (u32_bits _ _ h1 hm).1, (u32_bits _ _ hx hm).1, e2, (u32_bits _ _ (Nat.and_lt_two_pow (n := 32) _ hm) (Nat.mod_lt _ (by decide))).2]
  unfold step1
  rw [Nat.shiftRight_eq_div_pow, Nat.shiftLeft_eq, hp]
theorem step1_lt (m s x : Nat) (hm : m < 4294967296) : step1 m s x < 4294967296 := by
  unfold step1
  exact Nat.or_lt_two_pow (n := 32) (Nat.and_lt_two_pow (n := 32) _ hm) (Nat.mod_lt _ (by decide))
def revB (x : Nat) : Nat := (step1 16711935 8 x >>> 16) ||| ((step1 16711935 8 x <<< 16) % 4294967296)
theorem halves_val (e : Nat) (he : e < 4294967296) : bits .or .u32 ((e : Int) / 65536) ((e : Int) * 65536 % 4294967296) = (((e >>> 16) ||| ((e <<< 16) % 4294967296) : Nat) : Int) := by
  have e1 : (e : Int) / 65536 = ((e / 65536 : Nat) : Int) := (Int.natCast_ediv e 65536).symm
  have e2 : (e : Int) * 65536 % 4294967296 = ((e * 65536 % 4294967296 : Nat) : Int) := by rw [Int.natCast_emod, Int.natCast_mul]; rfl
  rw [e1, e2, (u32_bits _ _ (by omega) (Nat.mod_lt _ (by decide))).2, Nat.shiftRight_eq_div_pow, Nat.shiftLeft_eq]
theorem revBytes (x : Nat) (hx : x < 4294967296) (w : World) : Calls Try.prog 144 #[.int .u32 x] w fun e w' => e = .returned (.int .u32 (revB x : Nat)) ∧ w' = w := by
  have h1 : bits .or .u32 (bits .and .u32 ((x : Int) / 256) 16711935) (bits .and .u32 (x : Int) 16711935 * 256 % 4294967296) = ((step1 16711935 8 x : Nat) : Int) := step_val x 16711935 8 256 hx (by decide) (by decide)
  have h2 := halves_val (step1 16711935 8 x) (step1_lt _ _ _ (by decide))
  have HR : Hid (revB x = (step1 16711935 8 x >>> 16) ||| ((step1 16711935 8 x <<< 16) % 4294967296)) := Lib.hid rfl
  rw [← HR.out] at h2
  generalize revB x = y at *
  have hl := step1_lt 16711935 8 x (by decide)
  generalize step1 16711935 8 x = e at *
  go_enter Try.func144, Try.ntmps144
  go_wp2
  go_ret
  exact ⟨rfl, rfl⟩
theorem rev (x : Nat) (hx : x < 4294967296) (w : World) : Calls Try.prog 133 #[.int .u32 x] w fun e w' => e = .returned (.int .u32 (rev32 x : Nat)) ∧ w' = w := by
  have h1 : bits .or .u32 (bits .and .u32 ((x : Int) / 2) 1431655765) (bits .and .u32 (x : Int) 1431655765 * 2 % 4294967296) = ((step1 1431655765 1 x : Nat) : Int) := step_val x 1431655765 1 2 hx (by decide) (by decide)
  have HR : Hid (revB (step1 252645135 4 (step1 858993459 2 (step1 1431655765 1 x))) = rev32 x) := Lib.hid rfl
  have l1 := step1_lt 1431655765 1 x (by decide)
  generalize step1 1431655765 1 x = a at *
  have h2 : bits .or .u32 (bits .and .u32 ((a : Int) / 4) 858993459) (bits .and .u32 (a : Int) 858993459 * 4 % 4294967296) = ((step1 858993459 2 a : Nat) : Int) := step_val a 858993459 2 4 l1 (by decide) (by decide)
  have l2 := step1_lt 858993459 2 a (by decide)
  generalize step1 858993459 2 a = b at *
  have h3 : bits .or .u32 (bits .and .u32 ((b : Int) / 16) 252645135) (bits .and .u32 (b : Int) 252645135 * 16 % 4294967296) = ((step1 252645135 4 b : Nat) : Int) := step_val b 252645135 4 16 l2 (by decide) (by decide)
  have l3 := step1_lt 252645135 4 b (by decide)
  generalize step1 252645135 4 b = c at *
  go_enter Try.func133, Try.ntmps133
  go_wp2_with (go_at_call 144; refine (revBytes c l3 _).mono ?_; rintro e w' ⟨rfl, rfl⟩; rw [HR.out])
  go_ret
  exact ⟨rfl, rfl⟩
theorem turnP (v n : Nat) (hn : n ≤ 32) (w : World) : Calls Try.prog 117 #[.int .i64 v, .int .i64 n] w fun e w' => e = .returned (.int .i64 (turnN v n : Nat)) ∧ w' = w := by
  by_cases h0 : n = 0
  · subst h0
    have hz : ((0 : Nat) : Int) = 0 := rfl
    go_enter Try.func117, Try.ntmps117
    go_wp2_with (go_at_call 91; refine (many _ _).mono ?_; rintro e w' ⟨rfl, rfl⟩)
    go_ret
    exact ⟨rfl, rfl⟩
  · have hd : decide (0 ≤ (n : Int) ∧ (n : Int) ≤ 32) = true := by simp; omega
    have hn0 : ¬ (n : Int) = 0 := by omega
    have hp : 1 ≤ n := by omega
    have HT := Lib.hid (rev32_turn v n hn)
    obtain ⟨y, hy⟩ : ∃ y, y = v % 4294967296 := ⟨_, rfl⟩
    have hyl : y < 4294967296 := by rw [hy]; exact Nat.mod_lt _ (by decide)
    have hcv : (v : Int) % 4294967296 = (y : Int) := by rw [hy]; exact (Int.natCast_emod v 4294967296).symm
    rw [show (2 ^ 32 : Nat) = 4294967296 from rfl, ← hy] at HT
    clear hy
    go_enter Try.func117, Try.ntmps117
    go_wp2_with (first | (go_at_call 91; refine (many _ _).mono ?_; rintro e w' ⟨rfl, rfl⟩; rw [hd]) | (go_at_call 133; refine (rev y hyl _).mono ?_; rintro e w' ⟨rfl, rfl⟩; generalize rev32 y = r at *))
    go_ret
    have hT := HT.out
    have e1 : (r : Int) / ((2 ^ (32 - n) : Nat) : Int) = ((turnN v n : Nat) : Int) := by
      rw [← hT, Nat.shiftRight_eq_div_pow]; exact (Int.natCast_ediv _ _).symm
    have hlt := turnN_lt v n
    have h32 : 2 ^ n ≤ 2 ^ 32 := Nat.pow_le_pow_right (by decide) hn
    refine ⟨?_, rfl⟩
    have e2 : (r : Int) / 2 ^ (32 - n) = ((turnN v n : Nat) : Int) := by rw [← e1]; norm_cast
    show Ending.returned (Value.int .i64 (wrap64 ((r : Int) / 2 ^ (32 - n)))) = _
    rw [e2, IntWalk.wrap64_in _ ⟨by omega, by omega⟩]
end Go.Cm

/- A bit writer's state as a number and a length, and the block it lies in. Conditions: none. -/
namespace Go.Cm
open Go.RowKit Go.Proofs

/-- a byte of a number -/
def byteAt (N i : Nat) : Nat := N / 256 ^ i % 256
def bytesN (N k : Nat) : List Value := (List.range k).map fun i => .int .u8 (byteAt N i : Nat)
/-- the bits, a value each -/
def bitsN (N L : Nat) : List Value := (List.range L).map fun i => .int .u8 ((N.testBit i).toNat : Nat)
/-- the text of the bits -/
def textN (N L : Nat) : List UInt8 := (List.range ((L + 7) / 8)).map fun i => UInt8.ofNat (byteAt N i)
theorem bytesN_length (N k : Nat) : (bytesN N k).length = k := by simp [bytesN]
theorem byteAt_lt (N i : Nat) : byteAt N i < 256 := Nat.mod_lt _ (by decide)
theorem bytesN_succ (N k : Nat) : bytesN N (k + 1) = bytesN N k ++ [.int .u8 (byteAt N k : Nat)] := by simp [bytesN, List.range_succ]
theorem pow256 (i : Nat) : 256 ^ i = 2 ^ (8 * i) := by rw [Nat.pow_mul]
theorem byteAt_add (N v L i : Nat) (hi : i < L / 8) : byteAt (N + v * 2 ^ L) i = byteAt N i := by
  unfold byteAt
  obtain ⟨q, rfl⟩ : ∃ q, L = 8 * i + 8 + q := ⟨L - (8 * i + 8), by omega⟩
  rw [pow256, show v * 2 ^ (8 * i + 8 + q) = (v * 2 ^ q * 256) * 2 ^ (8 * i) by rw [Nat.pow_add, Nat.pow_add]; rw [show (2 : Nat) ^ 8 = 256 by decide]; ac_rfl, Nat.add_mul_div_right _ _ (Nat.pow_pos (by decide)), Nat.add_mul_mod_self_right]
theorem bytesN_add (N v L : Nat) : bytesN (N + v * 2 ^ L) (L / 8) = bytesN N (L / 8) := by
  unfold bytesN
  refine List.map_congr_left fun i hi => ?_
  rw [byteAt_add N v L i (List.mem_range.1 hi)]
theorem rest_add (N v L : Nat) : (N + v * 2 ^ L) / 256 ^ (L / 8) = N / 256 ^ (L / 8) + v * 2 ^ (L % 8) := by
  have h : v * 2 ^ L = (v * 2 ^ (L % 8)) * 256 ^ (L / 8) := by
    rw [pow256, Nat.mul_assoc, ← Nat.pow_add, Nat.mod_add_div]
  rw [h, Nat.add_mul_div_right _ _ (Nat.pow_pos (by decide))]
theorem rest_lt (N L : Nat) (h : N < 2 ^ L) : N / 256 ^ (L / 8) < 2 ^ (L % 8) := by
  rw [pow256, Nat.div_lt_iff_lt_mul (Nat.pow_pos (by decide)), ← Nat.pow_add, Nat.mod_add_div]; exact h
theorem rest_next (N k : Nat) : N / 256 ^ k / 256 = N / 256 ^ (k + 1) := by rw [Nat.div_div_eq_div_mul, Nat.pow_succ]
theorem num_add_lt {N v L n : Nat} (hN : N < 2 ^ L) (hv : v < 2 ^ n) : N + v * 2 ^ L < 2 ^ (L + n) := by
  rw [Nat.pow_add]
  calc N + v * 2 ^ L < 2 ^ L + v * 2 ^ L := by omega
    _ = (v + 1) * 2 ^ L := by rw [Nat.add_mul]; omega
    _ ≤ 2 ^ n * 2 ^ L := Nat.mul_le_mul_right _ hv
    _ = 2 ^ L * 2 ^ n := Nat.mul_comm _ _
theorem or_add (a v n : Nat) (ha : a < 2 ^ n) : a ||| v * 2 ^ n = a + v * 2 ^ n := by
  have h := Nat.two_pow_add_eq_or_of_lt ha v
  rw [Nat.or_comm, Nat.mul_comm v, ← h, Nat.add_comm]
theorem or_u64 (a v n : Nat) (ha : a < 2 ^ n) (hn : n < 8) (hv : v < 4294967296) : bits .or .u64 (a : Int) ((v : Int) * 2 ^ n % 18446744073709551616) = ((a + v * 2 ^ n : Nat) : Int) := by
  have h8 : 2 ^ n ≤ 2 ^ 7 := Nat.pow_le_pow_right (by decide) (by omega)
  have h1 : v * 2 ^ n ≤ 4294967296 * 2 ^ 7 := Nat.mul_le_mul (Nat.le_of_lt hv) h8
  have h2 : v * 2 ^ n < 18446744073709551616 := by omega
  have hc : (v : Int) * 2 ^ n = ((v * 2 ^ n : Nat) : Int) := by rw [Int.natCast_mul, Int.natCast_pow]; rfl
  have ho := or_add a v n ha
  have ha2 : a < 128 := by omega
  rw [hc]
  generalize v * 2 ^ n = q at *
  have e : (q : Int) % 18446744073709551616 = (q : Int) := by omega
  rw [e, (bits_nat .u64 64 (by decide) (fun n h0 h1 => by rw [IntKind.wrap_u64]; omega) a q (by omega) (by omega)).2, ho]
/-- the block of a writer of bits -/
structure BoxW (w : World) (g : Nat) (vb : Value) (rest n : Nat) : Prop where
  own : Own w g 112 (.slice (some ⟨g, 0, none⟩) 4 4) [.bool true, vb, .int .u64 rest, .int .i64 n]
section
variable {w : World} {g : Nat} {vb : Value} {rest n : Nat}
theorem BoxW.keep {w' : World} {row : Option Nat} (h : BoxW w g vb rest n) (hg : w.grownBy w' row) (hne : row ≠ some g) : BoxW w' g vb rest n := ⟨h.own.keep hg (.inr (fun e => hne e.symm))⟩
theorem BoxW.up {w' : World} (h : BoxW w g vb rest n) (hb : Below w.heap.size w w') : BoxW w' g vb rest n := ⟨h.own.up hb⟩
theorem BoxW.lt (h : BoxW w g vb rest n) : g < w.heap.size := (h.own.lt g rfl).2
theorem BoxW.c0 (h : BoxW w g vb rest n) : w.cell? ⟨g, 0, none⟩ = some (.bool true) := h.own.cell (by simp)
theorem BoxW.c1 (h : BoxW w g vb rest n) : w.cell? ⟨g, 1, none⟩ = some vb := h.own.cell (by simp)
theorem BoxW.c2 (h : BoxW w g vb rest n) : w.cell? ⟨g, 2, none⟩ = some (.int .u64 rest) := h.own.cell (by simp)
theorem BoxW.c3 (h : BoxW w g vb rest n) : w.cell? ⟨g, 3, none⟩ = some (.int .i64 n) := h.own.cell (by simp)
theorem BoxW.free (h : BoxW w g vb rest n) (c : Nat) : w.frozen? ⟨g, c, none⟩ = false := h.own.free c
theorem BoxW.set1 (h : BoxW w g vb rest n) (v : Value) : BoxW (w.setCell ⟨g, 1, none⟩ v) g v rest n ∧ w.grownBy (w.setCell ⟨g, 1, none⟩ v) (some g) := ⟨⟨(h.own.store 1 v).1⟩, (h.own.store 1 v).2⟩
theorem BoxW.set2 (h : BoxW w g vb rest n) (r : Nat) : BoxW (w.setCell ⟨g, 2, none⟩ (.int .u64 r)) g vb r n ∧ w.grownBy (w.setCell ⟨g, 2, none⟩ (.int .u64 r)) (some g) := ⟨⟨(h.own.store 2 _).1⟩, (h.own.store 2 _).2⟩
theorem BoxW.set3 (h : BoxW w g vb rest n) (r : Nat) : BoxW (w.setCell ⟨g, 3, none⟩ (.int .i64 r)) g vb rest r ∧ w.grownBy (w.setCell ⟨g, 3, none⟩ (.int .i64 r)) (some g) := ⟨⟨(h.own.store 3 _).1⟩, (h.own.store 3 _).2⟩
end
/-- a writer of bits, from block B on, that holds the L bits of N -/
structure WrtP (w : World) (B g N L : Nat) : Prop where
  ex : ∃ vb, BoxW w g vb (N / 256 ^ (L / 8)) (L % 8) ∧ Own w B 5 vb (bytesN N (L / 8)) ∧ vb.ownBlock ≠ some g
  ge : B ≤ g
  lt : N < 2 ^ L
/-- .. with its row of bytes by name -/
structure WrtV (w : World) (B g N L : Nat) (vb : Value) : Prop where
  box : BoxW w g vb (N / 256 ^ (L / 8)) (L % 8)
  own : Own w B 5 vb (bytesN N (L / 8))
  ne : vb.ownBlock ≠ some g
  ge : B ≤ g
  lt : N < 2 ^ L
theorem WrtV.p {w : World} {B g N L : Nat} {vb : Value} (h : WrtV w B g N L vb) : WrtP w B g N L := ⟨⟨vb, h.box, h.own, h.ne⟩, h.ge, h.lt⟩
theorem WrtP.v {w : World} {B g N L : Nat} (h : WrtP w B g N L) : ∃ vb, WrtV w B g N L vb := by
  obtain ⟨⟨vb, h1, h2, h3⟩, h4, h5⟩ := h
  exact ⟨vb, h1, h2, h3, h4, h5⟩
/-- what a writer in block g with the row vb leaves alone, and what its row is then -/
def Fr (g : Nat) (vb vb' : Value) (w w' : World) : Prop := (∀ k, k < w.heap.size → k ≠ g → vb.ownBlock ≠ some k → w'.heap[k]? = w.heap[k]?) ∧ (∀ k, vb'.ownBlock = some k → vb.ownBlock = some k ∨ w.heap.size ≤ k) ∧ w.heap.size ≤ w'.heap.size
theorem Fr.refl (g : Nat) (vb : Value) (w : World) : Fr g vb vb w w := ⟨fun _ _ _ _ => rfl, fun _ h => .inl h, Nat.le_refl _⟩
theorem Fr.step {g : Nat} {vb vb' : Value} {w w1 w2 : World} {row : Option Nat} (h : Fr g vb vb' w w1) (hg : w1.grownBy w2 row) (hr : ∀ k, row = some k → k = g ∨ vb'.ownBlock = some k) : Fr g vb vb' w w2 := by
  refine ⟨fun k hk h1 h2 => ?_, h.2.1, Nat.le_trans h.2.2 hg.size⟩
  rw [hg.block k (Nat.lt_of_lt_of_le hk h.2.2) ?_, h.1 k hk h1 h2]
  intro e
  rcases hr k e.symm with q | q
  · exact h1 q
  · rcases h.2.1 k q with z | z
    · exact h2 z
    · omega
theorem Fr.below {g : Nat} {vb vb' : Value} {w w1 w2 : World} (h : Fr g vb vb' w w1) (hb : Below w1.heap.size w1 w2) : Fr g vb vb' w w2 := h.step (row := none) (grown_below hb none) (fun k e => by cases e)
theorem Fr.val {g : Nat} {vb vb' vc : Value} {w w1 : World} {n : Nat} (h : Fr g vb vb' w w1) (hk : ∀ k, vc.ownBlock = some k → vb'.ownBlock = some k ∨ n ≤ k) (hn : w.heap.size ≤ n) : Fr g vb vc w w1 := by
  refine ⟨h.1, fun k hk' => ?_, h.2.2⟩
  rcases hk k hk' with q | q
  · exact h.2.1 k q
  · exact .inr (by omega)
theorem Fr.trans {g : Nat} {vb vb' vc : Value} {w w1 w2 : World} (h : Fr g vb vb' w w1) (k : Fr g vb' vc w1 w2) : Fr g vb vc w w2 := by
  refine ⟨fun q hq h1 h2 => ?_, fun q hq => ?_, Nat.le_trans h.2.2 k.2.2⟩
  · rw [k.1 q (Nat.lt_of_lt_of_le hq h.2.2) h1 ?_, h.1 q hq h1 h2]
    intro e
    rcases h.2.1 q e with z | z
    · exact h2 z
    · omega
  · rcases k.2.1 q hq with z | z
    · exact h.2.1 q z
    · exact .inr (Nat.le_trans h.2.2 z)
end Go.Cm

/- The walks of the bit writer. Conditions: none. -/
namespace Go.Cm
open Go.RowKit Go.Proofs

theorem thereP {w : World} {g : Nat} {vb : Value} {rest n : Nat} (h : BoxW w g vb rest n) : Calls Try.prog 69 #[.pointer (some ⟨g, 0, none⟩)] w fun e w' => e = .returned (.bool true) ∧ w' = w := by
  have h0 := h.c0
  have hg := h.lt
  go_enter Try.func69, Try.ntmps69
  go_wp2
  go_ret
  exact ⟨rfl, rfl⟩
theorem openP (w : World) : Calls Try.prog 42 #[] w fun e w' => ∃ g, e = .returned (.pointer (some ⟨g, 0, none⟩)) ∧ WrtP w' w.heap.size g 0 0 ∧ Below w.heap.size w w' := by
  go_enter Try.func42, Try.ntmps42
  go_wp2
  go_ret
  have ho := own_lit w w.heap.size #[Value.bool true, Value.slice none 0 0, Value.int .u64 0, Value.int .i64 0] 112 (by decide) (Nat.le_refl _)
  exact ⟨w.heap.size, rfl, ⟨⟨.slice none 0 0, ⟨ho⟩, Own.nil _ _ _, by simp [Value.ownBlock]⟩, Nat.le_refl _, by decide⟩, below_alloc _ _⟩
theorem putV {w : World} {B g N L : Nat} {vb0 : Value} (h : WrtV w B g N L vb0) (v n : Nat) (hv : v < 2 ^ n) (hn : n ≤ 32) (hL : L + n ≤ 34359738368) :
    Calls Try.prog 65 #[.pointer (some ⟨g, 0, none⟩), .int .i64 v, .int .i64 n] w fun e w' => e = .returned (.int .i64 0) ∧ ∃ vb0', WrtV w' B g (N + v * 2 ^ L) (L + n) vb0' ∧ Below B w w' ∧ Fr g vb0 vb0' w w' := by
  obtain ⟨hbox, hown, hne, hge, hlt⟩ := h
  have hv32 : v < 4294967296 := Nat.lt_of_lt_of_le hv (Nat.pow_le_pow_right (n := 2) (by decide) hn)
  have hd : decide (0 ≤ (n : Int) ∧ (n : Int) ≤ 32) = true := by simp; omega
  have hn0 : (0 : Int) ≤ (n : Int) := by omega
  have hz : (v : Int) / 2 ^ n = 0 := by
    have : (v : Int) / 2 ^ n = ((v / 2 ^ n : Nat) : Int) := by norm_cast
    rw [this, Nat.div_eq_of_lt hv]; rfl
  have hrl := rest_lt N L hlt
  have hl8 : L % 8 < 8 := Nat.mod_lt _ (by decide)
  have HOR : Hid (bits .or .u64 ((N / 256 ^ (L / 8) : Nat) : Int) (IntKind.u64.wrap ((v : Int) * 2 ^ (L % 8))) = ((N / 256 ^ (L / 8) + v * 2 ^ (L % 8) : Nat) : Int)) := Lib.hid (by rw [IntKind.wrap_u64]; exact or_u64 (N / 256 ^ (L / 8)) v (L % 8) hrl hl8 hv32)
  have hv0 : ¬ (v : Int) < 0 := by omega
  have HRA := Lib.hid (rest_add N v L)
  have HBA := Lib.hid (bytesN_add N v L)
  have HB := Lib.hid hbox
  have HO := Lib.hid hown
  have c2 := hbox.c2
  have c3 := hbox.c3
  have f2 := hbox.free 2
  have f3 := hbox.free 3
  have hg := hbox.lt
  clear hbox hown hrl
  go_enter Try.func65, Try.ntmps65
  go_wp2_with (first | (go_at_call 69; refine (thereP HB.out).mono ?_; rintro e w' ⟨rfl, hw'⟩; rw [hw']; clear hw') | (go_at_call 91; refine (many _ _).mono ?_; rintro e w' ⟨rfl, hw'⟩; rw [hw', hd]; clear hw'))
  have hgB : Below B w w := Below.refl _ _
  generalize hR : N / 256 ^ (L / 8) = r at *
  generalize hM : L % 8 = m at *
  obtain ⟨q, hq⟩ : ∃ q, q = r + v * 2 ^ m := ⟨_, rfl⟩
  have HQ := Lib.hid hq
  rw [← hq] at HOR
  clear hq
  refine wp_region_tailg [0,1,2,3,4,5,6,7,8,9,10,11,12] [13,14] [15] (by kernel_rfl) (by kernel_rfl) ?_
  simp only [pick, List.map_cons, List.map_nil, List.getD_cons_zero, List.getD_cons_succ]
  repeat (go_big_quiet_step (fail))
  refine wpQuiet_nil ?_
  rw [HOR.out]
  (unfold wpAct; go_wp2; refine ⟨(ex_ext (by repeat (first | exact Below.refl _ _ | assumption | refine b_drewN ?_ _ | refine Below.drew ?_ | refine b_ext' ?_ _ | refine b_alloc' ?_ _))), ?_⟩)
  (unfold wpAct; go_wp2; refine ⟨(ex_ext (by repeat (first | exact Below.refl _ _ | assumption | refine b_drewN ?_ _ | refine Below.drew ?_ | refine b_ext' ?_ _ | refine b_alloc' ?_ _))), ?_⟩)
  unfold wpAct
  have HST := Lib.hid (HB.out.set2 q)
  unfold wpAct
  go_wp2
  refine ⟨trivial, ?_⟩
  unfold wpAct
  have HG1 := Lib.hid (grown_trans HST.out.2 (grown_drew _ (some g)))
  have HB1 := Lib.hid (HST.out.1.up (b_drew1 (Below.refl _ _)))
  clear HST
  generalize (w.setCell ⟨g, 2, none⟩ (.int .u64 (q : Int))).drew = w1 at *
  have HO1 := Lib.hid (HO.out.keep HG1.out (.inr hne))
  have HL1 : Hid (Below B w w1) := Lib.hid ((Below.refl B w).grown HG1.out (Nat.le_of_lt (Nat.lt_of_le_of_lt hge hg)) (fun k hk => by cases hk; exact hge))
  have HF1 := Lib.hid ((Fr.refl g vb0 w).step HG1.out (fun k e => by cases e; exact .inl rfl))
  clear c2 c3 f2 f3 hg HB HO HG1 HOR hgB
  have c3 := HB1.out.c3
  have f3 := HB1.out.free 3
  have hg := HB1.out.lt
  obtain ⟨s, hs⟩ : ∃ s, s = m + n := ⟨_, rfl⟩
  have hst := HB1.out.set3 (m + n)
  rw [Int.natCast_add, ← hs] at hst
  have HST := Lib.hid hst
  clear hst
  have HS := Lib.hid hs
  have HR := Lib.hid hR
  have HM := Lib.hid hM
  have HV := Lib.hid hv
  have HLT := Lib.hid hlt
  have HL := Lib.hid hL
  clear hs hR hM hv hlt hL hz hd hv0 hn0
  go_wp2
  have HB2 := Lib.hid HST.out.1
  have HO2 := Lib.hid (HO1.out.keep HST.out.2 (.inr hne))
  have HL2 : Hid (Below B w (w1.setCell ⟨g, 3, none⟩ (.int .i64 ((m : Int) + (n : Int))))) := Lib.hid (HL1.out.grown HST.out.2 (by omega) (fun k hk => by cases hk; exact hge))
  have HF2 := Lib.hid (HF1.out.step HST.out.2 (fun k e => by cases e; exact .inl rfl))
  clear HST HB1 HO1 HL1 c3 f3 hg HF1
  generalize w1.setCell ⟨g, 3, none⟩ (.int .i64 ((m : Int) + (n : Int))) = w2 at *
  obtain ⟨N', hN'⟩ : ∃ N', N' = N + v * 2 ^ L := ⟨_, rfl⟩
  rw [← hN'] at HRA HBA
  have HN := Lib.hid hN'
  clear hN'
  go_loopg [] s (fun gk wr => ∃ (k nn : Nat) (vb : Value), 8 * k + nn = L + n ∧ BoxW wr g vb (N' / 256 ^ k) nn ∧ Own wr B 5 vb (bytesN N' k) ∧ vb.ownBlock ≠ some g ∧ Below B w wr ∧ Fr g vb0 vb w wr ∧ gk = nn)
  case atStart =>
    refine ⟨L / 8, s, vb0, ?_, ?_, ?_, hne, HL2.out, HF2.out, ?_⟩
    · have := HS.out; have := HM.out; omega
    · rw [HRA.out, ← HQ.out]; exact HB2.out
    · rw [HBA.out]; exact HO2.out
    · rfl
  case round =>
    obtain ⟨k, nn, vb, hkn, hbox, hown, hne, hbel, hfr, rfl⟩ := hrel
    have HFR := Lib.hid hfr
    clear hfr
    clear HF2
    clear HQ HRA HBA HB2 HO2 HL2
    have c1 := hbox.c1
    have c2 := hbox.c2
    have c3 := hbox.c3
    have f1 := hbox.free 1
    have f2 := hbox.free 2
    have f3 := hbox.free 3
    have hg := hbox.lt
    have HB := Lib.hid hbox
    have HO := Lib.hid hown
    have HE := Lib.hid hbel
    have HNS := Lib.hid (rest_next N' k)
    have HBS := Lib.hid (bytesN_succ N' k)
    have HBY : Hid (((N' / 256 ^ k : Nat) : Int) % 256 = (byteAt N' k : Nat)) := Lib.hid (by unfold byteAt; exact (Int.natCast_emod _ _).symm)
    have hklt : k ≤ 4294967296 := by have := HL.out; omega
    have HK := Lib.hid hkn
    clear hbox hown hbel hkn
    by_cases h8 : 8 ≤ gk
    · generalize N' / 256 ^ k = r at *
      go_wp2
      have hne2 : some g ≠ vb.ownBlock := fun e => hne e.symm
      have hBg : B ≤ wr.heap.size := by omega
      refine wp_region_tail (fun w' => ∃ x, w' = chg wr vb.ownBlock x) [0,1,2,3,4,5,6,7,8,9] [10,11,12,13] [14] (by kernel_rfl) (by kernel_rfl) (ex_chg (grown_drew _ _)) ?_
      simp only [pick, List.map_cons, List.map_nil, List.getD_cons_zero, List.getD_cons_succ]
      repeat (go_big_quiet_step (fail))
      refine wpQuiet_nil ?_
      (unfold wpAct; go_wp2; refine ⟨ex_chg (grown_below (by repeat (first | exact Below.refl _ _ | assumption | refine b_drewN ?_ _ | refine Below.drew ?_ | refine b_ext' ?_ _ | refine b_alloc' ?_ _)) _), ?_⟩)
      unfold wpAct
      have HX : Hid (Sl (wr.alloc (.cells #[.int .u8 ((byteAt N' k : Nat) : Int)] 5)).drew (.slice (some ⟨wr.heap.size, 0, none⟩) 1 1) [.int .u8 ((byteAt N' k : Nat) : Int)]) := Lib.hid (by
        have h1 := (sl_lit wr #[.int .u8 ((byteAt N' k : Nat) : Int)] 5 (by simp)).up (below_drewN _ 1)
        rw [← World.drew_is_drewN] at h1
        simpa using h1)
      rw [HBY.out]
      have HT1 := Lib.hid (HO.out.up (show Below wr.heap.size wr (wr.alloc (.cells #[.int .u8 ((byteAt N' k : Nat) : Int)] 5)).drew from (by repeat (first | exact Below.refl _ _ | assumption | refine b_drewN ?_ _ | refine Below.drew ?_ | refine b_ext' ?_ _ | refine b_alloc' ?_ _))))
      have HT3 : Hid ((bytesN N' k).length + 1 ≤ 4294967296) := Lib.hid (by rw [bytesN_length]; have := HK.out; have := HL.out; omega)
      have HT2 : Hid (∀ u ∈ [Value.int .u8 ((byteAt N' k : Nat) : Int)], u.oneCell' = true) := Lib.hid (by intro u hu; simp at hu; subst hu; rfl)
      have HT4 : Hid (B ≤ (wr.alloc (.cells #[.int .u8 ((byteAt N' k : Nat) : Int)] 5)).drew.heap.size) := Lib.hid (Nat.le_trans hBg (show Below wr.heap.size wr (wr.alloc (.cells #[.int .u8 ((byteAt N' k : Nat) : Int)] 5)).drew from (by repeat (first | exact Below.refl _ _ | assumption | refine b_drewN ?_ _ | refine Below.drew ?_ | refine b_ext' ?_ _ | refine b_alloc' ?_ _))).size)
      go_wp2_with (at_builtin; refine wpList_app rfl (.tmp 63) (.tmp 69) 43 rfl B 5 (.int .u8 0) 1 Try.underlying43 (by kernel_rfl) rfl (by decide) vb (bytesN N' k) rfl HT1.out (.slice (some ⟨wr.heap.size, 0, none⟩) 1 1) [.int .u8 ((byteAt N' k : Nat) : Int)] rfl HX.out HT2.out HT3.out HT4.out ?_; intro v' w5 hown1 hg1 hk1; have HO1 := Lib.hid hown1; have HG1 := Lib.hid hg1; have HK1 := Lib.hid hk1; clear hown1 hg1 hk1)
      refine ⟨ex_chg (grown_trans (grown_below (by repeat (first | exact Below.refl _ _ | assumption | refine b_drewN ?_ _ | refine Below.drew ?_ | refine b_ext' ?_ _ | refine b_alloc' ?_ _)) _) HG1.out), ?_⟩
      (unfold wpAct; go_wp2; refine ⟨ex_chg (grown_trans (grown_below (by repeat (first | exact Below.refl _ _ | assumption | refine b_drewN ?_ _ | refine Below.drew ?_ | refine b_ext' ?_ _ | refine b_alloc' ?_ _)) _) HG1.out), ?_⟩)
      (unfold wpAct; go_wp2; refine ⟨ex_chg (grown_trans (grown_below (by repeat (first | exact Below.refl _ _ | assumption | refine b_drewN ?_ _ | refine Below.drew ?_ | refine b_ext' ?_ _ | refine b_alloc' ?_ _)) _) HG1.out), ?_⟩)
      unfold wpAct
      have hlW : Below wr.heap.size wr (wr.alloc (.cells #[.int .u8 ((byteAt N' k : Nat) : Int)] 5)).drew := (by repeat (first | exact Below.refl _ _ | assumption | refine b_drewN ?_ _ | refine Below.drew ?_ | refine b_ext' ?_ _ | refine b_alloc' ?_ _))
      have HB5 := Lib.hid ((HB.out.up hlW).keep HG1.out hne)
      have HL5 : Hid (Below B w w5) := Lib.hid (below_grown (HE.out.trans (hlW.mono hBg)) (Nat.le_trans hBg hlW.size) HT1.out HG1.out)
      have hne5 : Hid (v'.ownBlock ≠ some g) := Lib.hid (fun e => by
        rcases HK1.out g e with h | h
        · exact hne h
        · have := hlW.size; omega)
      have HO5 : Hid (Own w5 B 5 v' (bytesN N' (k + 1))) := Lib.hid (by rw [HBS.out]; exact HO1.out)
      have HF5 : Hid (Fr g vb0 v' w w5) := Lib.hid (((HFR.out.below hlW).step HG1.out (fun k e => .inr e)).val HK1.out (Nat.le_trans HFR.out.2.2 hlW.size))
      clear HO1 HG1 HK1 HT1 HX c1 c2 c3 f1 f2 f3 hg HB HO HE hlW hne hne2 HT3
      have f1 := HB5.out.free 1
      have c1 := HB5.out.c1
      have hg := HB5.out.lt
      obtain ⟨o5, c5, g5, rfl, -⟩ := HO5.out.cases
      generalize (bytesN N' (k + 1)).length = l5 at *
      have HST := Lib.hid (HB5.out.set1 (.slice o5 l5 c5))
      unfold wpAct
      go_wp2
      refine ⟨trivial, ?_⟩
      unfold wpAct
      have HB6 := Lib.hid HST.out.1
      have HO6 := Lib.hid (HO5.out.keep HST.out.2 (.inr hne5.out))
      have HL6 : Hid (Below B w (w5.setCell ⟨g, 1, none⟩ (.slice o5 l5 c5))) := Lib.hid (HL5.out.grown HST.out.2 (by omega) (fun k hk => by cases hk; exact hge))
      have HF6 := Lib.hid (HF5.out.step HST.out.2 (fun k e => by cases e; exact .inl rfl))
      clear HST HB5 HO5 HL5 c1 f1 hg HF5
      generalize w5.setCell ⟨g, 1, none⟩ (.slice o5 l5 c5) = w6 at *
      have c2 := HB6.out.c2
      have c3 := HB6.out.c3
      have f2 := HB6.out.free 2
      have f3 := HB6.out.free 3
      have hg := HB6.out.lt
      have h9 : (8 : Int) ≤ (gk : Int) := by omega
      go_wp2
      go_roundg (gk - 8)
      case measure => omega
      case rel =>
        have hst := HB6.out.set2 (r / 256)
        have hst2 := hst.1.set3 (gk - 8)
        have e1 : ((r / 256 : Nat) : Int) = (r : Int) / 256 := Int.natCast_ediv r 256
        have e2 : ((gk - 8 : Nat) : Int) = (gk : Int) - 8 := by omega
        have hO := HO6.out.keep (grown_trans hst.2 hst2.2) (.inr hne5.out)
        have hL := HL6.out.grown (grown_trans hst.2 hst2.2) (by omega) (fun k hk => by cases hk; exact hge)
        have hF := HF6.out.step (grown_trans hst.2 hst2.2) (fun k e => by cases e; exact .inl rfl)
        rw [e1, e2] at hst2 hO hL hF
        have hk := HK.out
        have hl := HL.out
        rw [IntWalk.wrap64_in ((gk : Int) - 8) ⟨by omega, by omega⟩]
        refine ⟨k + 1, gk - 8, _, by omega, ?_, hO, hne5.out, hL, hF, rfl⟩
        rw [← HNS.out]
        exact hst2.1
    · go_wp2
      go_ret
      have hk := HK.out
      have hmod : (L + n) % 8 = gk ∧ (L + n) / 8 = k := by omega
      rw [← HN.out]
      refine ⟨rfl, vb, ⟨?_, ?_, hne, hge, ?_⟩, HE.out, HFR.out⟩
      · rw [hmod.1, hmod.2]; exact HB.out
      · rw [hmod.2]; exact HO.out
      · rw [HN.out]; exact num_add_lt HLT.out HV.out
end Go.Cm

/- The walks of the bit writer's other functions. Conditions: none. -/
namespace Go.Cm
open Go.RowKit Go.Proofs

theorem codeV {w : World} {B g N L : Nat} {vb : Value} (h : WrtV w B g N L vb) (v n : Nat) (hv : v < 2 ^ n) (hn : n ≤ 32) (hL : L + n ≤ 34359738368) :
    Calls Try.prog 94 #[.pointer (some ⟨g, 0, none⟩), .int .i64 v, .int .i64 n] w fun e w' => e = .returned (.int .i64 0) ∧ ∃ vb', WrtV w' B g (N + turnN v n * 2 ^ L) (L + n) vb' ∧ Below B w w' ∧ Fr g vb vb' w w' := by
  have hd : decide (0 ≤ (n : Int) ∧ (n : Int) ≤ 32) = true := by simp; omega
  have hn0 : (0 : Int) ≤ (n : Int) := by omega
  have hv0 : ¬ (v : Int) < 0 := by omega
  have hz : (v : Int) / 2 ^ n = 0 := by
    have : (v : Int) / 2 ^ n = ((v / 2 ^ n : Nat) : Int) := by norm_cast
    rw [this, Nat.div_eq_of_lt hv]; rfl
  have HP := Lib.hid (putV h (turnN v n) n (turnN_lt v n) hn hL)
  clear h hv
  go_enter Try.func94, Try.ntmps94
  go_wp2_with (first | (go_at_call 91; refine (many _ _).mono ?_; rintro e w' ⟨rfl, hw'⟩; rw [hw', hd]; clear hw') | (go_at_call 117; refine (turnP v n hn _).mono ?_; rintro e w' ⟨rfl, hw'⟩; rw [hw']; clear hw') | (go_at_call 65; refine HP.out.mono ?_; rintro e w' ⟨rfl, vb', hq1, hq2, hq3⟩; have HQ1 := Lib.hid hq1; have HQ2 := Lib.hid hq2; have HQ3 := Lib.hid hq3; clear hq1 hq2 hq3))
  go_ret
  exact ⟨rfl, vb', HQ1.out, HQ2.out, HQ3.out⟩
end Go.Cm

/- The walks of the document's bit writer. Conditions: none. -/
namespace Go.Cm
open Go.RowKit Go.Proofs

/-- the document's writer of bits, from block B on -/
structure WrtR (w : World) (B g N L : Nat) : Prop where
  ex : ∃ vb, Own w g 93 (.slice (some ⟨g, 0, none⟩) 1 1) [vb] ∧ Own w B 5 vb (bitsN N L) ∧ vb.ownBlock ≠ some g
  ge : B ≤ g
  lt : N < 2 ^ L
/-- .. with its row by name -/
structure WrtRV (w : World) (B g N L : Nat) (vb : Value) : Prop where
  box : Own w g 93 (.slice (some ⟨g, 0, none⟩) 1 1) [vb]
  own : Own w B 5 vb (bitsN N L)
  ne : vb.ownBlock ≠ some g
  ge : B ≤ g
  lt : N < 2 ^ L
theorem WrtRV.p {w : World} {B g N L : Nat} {vb : Value} (h : WrtRV w B g N L vb) : WrtR w B g N L := ⟨⟨vb, h.box, h.own, h.ne⟩, h.ge, h.lt⟩
theorem WrtR.v {w : World} {B g N L : Nat} (h : WrtR w B g N L) : ∃ vb, WrtRV w B g N L vb := by
  obtain ⟨⟨vb, h1, h2, h3⟩, h4, h5⟩ := h
  exact ⟨vb, h1, h2, h3, h4, h5⟩
end Go.Cm

/- Bytes as values, and as a text. Conditions: none. (For seats that do not build Look.) -/
namespace Go.Cm
open Go.RowKit Go.Proofs

def bytesV (l : List UInt8) : List Value := l.map fun b => .int .u8 (b.toNat : Int)
theorem bytesV_append (a b : List UInt8) : bytesV (a ++ b) = bytesV a ++ bytesV b := by simp [bytesV]
theorem bytesV_length (a : List UInt8) : (bytesV a).length = a.length := by simp [bytesV]
theorem bytesV_one (l : List UInt8) : ∀ u ∈ bytesV l, u.oneCell' = true := by
  intro u hu; simp only [bytesV, List.mem_map] at hu; obtain ⟨b, -, rfl⟩ := hu; rfl
/-- bytes of one's own, as a text -/
theorem run_bytes_string {P : Program} (w : World) (src dst e : TypeId) (hs : P.underlying src = some (.slice e)) (he : P.underlying e = some (.int .u8)) (hd : P.underlying dst = some .string)
    (v : Value) (l : List UInt8) (h : Sl w v (bytesV l)) : (convert src dst v).run P w = .ok (.string ⟨l.toArray⟩) w := by
  obtain ⟨oa, cap, b, off, rfl, hdr, hc⟩ := h
  rw [bytesV_length] at hdr hc ⊢
  rw [run_convert_bytes_string w src dst e oa l.length cap hs he hd]
  have hfold : ∀ (l : List UInt8) (s : ByteArray), (l.map fun b => (b.toNat : Int)).foldl (fun r n => r.push (UInt8.ofNat n.toNat)) s = ⟨s.data ++ l.toArray⟩ := by
    intro l
    induction l with
    | nil => intro s; simp
    | cons b l ih => intro s; simp only [List.map_cons, List.foldl_cons, ih]; simp [ByteArray.push]
  have hb : bytesV l = (l.map fun b => (b.toNat : Int)).map (Value.int .u8) := by simp [bytesV]
  cases oa with
  | none =>
    have h0 : l.length = 0 := by
      rcases Nat.eq_zero_or_pos l.length with h | h
      · exact h
      · have := hdr.hat h; cases this
    obtain rfl : l = [] := List.length_eq_zero_iff.1 h0
    unfold Conv.bytesToString
    simp
    rfl
  | some ad =>
    have hl : (loadCells ad l.length).run P w = .ok ((l.map fun b => (b.toNat : Int)).map (Value.int .u8)).toArray w := by
      rcases Nat.eq_zero_or_pos l.length with h | h
      · obtain rfl : l = [] := List.length_eq_zero_iff.1 h
        simp [loadCells, loadCellsFrom]
      · have := hdr.hat h
        obtain rfl : ad = ⟨b, off, none⟩ := Option.some.inj this
        rw [← hb]
        have h2 := run_loadCells_list (P := P) w ⟨b, off, none⟩ (bytesV l) (fun j v hv => by
          have hj : j < (bytesV l).length := (List.getElem?_eq_some_iff.1 hv).1
          rw [bytesV_length] at hj
          rw [add_off, hc j hj]; simp [List.getD, hv])
        rwa [bytesV_length] at h2
    rw [run_bytesToString w ad l.length cap _ hl, hfold]
    simp
end Go.Cm

/- The walk of the bit writer's text. Conditions: none. -/
namespace Go.Cm
open Go.RowKit Go.Proofs

def wholeN (N k : Nat) : List UInt8 := (List.range k).map fun i => UInt8.ofNat (byteAt N i)
theorem bytesV_wholeN (N k : Nat) : bytesV (wholeN N k) = bytesN N k := by
  unfold bytesV wholeN bytesN
  rw [List.map_map]
  refine List.map_congr_left fun i _ => ?_
  simp only [Function.comp, UInt8.toNat_ofNat']
  rw [Nat.mod_eq_of_lt (byteAt_lt N i)]
theorem textP {w : World} {B g N L : Nat} (h : WrtP w B g N L) (hL : L ≤ 34359738368) : Calls Try.prog 46 #[.pointer (some ⟨g, 0, none⟩)] w fun e w' => e = .returned (.string ⟨(textN N L).toArray⟩) ∧ ∃ x, w' = ext w x := by
  obtain ⟨⟨vb, hbox, hown, hne⟩, hge, hlt⟩ := h
  have HB := Lib.hid hbox
  have c1 := hbox.c1
  have c2 := hbox.c2
  have c3 := hbox.c3
  have hg := hbox.lt
  have hsl := hown.sl
  rw [← bytesV_wholeN] at hsl
  have hcv := run_bytes_string (P := Try.prog) w 43 9 5 Try.underlying43 Try.underlying5 Try.underlying9 vb _ hsl
  clear hbox hown hsl
  by_cases h0 : L % 8 = 0
  · go_enter Try.func46, Try.ntmps46
    go_wp2_with (go_at_call 69; refine (thereP HB.out).mono ?_; rintro e w' ⟨rfl, hw'⟩; rw [hw']; clear hw')
    go_ret
    have e : textN N L = wholeN N (L / 8) := by unfold textN wholeN; rw [show (L + 7) / 8 = L / 8 by omega]
    rw [e]
    exact ⟨rfl, refl_ext _⟩
  · have hp : (0 : Int) < (L : Int) % 8 := by omega
    have hsl2 := sl_lit w #[.int .u8 ((byteAt N (L / 8) : Nat) : Int)] 5 (by simp)
    have hb1 : (#[Value.int .u8 ((byteAt N (L / 8) : Nat) : Int)]).toList = bytesV [UInt8.ofNat (byteAt N (L / 8))] := by
      simp [bytesV, Nat.mod_eq_of_lt (byteAt_lt N (L / 8))]
    rw [hb1] at hsl2
    have hcv2 := run_bytes_string (P := Try.prog) _ 43 9 5 Try.underlying43 Try.underlying5 Try.underlying9 _ _ hsl2
    have hby : ((N / 256 ^ (L / 8) : Nat) : Int) % 256 = (byteAt N (L / 8) : Nat) := by unfold byteAt; exact (Int.natCast_emod _ _).symm
    have e : textN N L = wholeN N (L / 8) ++ [UInt8.ofNat (byteAt N (L / 8))] := by unfold textN wholeN; rw [show (L + 7) / 8 = L / 8 + 1 by omega, List.range_succ, List.map_append]; rfl
    generalize N / 256 ^ (L / 8) = r at *
    generalize byteAt N (L / 8) = y at *
    change (convert 43 9 (.slice (some ⟨w.heap.size, 0, none⟩) 1 1)).run Try.prog _ = _ at hcv2
    rw [← hby] at hcv2
    clear hsl2 hb1 hby
    have hlen : ¬ 9223372036854775807 < (wholeN N (L / 8)).length + 1 := by simp [wholeN]; omega
    go_enter Try.func46, Try.ntmps46
    go_wp2_with (go_at_call 69; refine (thereP HB.out).mono ?_; rintro e w' ⟨rfl, hw'⟩; rw [hw']; clear hw')
    go_ret
    have e2 : (⟨(wholeN N (L / 8)).toArray⟩ : ByteArray) ++ ⟨#[UInt8.ofNat y]⟩ = ⟨(textN N L).toArray⟩ := by
      rw [e]; apply ByteArray.ext; simp
    refine ⟨?_, (ex_ext (by repeat (first | exact Below.refl _ _ | assumption | refine b_drewN ?_ _ | refine Below.drew ?_ | refine b_ext' ?_ _ | refine b_alloc' ?_ _)))⟩
    rw [← e2]; rfl
end Go.Cm

/- The walks of the writing of symbols, of the program and of the document. Conditions: the writer is there. -/
namespace Go.Cm
open Go.RowKit Go.Proofs

/-- what is wrong of a symbol that is to be written -/
def errW (l : List Int) (n : Int) : Nat := if errI l ≠ 0 then errI l else if 0 ≤ n ∧ n < l.length ∧ l.getD n.toNat 0 ≠ 0 then 0 else 1
/-- the bits behind the writing of a symbol -/
def numW (l : List Int) (n : Int) (NL : Nat × Nat) : Nat × Nat :=
  if errW l n = 0 then (NL.1 + turnN (codeN (l.map Int.toNat) n.toNat) (l.getD n.toNat 0).toNat * 2 ^ NL.2, NL.2 + (l.getD n.toNat 0).toNat) else NL
theorem errI_zero {l : List Int} (h : errI l = 0) : ∃ L, l = nls L ∧ L.length ≤ 320 ∧ (∀ x ∈ L, x ≤ 15) ∧ kraftN L ≤ 32768 := by
  have h0 : wrongI l = 0 := by
    apply Classical.byContradiction; intro hn
    have := errI_of_wrong hn; omega
  obtain ⟨h1, h2⟩ := wrongI_zero h0
  obtain ⟨L, rfl, h3⟩ := nls_of h2
  rw [nls_length] at h1
  refine ⟨L, rfl, h1, h3, ?_⟩
  rw [errI_nls h1 h3] at h
  split at h
  · cases h
  · omega
theorem numW_bad {l : List Int} {n : Int} {NL : Nat × Nat} (h : errW l n ≠ 0) : numW l n NL = NL := by unfold numW; rw [if_neg h]
theorem errW_codes {l : List Int} {n : Int} (h : errI l ≠ 0) : errW l n = errI l := by unfold errW; rw [if_pos h]
theorem errW_arg {l : List Int} {n : Int} (h : errI l = 0) (h2 : ¬ (0 ≤ n ∧ n < l.length ∧ l.getD n.toNat 0 ≠ 0)) : errW l n = 1 := by unfold errW; rw [if_neg (by omega), if_neg h2]
theorem errW_ok {l : List Int} {n : Int} (h : errI l = 0) (h2 : 0 ≤ n ∧ n < l.length ∧ l.getD n.toNat 0 ≠ 0) : errW l n = 0 := by unfold errW; rw [if_neg (by omega), if_pos h2]
theorem codesN_length (L : List Nat) : (codesN L).length = L.length := by simp [codesN]
theorem codesN_getD (L : List Nat) (i : Nat) (h : i < L.length) : (codesN L).getD i 0 = codeN L i := by simp [codesN, List.getD, h]
/-- what a writing of a symbol answers -/
def RetV (Wr : World → Nat → Nat → Nat → Nat → Value → Prop) (l : List Int) (n : Int) (B g N L : Nat) (vb : Value) (w : World) (e : Ending) (w' : World) : Prop :=
  e = .returned (.int .i64 (errW l n : Nat)) ∧ ∃ vb', Wr w' B g (numW l n (N, L)).1 (numW l n (N, L)).2 vb' ∧ Below B w w' ∧ Fr g vb vb' w w'
theorem WrtP.up {w w' : World} {B g N L : Nat} (h : WrtP w B g N L) (hb : Below w.heap.size w w') : WrtP w' B g N L := by
  obtain ⟨⟨vb, hbx, how, hne⟩, hge, hlt⟩ := h
  exact ⟨⟨vb, hbx.up hb, how.up hb, hne⟩, hge, hlt⟩
theorem WrtR.up {w w' : World} {B g N L : Nat} (h : WrtR w B g N L) (hb : Below w.heap.size w w') : WrtR w' B g N L := by
  obtain ⟨⟨vb, hbx, how, hne⟩, hge, hlt⟩ := h
  exact ⟨⟨vb, hbx.up hb, how.up hb, hne⟩, hge, hlt⟩
theorem WrtV.up {w w' : World} {B g N L : Nat} {vb : Value} (h : WrtV w B g N L vb) (hb : Below w.heap.size w w') : WrtV w' B g N L vb := ⟨h.box.up hb, h.own.up hb, h.ne, h.ge, h.lt⟩
theorem WrtRV.up {w w' : World} {B g N L : Nat} {vb : Value} (h : WrtRV w B g N L vb) (hb : Below w.heap.size w w') : WrtRV w' B g N L vb := ⟨h.box.up hb, h.own.up hb, h.ne, h.ge, h.lt⟩
end Go.Cm

/- The walks of the bit reader. Conditions: none. -/
namespace Go.Cm
open Go.RowKit Go.Proofs

/-- the reader in block g: the text s, the next bit's number -/
structure BoxS (w : World) (g : Nat) (s : ByteArray) (p : Nat) : Prop where
  own : Own w g 129 (.slice (some ⟨g, 0, none⟩) 3 3) [.bool true, .string s, .int .i64 p]
section
variable {w : World} {g : Nat} {s : ByteArray} {p : Nat}
theorem BoxS.up {w' : World} (h : BoxS w g s p) (hb : Below w.heap.size w w') : BoxS w' g s p := ⟨h.own.up hb⟩
theorem BoxS.lt (h : BoxS w g s p) : g < w.heap.size := (h.own.lt g rfl).2
theorem BoxS.c0 (h : BoxS w g s p) : w.cell? ⟨g, 0, none⟩ = some (.bool true) := h.own.cell (by simp)
theorem BoxS.c1 (h : BoxS w g s p) : w.cell? ⟨g, 1, none⟩ = some (.string s) := h.own.cell (by simp)
theorem BoxS.c2 (h : BoxS w g s p) : w.cell? ⟨g, 2, none⟩ = some (.int .i64 p) := h.own.cell (by simp)
theorem BoxS.free (h : BoxS w g s p) (c : Nat) : w.frozen? ⟨g, c, none⟩ = false := h.own.free c
theorem BoxS.set2 (h : BoxS w g s p) (r : Nat) : BoxS (w.setCell ⟨g, 2, none⟩ (.int .i64 r)) g s r ∧ w.grownBy (w.setCell ⟨g, 2, none⟩ (.int .i64 r)) (some g) := ⟨⟨(h.own.store 2 _).1⟩, (h.own.store 2 _).2⟩
end
theorem thereS {w : World} {g : Nat} {s : ByteArray} {p : Nat} (h : BoxS w g s p) : Calls Try.prog 88 #[.pointer (some ⟨g, 0, none⟩)] w fun e w' => e = .returned (.bool true) ∧ w' = w := by
  have h0 := h.c0
  have hg := h.lt
  go_enter Try.func88, Try.ntmps88
  go_wp2
  go_ret
  exact ⟨rfl, rfl⟩
theorem atS {w : World} {g : Nat} {s : ByteArray} {p : Nat} (h : BoxS w g s p) : Calls Try.prog 61 #[.pointer (some ⟨g, 0, none⟩)] w fun e w' => e = .returned (.int .i64 p) ∧ w' = w := by
  have HB := Lib.hid h
  have c2 := h.c2
  have hg := h.lt
  clear h
  go_enter Try.func61, Try.ntmps61
  go_wp2_with (go_at_call 88; refine (thereS HB.out).mono ?_; rintro e w' ⟨rfl, hw'⟩; rw [hw']; clear hw')
  go_ret
  exact ⟨rfl, rfl⟩
theorem newS (s : ByteArray) (p : Nat) (hs : s.size ≤ 4294967296) (hp : p ≤ 8 * s.size) (w : World) : Calls Try.prog 56 #[.string s, .int .i64 p] w fun e w' => ∃ g, e = .returned (.tuple #[.pointer (some ⟨g, 0, none⟩), .int .i64 0]) ∧ BoxS w' g s p ∧ w.heap.size ≤ g ∧ Below w.heap.size w w' := by
  have h1 : ¬ (p : Int) < 0 := by omega
  have h2 : ¬ (p : Int) > 8 * (s.size : Int) := by omega
  have ho := own_lit w w.heap.size #[Value.bool true, Value.string s, Value.int .i64 p] 129 (by simp) (Nat.le_refl _)
  have HO := Lib.hid ho
  clear ho
  go_enter Try.func56, Try.ntmps56
  go_wp2
  go_ret2
  exact ⟨w.heap.size, rfl, ⟨HO.out⟩, Nat.le_refl _, below_alloc _ _⟩
theorem leftS {w : World} {g : Nat} {s : ByteArray} {p : Nat} (h : BoxS w g s p) (hs : s.size ≤ 4294967296) (hp : p ≤ 8 * s.size) : Calls Try.prog 126 #[.pointer (some ⟨g, 0, none⟩)] w fun e w' => e = .returned (.int .i64 ((8 * s.size - p : Nat) : Int)) ∧ ∃ x, w' = ext w x := by
  have HB := Lib.hid h
  have c1 := h.c1
  have c2 := h.c2
  have hg := h.lt
  clear h
  have e : ((8 * s.size - p : Nat) : Int) = 8 * (s.size : Int) - (p : Int) := by omega
  go_enter Try.func126, Try.ntmps126
  go_wp2_with (go_at_call 88; refine (thereS HB.out).mono ?_; rintro e w' ⟨rfl, hw'⟩; rw [hw']; clear hw')
  go_quiet (fail)
  go_wp2
  go_ret
  refine ⟨?_, (ex_ext (by repeat (first | exact Below.refl _ _ | assumption | refine b_drewN ?_ _ | refine Below.drew ?_ | refine b_ext' ?_ _ | refine b_alloc' ?_ _)))⟩
  show Ending.returned (Value.int .i64 (8 * (s.size : Int) - (p : Int))) = _
  rw [e]
end Go.Cm

/- The walk of the bit reader's Skip. Conditions: the bits are there. -/
namespace Go.Cm
open Go.RowKit Go.Proofs

theorem skipS {w : World} {g : Nat} {s : ByteArray} {p : Nat} (h : BoxS w g s p) (hs : s.size ≤ 4294967296) (n : Nat) (hn : n ≤ 32) (hp : p + n ≤ 8 * s.size) : Calls Try.prog 137 #[.pointer (some ⟨g, 0, none⟩), .int .i64 n] w fun e w' => e = .returned (.int .i64 0) ∧ BoxS w' g s (p + n) ∧ w.grownBy w' (some g) := by
  have hd : decide (0 ≤ (n : Int) ∧ (n : Int) ≤ 32) = true := by simp; omega
  have HB := Lib.hid h
  have HL := Lib.hid (leftS h hs (by omega))
  have hl : ¬ (n : Int) > ((8 * s.size - p : Nat) : Int) := by omega
  obtain ⟨q, hq⟩ : ∃ q : Nat, q = 8 * s.size - p := ⟨_, rfl⟩
  rw [← hq] at HL hl
  clear hq h
  go_enter Try.func137, Try.ntmps137
  go_wp2_with (first | (go_at_call 88; refine (thereS HB.out).mono ?_; rintro e w' ⟨rfl, hw'⟩; rw [hw']; clear hw') | (go_at_call 91; refine (many _ _).mono ?_; rintro e w' ⟨rfl, hw'⟩; rw [hw', hd]; clear hw') | (go_at_call 126; refine HL.out.mono ?_; rintro e w' ⟨rfl, x, rfl⟩; have HB2 := Lib.hid (HB.out.up (ext_below w x)); have c2 := HB2.out.c2; have f2 := HB2.out.free 2; have hg := HB2.out.lt; have HST := Lib.hid (HB2.out.set2 (p + n))))
  go_ret
  have hst := HST.out
  rw [Int.natCast_add] at hst
  exact ⟨rfl, hst.1, grown_trans (grown_below (ext_below w _) _) hst.2⟩
end Go.Cm

/- A text's bits as a number; the walks of the reading of bits. Conditions: the reader is there. -/
namespace Go.Cm
open Go.RowKit Go.Proofs

def numL : List UInt8 → Nat
  | [] => 0
  | b :: r => b.toNat + 256 * numL r
/-- the bits of a text, as a number -/
def numS (s : ByteArray) : Nat := numL s.data.toList
theorem numL_div (l : List UInt8) (i : Nat) : numL l / 256 ^ i = numL (l.drop i) := by
  induction l generalizing i with
  | nil => simp [numL]
  | cons b r ih =>
    cases i with
    | zero => simp
    | succ i =>
      rw [List.drop_succ_cons, ← ih i, Nat.pow_succ, Nat.mul_comm, ← Nat.div_div_eq_div_mul]
      have : numL (b :: r) / 256 = numL r := by
        have := UInt8.toNat_lt b
        show (b.toNat + 256 * numL r) / 256 = numL r
        omega
      rw [this]
theorem numL_byte (l : List UInt8) (i : Nat) (h : i < l.length) : numL l / 256 ^ i % 256 = (l[i]).toNat := by
  rw [numL_div, List.drop_eq_getElem_cons h]
  have := UInt8.toNat_lt l[i]
  show ((l[i]).toNat + 256 * numL _) % 256 = _
  omega
theorem numL_zero (l : List UInt8) (i : Nat) (h : l.length ≤ i) : numL l / 256 ^ i = 0 := by
  rw [numL_div, List.drop_of_length_le h]; rfl
theorem numS_byte (s : ByteArray) (i : Nat) (h : i < s.size) : numS s / 256 ^ i % 256 = (s[i]).toNat := by
  have h' : i < s.data.toList.length := by simpa using h
  unfold numS
  rw [numL_byte _ i h']
  rfl
theorem numS_zero (s : ByteArray) (i : Nat) (h : s.size ≤ i) : numS s / 256 ^ i = 0 := numL_zero _ i (by simpa using h)
/-- the next n bits, from bit p on -/
def valN (N p n : Nat) : Nat := N / 2 ^ p % 2 ^ n
theorem peek_step (s : ByteArray) (f k : Nat) (h : f + k < s.size) : numS s / 256 ^ f % 256 ^ k + (s[f + k]).toNat * 2 ^ (8 * k) = numS s / 256 ^ f % 256 ^ (k + 1) := by
  have h1 := numS_byte s (f + k) h
  rw [← h1, ← pow256, Nat.pow_add, ← Nat.div_div_eq_div_mul, Nat.pow_succ, Nat.mod_mul, Nat.mul_comm]
theorem valN_cut (N f m k n : Nat) (h : m + n ≤ 8 * k) : N / 256 ^ f % 256 ^ k / 2 ^ m % 2 ^ n = valN N (8 * f + m) n := by
  unfold valN
  rw [pow256 k, Nat.pow_add, ← Nat.div_div_eq_div_mul, ← pow256 f]
  generalize N / 256 ^ f = D
  obtain ⟨q, hq⟩ : ∃ q, 8 * k = m + (n + q) := ⟨8 * k - m - n, by omega⟩
  rw [hq, Nat.pow_add, Nat.mod_mul_right_div_self, Nat.pow_add, Nat.mod_mul_right_mod]
theorem valN_end (s : ByteArray) (f m k n : Nat) (h : s.size ≤ f + k) : numS s / 256 ^ f % 256 ^ k / 2 ^ m % 2 ^ n = valN (numS s) (8 * f + m) n := by
  unfold valN
  rw [Nat.pow_add, ← Nat.div_div_eq_div_mul, ← pow256 f]
  have h0 : numS s / 256 ^ f / 256 ^ k = 0 := by
    rw [Nat.div_div_eq_div_mul, ← Nat.pow_add]; exact numS_zero s _ h
  have hl : numS s / 256 ^ f < 256 ^ k := by
    have := (Nat.div_eq_zero_iff_lt (Nat.pow_pos (n := k) (show 0 < 256 by decide))).1 h0
    exact this
  rw [Nat.mod_eq_of_lt hl]
theorem u64_or (a b k : Nat) (hk : k ≤ 4) (ha : a < 256 ^ k) (hb : b < 256) : bits .or .u64 (a : Int) (((b : Int) * 2 ^ (8 * k)) % 18446744073709551616) = ((a + b * 2 ^ (8 * k) : Nat) : Int) := by
  rw [pow256] at ha
  have ho := or_add a b (8 * k) ha
  have hp : 2 ^ (8 * k) ≤ 2 ^ 32 := Nat.pow_le_pow_right (by decide) (by omega)
  have hb2 : b * 2 ^ (8 * k) ≤ 255 * 2 ^ 32 := Nat.mul_le_mul (by omega) hp
  have hc : (b : Int) * 2 ^ (8 * k) = ((b * 2 ^ (8 * k) : Nat) : Int) := by rw [Int.natCast_mul, Int.natCast_pow]; rfl
  rw [hc]
  generalize 2 ^ (8 * k) = z at *
  generalize b * z = q at *
  have e : (q : Int) % 18446744073709551616 = (q : Int) := by omega
  rw [e, (bits_nat .u64 64 (by decide) (fun n h0 h1 => by rw [IntKind.wrap_u64]; omega) a q (by omega) (by omega)).2, ho]
theorem u64_mask (a m n : Nat) (hn : n ≤ 32) (ha : a < 2 ^ 40) : wrap64 (bits .and .u64 ((a : Int) / 2 ^ m) (IntKind.u64.wrap (IntKind.u64.wrap (2 ^ n) - 1))) = ((a / 2 ^ m % 2 ^ n : Nat) : Int) := by
  have hp : 2 ^ n ≤ 2 ^ 32 := Nat.pow_le_pow_right (by decide) hn
  have hp1 : 1 ≤ 2 ^ n := Nat.one_le_two_pow
  have e1 : (2 : Int) ^ n = ((2 ^ n : Nat) : Int) := by norm_cast
  have e2 : (a : Int) / 2 ^ m = ((a / 2 ^ m : Nat) : Int) := by norm_cast
  have e3 : IntKind.u64.wrap (IntKind.u64.wrap (2 ^ n) - 1) = ((2 ^ n - 1 : Nat) : Int) := by
    rw [IntKind.wrap_u64, IntKind.wrap_u64, e1]
    generalize 2 ^ n = q at *
    omega
  have hd : a / 2 ^ m ≤ a := Nat.div_le_self _ _
  have hb := (bits_nat .u64 64 (by decide) (fun n h0 h1 => by rw [IntKind.wrap_u64]; omega) (a / 2 ^ m) (2 ^ n - 1) (by omega) (by omega)).1
  rw [e2, e3, hb, Nat.and_two_pow_sub_one_eq_mod]
  have hm : a / 2 ^ m % 2 ^ n < 2 ^ n := Nat.mod_lt _ (by omega)
  rw [IntWalk.wrap64_in _ ⟨by omega, by omega⟩]
set_option maxRecDepth 100000 in
theorem peekS {w : World} {g : Nat} {s : ByteArray} {p : Nat} (h : BoxS w g s p) (hs : s.size ≤ 4294967296) (hp : p ≤ 8 * s.size) (n : Nat) (hn : n ≤ 32) :
    Calls Try.prog 136 #[.pointer (some ⟨g, 0, none⟩), .int .i64 n] w fun e w' => e = .returned (.int .i64 (valN (numS s) p n : Nat)) ∧ ∃ x, w' = ext w x := by
  have hd : decide (0 ≤ (n : Int) ∧ (n : Int) ≤ 32) = true := by simp; omega
  have HB := Lib.hid h
  have c1 := h.c1
  have c2 := h.c2
  have hg := h.lt
  have e8 : (p : Int) / 8 = ((p / 8 : Nat) : Int) := by omega
  have em : (p : Int) % 8 = ((p % 8 : Nat) : Int) := by omega
  have hpq : 8 * (p / 8) + p % 8 = p := by omega
  have hm8 : p % 8 < 8 := by omega
  clear h
  generalize p / 8 = f at *
  generalize p % 8 = m at *
  have hf : f ≤ 4294967296 := by omega
  have HPQ := Lib.hid hpq
  clear hpq
  go_enter Try.func136, Try.ntmps136
  go_wp2_with (first | (go_at_call 88; refine (thereS HB.out).mono ?_; rintro e w' ⟨rfl, hw'⟩; rw [hw']; clear hw') | (go_at_call 91; refine (many _ _).mono ?_; rintro e w' ⟨rfl, hw'⟩; rw [hw', hd]; clear hw'))
  rw [em]
  go_loop [7, 8] (fun a i => ∃ k : Nat, k ≤ 5 ∧ i = .int .i64 k ∧ a = .int .u64 (numS s / 256 ^ f % 256 ^ k : Nat)) (fun _ i => 6 - (intOf i).toNat)
  case atStart => exact ⟨0, by omega, rfl, by rw [Nat.pow_zero, Nat.mod_one]; rfl⟩
  case round =>
    obtain ⟨k, hk, rfl, rfl⟩ := hrel
    have hle : numS s / 256 ^ f % 256 ^ k < 256 ^ k := Nat.mod_lt _ (Nat.pow_pos (by decide))
    by_cases h1 : 8 * k < m + n
    · have h1i : (k : Int) * 8 < (m : Int) + (n : Int) := by omega
      by_cases h2 : f + k < s.size
      · have hst := peek_step s f k h2
        have hor := u64_or (numS s / 256 ^ f % 256 ^ k) (s[f + k]).toNat k (by omega) hle (UInt8.toNat_lt _)
        rw [hst] at hor
        rw [← IntKind.wrap_u64] at hor
        have hby : (s[f + k]).toNat < 256 := UInt8.toNat_lt _
        have hwy : IntKind.u64.wrap ((s[f + k]).toNat : Int) = ((s[f + k]).toNat : Int) := by rw [IntKind.wrap_u64]; omega
        have HOR := Lib.hid hor
        clear hor hst
        have h2i : (f : Int) + (k : Int) < (s.size : Int) := by omega
        generalize hz : numS s / 256 ^ f % 256 ^ (k + 1) = z at *
        have HZ := Lib.hid hz
        clear hz
        generalize numS s / 256 ^ f % 256 ^ k = a at *
        go_wp2
        go_round
        case rel =>
          refine ⟨k + 1, by omega, by go_num, ?_⟩
          rw [HOR.out, HZ.out]
        case measure => simp [intOf]; omega
      · have h2i : ¬ (f : Int) + (k : Int) < (s.size : Int) := by omega
        have HV := Lib.hid (valN_end s f m k n (by omega))
        rw [HPQ.out] at HV
        have h40 : 256 ^ k ≤ 256 ^ 5 := Nat.pow_le_pow_right (by decide) hk
        have ha : numS s / 256 ^ f % 256 ^ k < 2 ^ 40 := Nat.lt_of_lt_of_le hle h40
        generalize numS s / 256 ^ f % 256 ^ k = a at *
        go_wp2
        go_ret
        refine ⟨?_, (ex_ext (by repeat (first | exact Below.refl _ _ | assumption | refine b_drewN ?_ _ | refine Below.drew ?_ | refine b_ext' ?_ _ | refine b_alloc' ?_ _)))⟩
        rw [← HV.out, ← u64_mask a m n hn ha]; rfl
    · have h1i : ¬ (k : Int) * 8 < (m : Int) + (n : Int) := by omega
      have HV := Lib.hid (valN_cut (numS s) f m k n (by omega))
      rw [HPQ.out] at HV
      have h40 : 256 ^ k ≤ 256 ^ 5 := Nat.pow_le_pow_right (by decide) hk
      have ha : numS s / 256 ^ f % 256 ^ k < 2 ^ 40 := Nat.lt_of_lt_of_le hle h40
      generalize numS s / 256 ^ f % 256 ^ k = a at *
      go_wp2
      go_ret
      refine ⟨?_, (ex_ext (by repeat (first | exact Below.refl _ _ | assumption | refine b_drewN ?_ _ | refine Below.drew ?_ | refine b_ext' ?_ _ | refine b_alloc' ?_ _)))⟩
      rw [← HV.out, ← u64_mask a m n hn ha]; rfl
end Go.Cm

/- The walk of the document's reading of a symbol. Conditions: the lengths are right, the reader is there. -/
namespace Go.Cm
open Go.RowKit Go.Proofs

/-- what the document's reading answers -/
def RetRead (Bx : World → Nat → ByteArray → Nat → Prop) (L : List Nat) (s : ByteArray) (p g : Nat) (w : World) (e : Ending) (w' : World) : Prop :=
  ∃ a er d, e = .returned (.tuple #[.int .i64 (a : Nat), .int .i64 (er : Nat)]) ∧ ReadN L (numS s / 2 ^ p) (8 * s.size - p) a er d ∧ Bx w' g s (p + d) ∧ w.grownBy w' (some g)
end Go.Cm

/- The table of codes in memory; the walks of its filling. Conditions: none. -/
namespace Go.Cm
open Go.RowKit Go.Proofs

def cellE (e : Ent) (c : Nat) : Nat := if c = 0 then e.s else if c = 1 then e.b else e.t
def entV (e : Ent) : Array Value := #[.int .i64 (e.s : Nat), .int .i64 (e.b : Nat), .int .i64 (e.t : Nat)]
/-- entries, a value a cell -/
def flatE (E : Nat → Ent) (n : Nat) : List Value := (List.range (3 * n)).map fun k => .int .i64 (cellE (E (k / 3)) (k % 3) : Nat)
theorem flatE_length (E : Nat → Ent) (n : Nat) : (flatE E n).length = 3 * n := by simp [flatE]
theorem flatE_congr {E E' : Nat → Ent} {n : Nat} (h : ∀ x, x < n → E x = E' x) : flatE E n = flatE E' n := by
  unfold flatE
  refine List.map_congr_left fun k hk => ?_
  have := List.mem_range.1 hk
  rw [h (k / 3) (by omega)]
theorem flatE_zero (n : Nat) : flatE (fun _ => Ent.zero) n = List.replicate (3 * n) (.int .i64 0) := by
  rw [List.eq_replicate_iff]
  refine ⟨flatE_length _ _, fun x hx => ?_⟩
  simp only [flatE, List.mem_map] at hx
  obtain ⟨k, -, rfl⟩ := hx
  have : cellE Ent.zero (k % 3) = 0 := by unfold cellE Ent.zero; split <;> (try split) <;> rfl
  rw [this]; rfl
theorem flatE_at (E : Nat → Ent) (n x c : Nat) (hx : x < n) (hc : c < 3) : (flatE E n)[3 * x + c]? = some (.int .i64 (cellE (E x) c : Nat)) := by
  unfold flatE
  rw [List.getElem?_map, List.getElem?_range (by omega)]
  simp only [Option.map_some]
  rw [show (3 * x + c) / 3 = x by omega, show (3 * x + c) % 3 = c by omega]
theorem set3 (pre post : List Value) (E : Nat → Ent) (n x : Nat) (e : Ent) (hx : x < n) :
    (pre ++ flatE E n ++ post).take (pre.length + 3 * x) ++ (entV e).toList ++ (pre ++ flatE E n ++ post).drop (pre.length + 3 * x + 3) = pre ++ flatE (updN E x e) n ++ post := by
  have hl : (flatE E n).length = 3 * n := flatE_length E n
  have e1 : (pre ++ flatE E n ++ post).take (pre.length + 3 * x) = pre ++ (flatE E n).take (3 * x) := by
    rw [List.append_assoc, List.take_length_add_append, List.take_append_of_le_length (by omega)]
  have e2 : (pre ++ flatE E n ++ post).drop (pre.length + 3 * x + 3) = (flatE E n).drop (3 * x + 3) ++ post := by
    rw [List.append_assoc, Nat.add_assoc, List.drop_length_add_append, List.drop_append_of_le_length (by omega)]
  rw [e1, e2]
  have e3 : flatE (updN E x e) n = (flatE E n).take (3 * x) ++ (entV e).toList ++ (flatE E n).drop (3 * x + 3) := by
    refine List.ext_getElem? fun k => ?_
    by_cases hk : k < 3 * n
    · have hg : ∀ F : Nat → Ent, (flatE F n)[k]? = some (.int .i64 (cellE (F (k / 3)) (k % 3) : Nat)) := fun F => by
        have := flatE_at F n (k / 3) (k % 3) (by omega) (by omega)
        rwa [show 3 * (k / 3) + k % 3 = k by omega] at this
      rw [hg]
      by_cases h1 : k < 3 * x
      · rw [List.append_assoc, List.getElem?_append_left (by simp; omega), List.getElem?_take, if_pos h1, hg]
        unfold updN
        rw [if_neg (by omega)]
      · by_cases h2 : k < 3 * x + 3
        · rw [List.append_assoc, List.getElem?_append_right (by simp; omega), List.length_take, hl, Nat.min_eq_left (by omega), List.getElem?_append_left (by simp [entV]; omega)]
          unfold updN
          rw [if_pos (by omega)]
          obtain ⟨c, hc, rfl⟩ : ∃ c, c < 3 ∧ k = 3 * x + c := ⟨k - 3 * x, by omega, by omega⟩
          rw [Nat.add_sub_cancel_left, show (3 * x + c) % 3 = c by omega]
          rcases (show c = 0 ∨ c = 1 ∨ c = 2 by omega) with rfl | rfl | rfl <;> rfl
        · rw [List.getElem?_append_right (by simp [entV]; omega)]
          have hlen : ((flatE E n).take (3 * x) ++ (entV e).toList).length = 3 * x + 3 := by simp [entV, hl]; omega
          rw [hlen, List.getElem?_drop, show 3 * x + 3 + (k - (3 * x + 3)) = k by omega, hg]
          unfold updN
          rw [if_neg (by omega)]
    · rw [List.getElem?_eq_none (by rw [flatE_length]; omega), List.getElem?_eq_none]
      simp [entV, hl]; omega
  rw [e3]
  simp [List.append_assoc]
theorem entV_one (e : Ent) : ∀ u ∈ (entV e).toList, u.oneCell' = true := by
  intro u hu
  simp [entV] at hu
  rcases hu with rfl | rfl | rfl <;> rfl
/-- the address of an entry -/
theorem index_ent (g o n : Nat) (W : World) (i : Nat) (h : i < n) : (Instr.indexAt 162 (.slice (some ⟨g, o, none⟩) n n) (.int .i64 i)).run Try.prog W = .ok (.pointer (some ⟨g, o + 3 * i, none⟩)) W := by
  have he : Try.prog.elem 162 = 156 := by simp [Program.elem, Try.underlying162]
  have hsz : (sizeOf 156).run Try.prog W = .ok 3 W := by
    have hi : (Try.prog.info? 156).map (·.size) = some 3 := by kernel_rfl
    cases hq : Try.prog.info? 156 with
    | none => simp [hq] at hi
    | some inf => have : inf.size = 3 := by simpa [hq] using hi
                  simp [sizeOf, typeInfo, hq, this]
  rw [run_indexAt_slice W 162 ⟨g, o, none⟩ n n .i64 i (by rw [he]; exact Try.underlying162), if_pos ⟨by omega, by omega⟩, he, hsz]
  simp only [Result.andThen, Int.toNat_natCast, add_off]
  rw [Nat.mul_comm]
/-- entries that were put so far -/
def partF (E : Nat → Ent) (t q : Nat) (e : Ent) (i : Nat) : Nat → Ent := fun x => if x < i ∧ x % q = t then e else E x
theorem partF_start (E : Nat → Ent) (t q : Nat) (e : Ent) (n : Nat) (ht : t < q) : flatE (partF E t q e t) n = flatE E n := flatE_congr fun x _ => by
  unfold partF
  rw [if_neg]
  rintro ⟨h1, h2⟩
  rw [Nat.mod_eq_of_lt (by omega)] at h2; omega
theorem partF_step (E : Nat → Ent) (t q : Nat) (e : Ent) (i : Nat) (hi : i % q = t) (ht : t < q) : updN (partF E t q e i) i e = partF E t q e (i + q) := by
  funext x
  unfold updN partF
  by_cases h : x = i
  · subst h; rw [if_pos rfl, if_pos ⟨by omega, hi⟩]
  · rw [if_neg h]
    by_cases h2 : x < i ∧ x % q = t
    · rw [if_pos h2, if_pos ⟨by omega, h2.2⟩]
    · rw [if_neg h2, if_neg]
      rintro ⟨h3, h4⟩
      have hge : i ≤ x := by
        apply Classical.byContradiction; intro hlt
        exact h2 ⟨by omega, h4⟩
      obtain ⟨d, rfl⟩ : ∃ d, x = i + d := ⟨x - i, by omega⟩
      have hd : d < q := by omega
      have h5 : (i + d) % q = i % q := by rw [h4, hi]
      have h6 : d % q = 0 := by
        have h7 : (i + d - i) % q = 0 := Nat.sub_mod_eq_zero_of_mod_eq h5
        rwa [Nat.add_sub_cancel_left] at h7
      rw [Nat.mod_eq_of_lt hd] at h6
      subst h6; exact h rfl
theorem partF_end (E : Nat → Ent) (c nn : Nat) (e : Ent) (i n : Nat) (hi : n ≤ i) : flatE (partF E (turnN c nn) (2 ^ nn) e i) n = flatE (fillN E c nn e) n := flatE_congr fun x hx => by
  unfold partF fillN
  by_cases h : x % 2 ^ nn = turnN c nn
  · rw [if_pos ⟨by omega, h⟩, if_pos h]
  · rw [if_neg (fun q => h q.2), if_neg h]
set_option maxRecDepth 100000 in
theorem fillP {w : World} {B T g N o n : Nat} {pre post : List Value} {E : Nat → Ent} (h : Own w B T (.slice (some ⟨g, 0, none⟩) N N) (pre ++ flatE E n ++ post)) (hpre : pre.length = o) (c nn : Nat) (hnn : nn ≤ 15) (hn : n ≤ 65536) (e : Ent) :
    Calls Try.prog 113 #[.slice (some ⟨g, o, none⟩) n n, .int .i64 c, .int .i64 nn, .agg (entV e)] w fun en w' => en = .returned (.tuple #[]) ∧
      Own w' B T (.slice (some ⟨g, 0, none⟩) N N) (pre ++ flatE (fillN E c nn e) n ++ post) ∧ w.grownBy w' (some g) := by
  have hg := h.blk
  have hlen := h.len
  have HO := Lib.hid (h.up (below_alloc w (.cells (entV e) 156)))
  have HG := Lib.hid (heap_alloc_new w (.cells (entV e) 156))
  have hix := index_ent g o n
  have HES : Hid ((entV e).size = 3) := Lib.hid rfl
  have HE1 := Lib.hid (entV_one e)
  have HGB : Hid (w.grownBy (w.alloc (.cells (entV e) 156)) (some g)) := Lib.hid (grown_below (below_alloc _ _) _)
  have HS3 := Lib.hid (fun E x hx => set3 pre post E n x e hx)
  have htl := turnN_lt c nn
  have HPS := Lib.hid (partF_start E (turnN c nn) (2 ^ nn) e n htl)
  have HPT := Lib.hid (fun i hi => partF_step E (turnN c nn) (2 ^ nn) e i hi htl)
  have HPE := Lib.hid (partF_end E c nn e)
  have HTP := Lib.hid (turnP c nn (by omega))
  have hq : 2 ^ nn ≤ 32768 := Nat.le_trans (Nat.pow_le_pow_right (by decide) hnn) (by decide)
  rw [← HPS.out] at HO
  obtain ⟨V, hV⟩ : ∃ V, V = entV e := ⟨_, rfl⟩
  rw [← hV] at HO HG HES HE1 HGB HS3 ⊢
  have HV := Lib.hid hV
  have HTM : Hid (turnN c nn % 2 ^ nn = turnN c nn) := Lib.hid (Nat.mod_eq_of_lt htl)
  have HQ := Lib.hid hq
  have ht15 : turnN c nn ≤ 32768 := by omega
  clear h hV htl hq
  go_enter Try.func113, Try.ntmps113
  go_wp2_with (go_at_call 117; refine (HTP.out _).mono ?_; rintro en w' ⟨rfl, hw'⟩; rw [hw']; clear hw')
  generalize hA : (w.alloc (.cells V 156)) = w1 at *
  have hgw1 : g < w1.heap.size := by rw [← hA]; simp; omega
  have hsz1 : w1.heap.size = w.heap.size + 1 := by rw [← hA]; simp
  clear hA
  obtain ⟨t, ht⟩ : ∃ t, t = turnN c nn := ⟨_, rfl⟩
  rw [← ht] at HO HPS HPT HPE HTM ht15 ⊢
  clear ht
  go_loopg [8] (n - t) (fun gk iv wr => ∃ i : Nat, iv = .int .i64 i ∧ i % 2 ^ nn = t ∧ i ≤ 100000 ∧ Own wr B T (.slice (some ⟨g, 0, none⟩) N N) (pre ++ flatE (partF E t (2 ^ nn) e i) n ++ post) ∧ w1.grownBy wr (some g) ∧ gk = n - i)
  case atStart => exact ⟨t, rfl, HTM.out, by omega, HO.out, grown_refl _ _, rfl⟩
  case round =>
    clear HO
    obtain ⟨i, rfl, him, hi1, hown, hgr, rfl⟩ := hrel
    have HO := Lib.hid hown
    have HGR := Lib.hid hgr
    have hszr := hgr.size
    have hgV := (hgr.block w.heap.size (by omega) (by simp; omega)).trans HG.out
    clear hown hgr
    by_cases hlt : i < n
    · have hixi := fun W => hix W i hlt
      have HIM := Lib.hid him
      clear him
      have HS := Lib.hid (HS3.out (partF E t (2 ^ nn) e i) i hlt)
      rw [HPT.out i HIM.out] at HS
      go_wp2_with (first | (refine load_box rfl 156 3 _ rfl w.heap.size rfl V HES.out hgV _ Try.underlying156 rfl (by kernel_rfl) ?_) | (refine wpList_store_part rfl 156 _ _ rfl B T g N N (o + 3 * i) rfl V rfl (by rw [HES.out]; kernel_rfl) _ HO.out (by rw [List.length_append, List.length_append, flatE_length, HES.out]; omega) HE1.out ?_; intro w5 hown5 hg5; have HO5 := Lib.hid hown5; have HG5 := Lib.hid hg5; clear hown5 hg5))
      have hqq := HQ.out
      generalize hq0 : 2 ^ nn = q at *
      have hpos : 0 < q := by rw [← hq0]; exact Nat.pow_pos (by decide)
      have e0 : (2 : Int) ^ nn = (q : Int) := by rw [← hq0]; norm_cast
      rw [e0]
      go_roundg (n - (i + q))
      case measure => omega
      case rel =>
        rw [IntWalk.wrap64_in (q : Int) ⟨by omega, by omega⟩, IntWalk.wrap64_in _ ⟨by omega, by omega⟩]
        refine ⟨i + q, by norm_cast, by rw [Nat.add_mod_right]; exact HIM.out, by omega, ?_, grown_trans HGR.out HG5.out, rfl⟩
        have h5 := HO5.out
        rw [← hpre, HES.out, HS.out] at h5
        exact h5
    · have HE2 := Lib.hid (HPE.out i n (by omega))
      go_wp2
      go_end0
      refine ⟨rfl, ?_, grown_trans HGB.out HGR.out⟩
      rw [← HE2.out]
      exact HO.out
set_option maxRecDepth 100000 in
/-- the longest rest of a code with the head -/
theorem longestP {w : World} (v u : Value) (L : List Nat) (h : IntsAt w v (nls L)) (hu : IntsAt w u (nls (codesN L))) (hlen : L.length ≤ 320) (h15 : ∀ x ∈ L, x ≤ 15) (hk : kraftN L ≤ 32768) (head : Nat) (_hh : head ≤ 32768) :
    Calls Try.prog 132 #[v, u, .int .i64 head] w fun e w' => (∃ m : Nat, e = .returned (.int .i64 m) ∧ m ≤ 6 ∧ ∀ j, j < L.length → 9 < L.getD j 0 → codeN L j / 2 ^ (L.getD j 0 - 9) = head → L.getD j 0 ≤ 9 + m) ∧ ∃ x, w' = ext w x := by
  obtain ⟨oa, cap, b, off, rfl, hd, hc⟩ := h.open
  obtain ⟨oc, cc, bc, fc, rfl, hdc, hcc⟩ := hu.open
  rw [nls_length] at hd hc ⊢
  rw [show (nls (codesN L)).length = L.length by rw [nls_length, codesN_length]] at hdc hcc ⊢
  have hix := index_any (P := Try.prog) 39 3 Try.underlying39 (by kernel_rfl) hd
  have hixc := index_any (P := Try.prog) 39 3 Try.underlying39 (by kernel_rfl) hdc
  have hm := hd.len
  have hbk := hd.hblk
  have hbkc := hdc.hblk
  have HC : Hid (∀ i, i < L.length → w.cell? ⟨b, off + i, none⟩ = some (.int .i64 (L.getD i 0 : Nat))) := Lib.hid (fun i hi => by rw [hc i hi, nls_getD])
  have HCC : Hid (∀ i, i < L.length → w.cell? ⟨bc, fc + i, none⟩ = some (.int .i64 (codeN L i : Nat))) := Lib.hid (fun i hi => by rw [hcc i hi, nls_getD, codesN_getD L i hi])
  have H15 : Hid (∀ i, i < L.length → L.getD i 0 ≤ 15) := Lib.hid (fun i hi => h15 _ (getD_mem L i 0 hi))
  have HCL : Hid (∀ i, i < L.length → codeN L i < 2 ^ L.getD i 0) := Lib.hid (code_lt h15 hk)
  clear h hu hd hc hdc hcc h15 hk
  go_enter Try.func132, Try.ntmps132
  go_wp2
  go_loop [7, 12] (fun mo i => ∃ (k m : Nat), k ≤ L.length ∧ i = .int .i64 k ∧ mo = .int .i64 m ∧ m ≤ 6 ∧ ∀ j, j < k → 9 < L.getD j 0 → codeN L j / 2 ^ (L.getD j 0 - 9) = head → L.getD j 0 ≤ 9 + m) (fun _ i => L.length - (intOf i).toNat)
  case atStart => exact ⟨0, 0, Nat.zero_le _, rfl, rfl, by omega, fun j hj => absurd hj (Nat.not_lt_zero j)⟩
  case round =>
    obtain ⟨k, m, hk, rfl, rfl, hm6, hall⟩ := hrel
    have HA := Lib.hid hall
    clear hall
    by_cases hlt : k < L.length
    · have hcell := HC.out k hlt
      have hcellc := HCC.out k hlt
      have hb1 := hbk (by omega)
      have hb2 := hbkc (by omega)
      have hx15 := H15.out k hlt
      have hcl := HCL.out k hlt
      have HST : Hid (∀ m' : Nat, m ≤ m' → (9 < L.getD k 0 → codeN L k / 2 ^ (L.getD k 0 - 9) = head → L.getD k 0 ≤ 9 + m') → ∀ j, j < k + 1 → 9 < L.getD j 0 → codeN L j / 2 ^ (L.getD j 0 - 9) = head → L.getD j 0 ≤ 9 + m') := Lib.hid (fun m' hm' hn j hj h9 hh => by
        rcases Nat.lt_succ_iff_lt_or_eq.1 hj with hj | rfl
        · have := HA.out j hj h9 hh; omega
        · exact hn h9 hh)
      generalize L.getD k 0 = x at *
      generalize codeN L k = c at *
      have hc15 : c ≤ 32768 := by
        have : 2 ^ x ≤ 2 ^ 15 := Nat.pow_le_pow_right (by decide) hx15
        omega
      clear hcl
      by_cases h9 : 9 < x
      · have h9i : (x : Int) > 9 := by omega
        have e1 : (x : Int) - 9 = ((x - 9 : Nat) : Int) := by omega
        have hr6 : x - 9 ≤ 6 := by omega
        generalize hr : x - 9 = r at *
        have e2 : (c : Int) / 2 ^ r = ((c / 2 ^ r : Nat) : Int) := by norm_cast
        have hcr : c / 2 ^ r ≤ c := Nat.div_le_self _ _
        generalize c / 2 ^ r = z at *
        by_cases heq : z = head
        · have e3 : ((z : Int) == (head : Int)) = true := by rw [heq]; exact beq_self_eq_true _
          go_wp2
          go_round
          case rel =>
            by_cases hmr : m < r
            · rw [if_pos hmr]
              exact ⟨k + 1, r, by omega, by go_num, rfl, hr6, HST.out r (by omega) (fun _ _ => by omega)⟩
            · rw [if_neg hmr]
              exact ⟨k + 1, m, by omega, by go_num, rfl, hm6, HST.out m (by omega) (fun _ _ => by omega)⟩
          case measure => simp [intOf]; omega
        · have e3 : ((z : Int) == (head : Int)) = false := by simp only [beq_eq_false_iff_ne]; intro h; exact heq (Int.ofNat.inj h)
          have HN := Lib.hid (HST.out m (Nat.le_refl _) (fun _ h => absurd h heq))
          clear heq
          go_wp2
          go_round
          case rel => exact ⟨k + 1, m, by omega, by go_num, rfl, hm6, HN.out⟩
          case measure => simp [intOf]; omega
      · have h9i : ¬ (x : Int) > 9 := by omega
        have HN := Lib.hid (HST.out m (Nat.le_refl _) (fun h => absurd h h9))
        go_wp2
        go_round
        case rel => exact ⟨k + 1, m, by omega, by go_num, rfl, hm6, HN.out⟩
        case measure => simp [intOf]; omega
    · obtain rfl : k = L.length := by omega
      go_wp2
      go_ret
      exact ⟨⟨m, rfl, hm6, HA.out⟩, (ex_ext (by repeat (first | exact Below.refl _ _ | assumption | refine b_drewN ?_ _ | refine Below.drew ?_ | refine b_ext' ?_ _ | refine b_alloc' ?_ _)))⟩
end Go.Cm
