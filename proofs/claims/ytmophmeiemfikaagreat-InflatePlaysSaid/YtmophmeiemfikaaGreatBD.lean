/- Texts of this claim, joined: walks of small functions and plain facts about them. Conditions: as each says. -/
import Derived.Test.YtmophmeiemfikaaGreatBC
import Derived.Test.YtmophmeiemfikaaGreatRows
import Derived.WalkKit
import Derived.WalkSpells
import Derived.WalkLawsBesides
import Derived.Deep.QuietTactic
import Derived.BigQuiet
import Derived.Lib.Hide
import Derived.Deep.LoopGhost
import Derived.Laws.BitsLemmas
import Derived.Laws.Small
/- The walks of the program's codes of lengths. Conditions: the argument reads as a list. -/
namespace Go.Cm
open Go.RowKit Go.Proofs

def z16 : Array Value := (ints (List.replicate 16 0)).toArray
theorem zero_16 (W : World) : (zeroValue 133).run Tryz.prog W = .ok (.agg z16) W := by kernel_rfl
theorem z16_list : z16.toList = ints (nls (List.replicate 16 0)) := rfl
def cntsN (L : List Nat) : List Nat := (List.range 16).map fun n => L.count n
theorem cntsN_getD (L : List Nat) (n : Nat) (h : n < 16) : (cntsN L).getD n 0 = L.count n := by
  simp [cntsN, List.getD, h]
theorem box16 (w : World) (A : Array Value) (hA : A = z16) : BoxA (w.alloc (.cells A 133)) 133 16 w.heap.size (nls (List.replicate 16 0)) := by
  subst hA
  exact boxA_new w 133 z16 (nls (List.replicate 16 0)) z16_list (by decide)
/-- what 'counts' answers -/
def RetCounts (l : List Int) (w : World) (e : Ending) (w' : World) : Prop :=
  ∃ c : List Nat, c.length = 16 ∧ e = .returned (.tuple #[.agg (ints (nls c)).toArray, .int .i64 (wrongI l : Nat)]) ∧ (wrongI l = 0 → c = cntsN (l.map Int.toNat)) ∧ Below w.heap.size w w'
theorem store_box {P : Program} {ops : Array Oper} {rest : List Oper} {o : Oper} {a : Act} {w : World} {Q : Exit → Act → World → Prop} (hgd : o.guard = none) (T n : Nat) (x y : Operand) (ho : o.op = .store T x y)
    (g : Nat) (hx : a.eval x = .pointer (some ⟨g, 0, none⟩)) (cl c2 : List Int) (hy : a.eval y = .agg (ints c2).toArray) (h2 : c2.length = n) (hi : (P.info? T).map (·.size) = some n) (hown : BoxA w T n g cl)
    (h : ∀ w', BoxA w' T n g c2 → w.grownBy w' (some g) → wpList P ops Q rest (a.put o.dst undef) w') : wpList P ops Q (o :: rest) a w := by
  have hs : (ints c2).toArray.size = n := by simp [h2]
  have hl : (ints cl).length = n := by rw [ints_length, hown.len]
  refine wpList_store_agg hgd T x y ho g T g n n hx (ints c2).toArray hy (by rw [hs]; exact hi) (ints cl) hown.own (by omega) (fun u hu => ?_) fun w' hw hg => h w' ⟨?_, h2⟩ hg
  · simp only [ints, List.mem_map] at hu
    obtain ⟨z, -, rfl⟩ := hu; rfl
  · rw [List.drop_of_length_le (by omega), List.append_nil] at hw
    exact hw
theorem cnt_step {l : List Int} {k : Nat} (hk : k < l.length) {y : Nat} (hy : l.getD k 0 = (y : Int)) {c : List Nat} (hl : c.length = 16) (hy15 : y < 16) (hc : ∀ n, n < 16 → c.getD n 0 = ((l.take k).map Int.toNat).count n) :
    ∀ n, n < 16 → (c.set y (c.getD y 0 + 1)).getD n 0 = ((l.take (k + 1)).map Int.toNat).count n := by
  intro n hn
  rw [take_succ_getD l k 0 hk, List.map_append, List.count_append, hy]
  simp only [List.map_cons, List.map_nil, Int.toNat_natCast, List.count_singleton]
  by_cases h : y = n
  · subst h
    rw [getD_set_self' (by omega), hc _ hn, if_pos (beq_self_eq_true _)]
  · rw [getD_set_ne' h, hc _ hn, if_neg (by simpa using h)]; rfl
theorem cnts_end {l : List Int} {c : List Nat} (hl : c.length = 16) (hc : ∀ n, n < 16 → c.getD n 0 = (l.map Int.toNat).count n) : c = cntsN (l.map Int.toNat) := by
  refine List.ext_getElem (by simp [hl, cntsN]) fun n h1 h2 => ?_
  have := hc n (by omega)
  simp only [cntsN, List.getElem_map, List.getElem_range]
  rw [← this]
  simp [List.getD, h1]
set_option maxRecDepth 100000 in
theorem countsP (v : Value) (l : List Int) (w : World) (h : IntsAt w v l) : Calls Tryz.prog 88 #[v] w (RetCounts l w) := by
  obtain ⟨oa, cap, b, off, rfl, hd, hc⟩ := h.open
  have hix := index_any (P := Tryz.prog) 35 3 Tryz.underlying35 (by kernel_rfl) hd
  have hm := hd.len
  have hbk := hd.hblk
  have HC := Lib.hid hc; clear hc h hd
  have hz := zero_16
  obtain ⟨Z, hZ⟩ : ∃ Z, Z = z16 := ⟨_, rfl⟩
  rw [← hZ] at hz
  obtain ⟨O, hO⟩ : ∃ O, O = List.replicate 16 0 := ⟨_, rfl⟩
  have hb1 := box16 w Z hZ
  have hb2 := box16 (w.alloc (.cells Z 133)) Z hZ
  rw [show (w.alloc (.cells Z 133)).heap.size = w.heap.size + 1 by simp] at hb2
  rw [← hO] at hb1 hb2
  have HB2 := Lib.hid hb2
  have HB3 : Hid (BoxA ((w.alloc (.cells Z 133)).alloc (.cells Z 133)) 133 16 w.heap.size (nls O)) := Lib.hid (hb1.up (below_alloc _ _))
  have HBL : Hid (Below w.heap.size w ((w.alloc (.cells Z 133)).alloc (.cells Z 133))) := Lib.hid (by repeat (first | exact Below.refl _ _ | assumption | refine b_drewN ?_ _ | refine Below.drew ?_ | refine b_ext' ?_ _ | refine b_alloc' ?_ _))
  have HOL : Hid (O.length = 16) := Lib.hid (by rw [hO]; simp)
  have HOC : Hid (∀ n, n < 16 → O.getD n 0 = ((l.take 0).map Int.toNat).count n) := Lib.hid (fun n hn => by rw [hO, List.getD_eq_getElem?_getD, List.getElem?_replicate, if_pos hn]; simp)
  clear hZ hb1 hb2 hO
  by_cases hbig : 320 < l.length
  · have hb : (l.length : Int) > 320 := by omega
    have HE := Lib.hid (wrongI_big hbig)
    obtain ⟨A, hgA, hsA, hA⟩ := HB2.out.open
    have HA := Lib.hid (congrArg List.toArray hA)
    clear hA
    go_enter Tryz.func88, Tryz.ntmps88
    go_wp2_with (first | (refine load_box rfl 133 16 _ rfl (w.heap.size + 1) rfl A hsA hgA _ Tryz.underlying133 rfl (by kernel_rfl) ?_) | (refine store_box rfl 133 16 _ _ rfl w.heap.size rfl (nls O) (nls O) (congrArg Value.agg HA.out) (by rw [nls_length]; exact HOL.out) (by kernel_rfl) HB3.out ?_; intro w2 hB2 hg2; have HB4 := Lib.hid hB2; have HG2 := Lib.hid hg2; clear hB2 hg2))
    refine ret_cell_tmp (s := 2) (b := 3) (ad := ⟨w.heap.size, 0, none⟩) (x := .agg (ints (nls O)).toArray) (y := .int .i64 3) rfl rfl rfl rfl (HB4.out.load _ Tryz.underlying133 rfl (by kernel_rfl)) ?_
    refine ⟨O, HOL.out, by rw [HE.out]; rfl, fun h0 => (by rw [HE.out] at h0; cases h0), ?_⟩
    exact HBL.out.grown HG2.out HBL.out.size (fun k hk => by cases hk; exact Nat.le_refl _)
  · have hb : ¬ (l.length : Int) > 320 := by omega
    go_enter Tryz.func88, Tryz.ntmps88
    go_wp2
    go_loopg [13] (l.length + 1) (fun gk i wr => ∃ (k : Nat) (c : List Nat), k ≤ l.length ∧ i = .int .i64 k ∧ Hid (c.length = 16) ∧ BoxA wr 133 16 (w.heap.size + 1) (nls c) ∧ BoxA wr 133 16 w.heap.size (nls O) ∧ Hid (∀ q, q < k → 0 ≤ l.getD q 0 ∧ l.getD q 0 ≤ 15) ∧ Hid (∀ n, n < 16 → c.getD n 0 = ((l.take k).map Int.toNat).count n) ∧ Below w.heap.size w wr ∧ gk = l.length + 1 - k)
    case atStart => exact ⟨0, O, Nat.zero_le _, rfl, HOL, HB2.out, HB3.out, Lib.hid (fun j hj => absurd hj (Nat.not_lt_zero j)), HOC, HBL.out, rfl⟩
    case round =>
      clear HB2 HB3 HBL HOC
      obtain ⟨k, c, hk, rfl, HCL, hb2, hb3, HALL, HCN, hbel, rfl⟩ := hrel
      have HB2 := Lib.hid hb2
      have HB3 := Lib.hid hb3
      have HBL := Lib.hid hbel
      have hsz := hbel.size
      clear hb2 hb3 hbel
      by_cases hlt : k < l.length
      · have hbb := hbk (by omega)
        have hcell := (HBL.out.cell (p := ⟨b, off + k, none⟩) hbb).trans (HC.out k hlt)
        have HW : Hid ((0 ≤ l.getD k 0 ∧ l.getD k 0 ≤ 15) → ∀ q, q < k + 1 → 0 ≤ l.getD q 0 ∧ l.getD q 0 ≤ 15) := Lib.hid (fun h q hq => by
          rcases Nat.lt_succ_iff_lt_or_eq.1 hq with h1 | rfl
          · exact HALL.out q h1
          · exact h)
        have HF : Hid (¬ (0 ≤ l.getD k 0 ∧ l.getD k 0 ≤ 15) → wrongI l = 1) := Lib.hid (wrongI_bad hbig hlt)
        have HST : Hid (∀ y : Nat, l.getD k 0 = (y : Int) → y < 16 → ∀ n, n < 16 → (c.set y (c.getD y 0 + 1)).getD n 0 = ((l.take (k + 1)).map Int.toNat).count n) := Lib.hid (fun y hy hy15 => cnt_step hlt hy HCL.out hy15 HCN.out)
        have HCB : Hid (∀ n, n < 16 → c.getD n 0 ≤ 320) := Lib.hid (fun n hn => by
          rw [HCN.out n hn]
          have := List.count_le_length (a := n) (l := (l.take k).map Int.toNat)
          simp only [List.length_map, List.length_take] at this
          omega)
        have hbb2 : b < wr.heap.size := by omega
        generalize l.getD k 0 = y at *
        by_cases hok : 0 ≤ y ∧ y ≤ 15
        · obtain ⟨h0, h1⟩ := hok
          obtain ⟨n, rfl⟩ : ∃ n : Nat, y = (n : Int) := ⟨y.toNat, by omega⟩
          have hn : n < 16 := by omega
          have hcn := HB2.out.cell hn
          rw [nls_getD] at hcn
          have hcb := HCB.out n hn
          have hfn := HB2.out.free n
          have hbg := HB2.out.lt
          have hset := HB2.out.set n ((c.getD n 0 : Nat) + 1)
          have HST2 := Lib.hid (HST.out n rfl hn)
          have HSET := Lib.hid hset
          clear hset
          have hns : nls c = nls c := rfl
          have HNS : Hid ((nls c).set n (((c.getD n 0 : Nat) : Int) + 1) = nls (c.set n (c.getD n 0 + 1))) := Lib.hid (by rw [← nls_set]; norm_cast)
          generalize c.getD n 0 = m at *
          go_wp2
          go_roundg (l.length - k)
          case measure => omega
          case rel =>
            refine ⟨k + 1, c.set n (m + 1), by omega, by go_num, Lib.hid (by rw [List.length_set]; exact HCL.out), ?_, ?_, Lib.hid (HW.out ⟨h0, h1⟩), Lib.hid HST2.out, ?_, by omega⟩
            · have := HSET.out.1
              rw [HNS.out] at this
              exact this
            · exact HB3.out.keep HSET.out.2 (by simp)
            · exact HBL.out.grown HSET.out.2 (by omega) (fun k hk => by cases hk; omega)
        · have HE := HF.out hok
          have HE2 := Lib.hid HE
          clear HE
          obtain ⟨A, hgA, hsA, hA⟩ := HB2.out.open
          have HA := Lib.hid (congrArg List.toArray hA)
          clear hA
          by_cases h0 : y < 0
          · go_wp2_with (first | (refine load_box rfl 133 16 _ rfl (w.heap.size + 1) rfl A hsA hgA _ Tryz.underlying133 rfl (by kernel_rfl) ?_) | (refine store_box rfl 133 16 _ _ rfl w.heap.size rfl (nls O) (nls c) (congrArg Value.agg HA.out) (by rw [nls_length]; exact HCL.out) (by kernel_rfl) HB3.out ?_; intro w2 hB2 hg2; have HB4 := Lib.hid hB2; have HG2 := Lib.hid hg2; clear hB2 hg2))
            refine ret_cell_tmp (s := 2) (b := 3) (ad := ⟨w.heap.size, 0, none⟩) (x := .agg (ints (nls c)).toArray) (y := .int .i64 1) rfl rfl rfl rfl (HB4.out.load _ Tryz.underlying133 rfl (by kernel_rfl)) ?_
            refine ⟨c, HCL.out, by rw [HE2.out]; rfl, fun h0 => (by rw [HE2.out] at h0; cases h0), ?_⟩
            exact HBL.out.grown HG2.out (by omega) (fun k hk => by cases hk; exact Nat.le_refl _)
          · have h1 : y > 15 := by omega
            go_wp2_with (first | (refine load_box rfl 133 16 _ rfl (w.heap.size + 1) rfl A hsA hgA _ Tryz.underlying133 rfl (by kernel_rfl) ?_) | (refine store_box rfl 133 16 _ _ rfl w.heap.size rfl (nls O) (nls c) (congrArg Value.agg HA.out) (by rw [nls_length]; exact HCL.out) (by kernel_rfl) HB3.out ?_; intro w2 hB2 hg2; have HB4 := Lib.hid hB2; have HG2 := Lib.hid hg2; clear hB2 hg2))
            refine ret_cell_tmp (s := 2) (b := 3) (ad := ⟨w.heap.size, 0, none⟩) (x := .agg (ints (nls c)).toArray) (y := .int .i64 1) rfl rfl rfl rfl (HB4.out.load _ Tryz.underlying133 rfl (by kernel_rfl)) ?_
            refine ⟨c, HCL.out, by rw [HE2.out]; rfl, fun h0 => (by rw [HE2.out] at h0; cases h0), ?_⟩
            exact HBL.out.grown HG2.out (by omega) (fun k hk => by cases hk; exact Nat.le_refl _)
      · obtain rfl : k = l.length := by omega
        have HE := Lib.hid (wrongI_ok hbig HALL.out)
        have hcn := HCN.out
        rw [List.take_length] at hcn
        have HCE := Lib.hid (cnts_end HCL.out hcn)
        clear hcn
        obtain ⟨A, hgA, hsA, hA⟩ := HB2.out.open
        have HA := Lib.hid (congrArg List.toArray hA)
        clear hA
        go_wp2_with (first | (refine load_box rfl 133 16 _ rfl (w.heap.size + 1) rfl A hsA hgA _ Tryz.underlying133 rfl (by kernel_rfl) ?_) | (refine store_box rfl 133 16 _ _ rfl w.heap.size rfl (nls O) (nls c) (congrArg Value.agg HA.out) (by rw [nls_length]; exact HCL.out) (by kernel_rfl) HB3.out ?_; intro w2 hB2 hg2; have HB4 := Lib.hid hB2; have HG2 := Lib.hid hg2; clear hB2 hg2))
        refine ret_cell_tmp (s := 2) (b := 3) (ad := ⟨w.heap.size, 0, none⟩) (x := .agg (ints (nls c)).toArray) (y := .int .i64 0) rfl rfl rfl rfl (HB4.out.load _ Tryz.underlying133 rfl (by kernel_rfl)) ?_
        refine ⟨c, HCL.out, by rw [HE.out]; rfl, fun _ => HCE.out, ?_⟩
        exact HBL.out.grown HG2.out (by omega) (fun k hk => by cases hk; exact Nat.le_refl _)
theorem totN_step_le (L : List Nat) (hl : L.length ≤ 320) (k : Nat) (hk : k < 15) : totN L k + L.count (k + 1) * 2 ^ (14 - k) ≤ 10485760 := by
  have := totN_le L (k + 1) (by omega)
  have h2 : L.length * 32768 ≤ 320 * 32768 := Nat.mul_le_mul_right _ hl
  exact Nat.le_trans this h2
set_option maxRecDepth 100000 in
theorem totalP (L : List Nat) (hl : L.length ≤ 320) (w : World) : Calls Tryz.prog 89 #[.agg (ints (nls (cntsN L))).toArray] w fun e w' => e = .returned (.int .i64 (totN L 15 : Nat)) ∧ ∃ x, w' = ext w x := by
  have hlc : (nls (cntsN L)).length = 16 := by simp [nls, cntsN]
  have hb := boxA_new w 133 (ints (nls (cntsN L))).toArray (nls (cntsN L)) rfl (by omega)
  rw [hlc] at hb
  have HGT : Hid (∀ n, n < 16 → (nls (cntsN L)).getD n 0 = (L.count n : Nat)) := Lib.hid (fun n hn => by rw [nls_getD, cntsN_getD L n hn])
  obtain ⟨C, hC⟩ : ∃ C, C = nls (cntsN L) := ⟨_, rfl⟩
  rw [← hC] at hb HGT ⊢
  clear hC hlc
  have HB := Lib.hid hb
  clear hb
  go_enter Tryz.func89, Tryz.ntmps89
  go_wp2
  go_loop [3, 5] (fun n i => ∃ k : Nat, k ≤ 15 ∧ i = .int .i64 k ∧ n = .int .i64 (totN L k : Nat)) (fun _ i => 15 - (intOf i).toNat)
  case atStart => exact ⟨0, Nat.zero_le _, rfl, rfl⟩
  case round =>
    obtain ⟨k, hk, rfl, rfl⟩ := hrel
    by_cases hlt : k < 15
    · have hcell := HB.out.cell (c := k + 1) (by omega)
      rw [HGT.out (k + 1) (by omega)] at hcell
      have hlt2 := HB.out.lt
      have hst := totN_step_le L hl k hlt
      have HS : Hid (totN L (k + 1) = totN L k + L.count (k + 1) * 2 ^ (14 - k)) := Lib.hid rfl
      have hcb := List.count_le_length (a := k + 1) (l := L)
      have e1 : (15 : Int) - (k : Int) - 1 = ((14 - k : Nat) : Int) := by omega
      have hk2 : 14 - k ≤ 14 := by omega
      generalize hm : 14 - k = m at *
      have HST := Lib.hid hst
      generalize totN L k = s at *
      generalize L.count (k + 1) = c at *
      have HPW : Hid (2 ^ m ≤ 16384) := Lib.hid (Nat.le_trans (Nat.pow_le_pow_right (by decide) hk2) (by decide))
      clear hst
      have hs1 : s ≤ 10485760 := by have := HST.out; omega
      have hn0 : (0 : Int) ≤ (k : Int) + 1 := by omega
      go_wp2
      go_round
      case rel =>
        refine ⟨k + 1, by omega, by go_num, ?_⟩
        have h1 := HST.out
        have h2 : ((c : Int) * (2 : Int) ^ m) = ((c * 2 ^ m : Nat) : Int) := by norm_cast
        rw [HS.out, h2]
        generalize c * 2 ^ m = q at *
        rw [IntWalk.wrap64_in (q : Int) ⟨by omega, by omega⟩, IntWalk.wrap64_in _ ⟨by omega, by omega⟩]
        norm_cast
      case measure => simp [intOf]; omega
    · obtain rfl : k = 15 := by omega
      go_wp2
      go_ret
      exact ⟨rfl, (ex_ext (by repeat (first | exact Below.refl _ _ | assumption | refine b_drewN ?_ _ | refine Below.drew ?_ | refine b_ext' ?_ _ | refine b_alloc' ?_ _)))⟩
/-- the first codes up to length k -/
def nextN (L : List Nat) (k : Nat) : List Nat := (List.range 16).map fun j => if j ≤ k then firstN L j else 0
theorem nextN_getD (L : List Nat) (k j : Nat) (h : j < 16) : (nextN L k).getD j 0 = if j ≤ k then firstN L j else 0 := by simp [nextN, List.getD, h]
theorem nextN_zero (L : List Nat) : nextN L 0 = List.replicate 16 0 := by
  rw [List.eq_replicate_iff]
  refine ⟨by simp [nextN], fun x hx => ?_⟩
  obtain ⟨q, -, rfl⟩ := List.mem_map.1 hx
  split
  · rename_i h; rw [show q = 0 by omega]; rfl
  · rfl
theorem nextN_one (L : List Nat) : nextN L 1 = nextN L 0 := by
  unfold nextN
  refine List.map_congr_left fun j _ => ?_
  by_cases h : j ≤ 0
  · rw [if_pos h, if_pos (by omega)]
  · rw [if_neg h]
    split
    · rw [show j = 1 by omega]; rfl
    · rfl
theorem nextN_set (L : List Nat) (k : Nat) (hk : 1 ≤ k) : (nextN L k).set (k + 1) (2 * (firstN L k + L.count k)) = nextN L (k + 1) := by
  refine List.ext_getElem (by simp [nextN]) fun j h1 h2 => ?_
  rw [List.getElem_set]
  simp only [nextN, List.getElem_map, List.getElem_range]
  by_cases h : k + 1 = j
  · subst h
    rw [if_pos rfl, if_pos (Nat.le_refl _), first_succ L k hk]
  · rw [if_neg h]
    by_cases h2 : j ≤ k
    · rw [if_pos h2, if_pos (by omega)]
    · rw [if_neg h2, if_neg (by omega)]
/-- the next code of each length, behind i symbols -/
def nxtN (L : List Nat) (i : Nat) : List Nat := (List.range 16).map fun j => if j = 0 then 0 else firstN L j + (L.take i).count j
theorem nxtN_zero (L : List Nat) : nextN L 15 = nxtN L 0 := by
  unfold nextN nxtN
  refine List.map_congr_left fun j hj => ?_
  have := List.mem_range.1 hj
  rw [if_pos (by omega), List.take_zero, List.count_nil, Nat.add_zero]
  split
  · rename_i h; subst h; rfl
  · rfl
theorem nxtN_getD (L : List Nat) (i j : Nat) (h : j < 16) (h0 : 0 < j) : (nxtN L i).getD j 0 = firstN L j + (L.take i).count j := by
  simp [nxtN, List.getD, h]; omega
theorem nxtN_skip (L : List Nat) (i : Nat) (hi : i < L.length) (h : L.getD i 0 = 0) : nxtN L (i + 1) = nxtN L i := by
  unfold nxtN
  refine List.map_congr_left fun j _ => ?_
  split
  · rfl
  · rw [count_take_succ L i j hi, if_neg (by omega), Nat.add_zero]
theorem nxtN_set (L : List Nat) (i : Nat) (hi : i < L.length) (h : 0 < L.getD i 0) : (nxtN L i).set (L.getD i 0) (firstN L (L.getD i 0) + (L.take i).count (L.getD i 0) + 1) = nxtN L (i + 1) := by
  refine List.ext_getElem (by simp [nxtN]) fun j h1 h2 => ?_
  rw [List.getElem_set]
  simp only [nxtN, List.getElem_map, List.getElem_range]
  by_cases he : L.getD i 0 = j
  · subst he
    rw [if_pos rfl, if_neg (by omega), count_take_succ L i _ hi, if_pos rfl, Nat.add_assoc]
  · rw [if_neg he]
    split
    · rfl
    · rw [count_take_succ L i j hi, if_neg he, Nat.add_zero]
/-- the codes of the symbols below i -/
def outN (L : List Nat) (i : Nat) : List Nat := (List.range L.length).map fun q => if q < i then codeN L q else 0
theorem outN_length (L : List Nat) (i : Nat) : (outN L i).length = L.length := by simp [outN]
theorem outN_zero (L : List Nat) : outN L 0 = List.replicate L.length 0 := by
  rw [List.eq_replicate_iff]
  refine ⟨by simp [outN], fun x hx => ?_⟩
  obtain ⟨q, -, rfl⟩ := List.mem_map.1 hx
  rw [if_neg (by omega)]
theorem outN_all (L : List Nat) : outN L L.length = codesN L := by
  unfold outN codesN
  refine List.map_congr_left fun q hq => ?_
  rw [if_pos (List.mem_range.1 hq)]
theorem outN_set (L : List Nat) (i : Nat) : (outN L i).set i (codeN L i) = outN L (i + 1) := by
  refine List.ext_getElem (by simp [outN]) fun q h1 h2 => ?_
  rw [List.getElem_set]
  simp only [outN, List.getElem_map, List.getElem_range]
  by_cases he : i = q
  · subst he; rw [if_pos rfl, if_pos (by omega)]
  · rw [if_neg he]
    by_cases h3 : q < i
    · rw [if_pos h3, if_pos (by omega)]
    · rw [if_neg h3, if_neg (by omega)]
theorem outN_skip (L : List Nat) (i : Nat) (h : L.getD i 0 = 0) : outN L (i + 1) = outN L i := by
  unfold outN
  refine List.map_congr_left fun q _ => ?_
  by_cases he : q = i
  · subst he; rw [if_pos (by omega), if_neg (by omega)]; unfold codeN; rw [if_pos h]
  · by_cases h3 : q < i
    · rw [if_pos h3, if_pos (by omega)]
    · rw [if_neg h3, if_neg (by omega)]
theorem code_pos (L : List Nat) (i : Nat) (h : 0 < L.getD i 0) : codeN L i = firstN L (L.getD i 0) + (L.take i).count (L.getD i 0) := by
  unfold codeN rankN; rw [if_neg (by omega)]
set_option maxRecDepth 100000 in
set_option maxHeartbeats 1000000 in
theorem codesP (v : Value) (l : List Int) (w : World) (h : IntsAt w v l) : Calls Tryz.prog 63 #[v] w (RetCodes l w) := by
  have HWR : Hid (∀ w', Below w.heap.size w w' → Calls Tryz.prog 88 #[v] w' (RetCounts l w')) := Lib.hid (fun w' hb => countsP v l w' (h.up hb))
  have hz := zero_16
  obtain ⟨Z, hZ⟩ : ∃ Z, Z = z16 := ⟨_, rfl⟩
  rw [← hZ] at hz
  have HZ := Lib.hid hZ
  clear hZ
  by_cases hw0 : wrongI l = 0
  · obtain ⟨hlen, hall⟩ := wrongI_zero hw0
    obtain ⟨L, rfl, h15⟩ := nls_of hall
    rw [nls_length] at hlen
    have he := errI_nls hlen h15
    have HTP := Lib.hid (totalP L hlen)
    have HTA := Lib.hid (totN_all L h15)
    have HCE : Hid (∀ c : List Nat, c.length = 16 → c = cntsN L → ∀ n, n < 16 → (nls c).getD n 0 = (L.count n : Nat)) := Lib.hid (fun c _ hc n hn => by rw [hc, nls_getD, cntsN_getD L n hn])
    unfold RetCounts at HWR
    rw [hw0] at HWR
    obtain ⟨oa, cap, b, off, rfl, hd, hc⟩ := h.open
    rw [nls_length] at hd hc
    unfold RetCodes
    rw [nls_length] at HWR ⊢
    rw [nls_toNat] at HWR ⊢
    have hix := index_any (P := Tryz.prog) 35 3 Tryz.underlying35 (by kernel_rfl) hd
    have hm := hd.len
    have hbk := hd.hblk
    have HC := Lib.hid hc; clear hc h hd hw0 hall
    rw [HTA.out] at HTP
    by_cases hk : 32768 < kraftN L
    · rw [if_pos hk] at he
      have hk2 : (kraftN L : Int) > 32768 := by omega
      clear HTA
      generalize kraftN L = K at *
      go_enter Tryz.func63, Tryz.ntmps63
      go_wp2_with (first | (go_at_call 88; refine (HWR.out _ (by repeat (first | exact Below.refl _ _ | assumption | refine b_drewN ?_ _ | refine Below.drew ?_ | refine b_ext' ?_ _ | refine b_alloc' ?_ _))).mono ?_; rintro e w1 ⟨c, hc1, rfl, hc2, hc3⟩; have HC1 := Lib.hid hc1; have HC2 := Lib.hid hc2; have HC3 := Lib.hid hc3; clear hc1 hc2 hc3) | (refine store_box rfl 133 16 _ _ rfl w1.heap.size rfl (nls (List.replicate 16 0)) (nls c) rfl (by rw [nls_length]; exact HC1.out) (by kernel_rfl) (box16 w1 Z HZ.out) ?_; intro w2 hb2 hg2; (obtain ⟨A, hgA, hsA, hA⟩ := hb2.open; have HAE := Lib.hid (congrArg List.toArray hA); have HB2 := Lib.hid hb2; have HG2 := Lib.hid hg2; have HT2 := Lib.hid (HTP.out); rw [← HC2.out (by trivial), ← HAE.out] at HT2; clear hb2 hg2 hA)) | (refine load_box rfl 133 16 _ rfl w1.heap.size rfl A hsA hgA _ Tryz.underlying133 rfl (by kernel_rfl) ?_) | (go_at_call 89; refine (HT2.out _).mono ?_; rintro e w3 ⟨rfl, y, rfl⟩))
      go_ret2
      have hb2 : Below w.heap.size w w2 := (HC3.out.trans ((below_alloc w1 _).mono HC3.out.size)).grown HG2.out (Nat.le_trans HC3.out.size (by simp)) (fun k hk => by cases hk; exact HC3.out.size)
      exact ⟨.slice none 0 0, rfl, Own.nil _ _ _, (by repeat (first | exact Below.refl _ _ | assumption | refine b_drewN ?_ _ | refine Below.drew ?_ | refine b_ext' ?_ _ | refine b_alloc' ?_ _))⟩
    · rw [if_neg hk] at he
      have hk2 : ¬ (kraftN L : Int) > 32768 := by omega
      have HK : Hid (kraftN L ≤ 32768) := Lib.hid (by omega)
      have HFU := Lib.hid (full_le h15 HK.out)
      have HFL := Lib.hid (first_le h15 HK.out)
      have H15 : Hid (∀ i, i < L.length → L.getD i 0 ≤ 15) := Lib.hid (fun i hi => h15 _ (getD_mem L i 0 hi))
      rw [he]
      clear h15 he HTA
      generalize kraftN L = K at *
      have hmk := run_mk (P := Tryz.prog) 35 3 (.int .i64 0) 8 L.length Tryz.underlying35 (by kernel_rfl) rfl (by decide) (by omega)
      go_enter Tryz.func63, Tryz.ntmps63
      go_wp2_with (first | (go_at_call 88; refine (HWR.out _ (by repeat (first | exact Below.refl _ _ | assumption | refine b_drewN ?_ _ | refine Below.drew ?_ | refine b_ext' ?_ _ | refine b_alloc' ?_ _))).mono ?_; rintro e w1 ⟨c, hc1, rfl, hc2, hc3⟩; have HC1 := Lib.hid hc1; have HC2 := Lib.hid hc2; have HC3 := Lib.hid hc3; clear hc1 hc2 hc3) | (refine store_box rfl 133 16 _ _ rfl w1.heap.size rfl (nls (List.replicate 16 0)) (nls c) rfl (by rw [nls_length]; exact HC1.out) (by kernel_rfl) (box16 w1 Z HZ.out) ?_; intro w2 hb2 hg2; (obtain ⟨A, hgA, hsA, hA⟩ := hb2.open; have HAE := Lib.hid (congrArg List.toArray hA); have HB2 := Lib.hid hb2; have HG2 := Lib.hid hg2; have HT2 := Lib.hid (HTP.out); rw [← HC2.out (by trivial), ← HAE.out] at HT2; clear hb2 hg2 hA)) | (refine load_box rfl 133 16 _ rfl w1.heap.size rfl A hsA hgA _ Tryz.underlying133 rfl (by kernel_rfl) ?_) | (go_at_call 89; refine (HT2.out _).mono ?_; rintro e w3 ⟨rfl, y, rfl⟩))
      have hb2 : Below w.heap.size w w2 := (HC3.out.trans ((below_alloc w1 _).mono HC3.out.size)).grown HG2.out (Nat.le_trans HC3.out.size (by simp)) (fun k hk => by cases hk; exact HC3.out.size)
      have hb3 : Below w.heap.size w ((ext w2 y).alloc (.cells Z 133)) := (by repeat (first | exact Below.refl _ _ | assumption | refine b_drewN ?_ _ | refine Below.drew ?_ | refine b_ext' ?_ _ | refine b_alloc' ?_ _))
      have hn0 := box16 (ext w2 y) Z HZ.out
      rw [← nextN_zero L] at hn0
      have hc0 := (HB2.out.up (ext_below w2 y)).up (below_alloc (ext w2 y) (.cells Z 133))
      have hgc : w.heap.size ≤ w1.heap.size := HC3.out.size
      have hgn : w.heap.size ≤ (ext w2 y).heap.size := Nat.le_trans hb2.size (size_ext _ _)
      have hne : w1.heap.size ≠ (ext w2 y).heap.size := by have := HB2.out.lt; have := size_ext w2 y; omega
      have HN := Lib.hid hn0
      have HCC := Lib.hid hc0
      have HBL := Lib.hid hb3
      have HCE2 := Lib.hid (HCE.out c HC1.out (HC2.out (by trivial)))
      clear hb2 hb3 hn0 hc0 HB2 HG2 HC3 HT2 HAE hgA hsA HWR HTP HC1 HC2
      generalize (ext w2 y).alloc (.cells Z 133) = w4 at *
      generalize (ext w2 y).heap.size = gn at *
      generalize w1.heap.size = gc at *
      generalize nls c = C at *
      go_loopg [24] 15 (fun gk i wr => ∃ k : Nat, k ≤ 15 ∧ i = .int .i64 k ∧ BoxA wr 133 16 gn (nls (nextN L k)) ∧ BoxA wr 133 16 gc C ∧ Below w.heap.size w wr ∧ gk = 15 - k)
      case atStart => exact ⟨0, Nat.zero_le _, rfl, HN.out, HCC.out, HBL.out, rfl⟩
      case round =>
        clear HN HCC HBL
        obtain ⟨k, hk, rfl, hn0, hc0, hb0, rfl⟩ := hrel
        have HN := Lib.hid hn0
        have HCC := Lib.hid hc0
        have HBL := Lib.hid hb0
        have hszb := hb0.size
        clear hn0 hc0 hb0
        by_cases hlt : k < 15
        · by_cases h1 : 1 ≤ k
          · have hkp : (k : Int) > 0 := by omega
            have hcn := HN.out.cell (c := k) (by omega)
            rw [nls_getD, nextN_getD L k k (by omega), if_pos (Nat.le_refl _)] at hcn
            have hcc := HCC.out.cell (c := k) (by omega)
            rw [HCE2.out k (by omega)] at hcc
            have hfn := HN.out.free (k + 1)
            have hcn2 := HN.out.cell (c := k + 1) (by omega)
            generalize (nls (nextN L k)).getD (k + 1) 0 = z at *
            have hln := HN.out.lt
            have hlc := HCC.out.lt
            have HSET := Lib.hid (nextN_set L k h1)
            have hful : firstN L k + L.count k ≤ 32768 := Nat.le_trans (HFU.out k h1 (by omega)) (Nat.le_trans (Nat.pow_le_pow_right (by decide) (show k ≤ 15 by omega)) (by decide))
            have hst := HN.out.set (k + 1) (2 * (firstN L k + L.count k) : Nat)
            rw [nls_set, HSET.out] at hst
            have HST := Lib.hid hst
            clear hst
            generalize firstN L k = f at *
            generalize L.count k = m at *
            have e2 : ((2 * (f + m) : Nat) : Int) = ((f : Int) + (m : Int)) * 2 := by omega
            rw [e2] at HST
            clear e2
            go_wp2
            refine wp_region_tailg [0,1,2,3,4,5,6,7,8,9,10] [] [11] (by kernel_rfl) (by kernel_rfl) ?_
            simp only [pick, List.map_cons, List.map_nil, List.getD_cons_zero, List.getD_cons_succ]
            repeat (go_big_quiet_step (fail))
            refine wpQuiet_nil ?_
            unfold wpAct
            unfold wpAct
            go_wp2
            refine ⟨trivial, ?_⟩
            unfold wpAct
            go_wp2
            go_roundg (15 - (k + 1))
            case measure => omega
            case rel =>
              refine ⟨k + 1, by omega, by go_num, ?_, ?_, ?_, rfl⟩
              · have h5 := HST.out.1.up (below_drewN _ 1)
                rw [← World.drew_is_drewN] at h5
                exact h5
              · have h5 := (HCC.out.keep HST.out.2 (by simp; omega)).up (below_drewN _ 1)
                rw [← World.drew_is_drewN] at h5
                exact h5
              · have h5 := (HBL.out.grown HST.out.2 (by omega) (fun k hk => by cases hk; exact hgn)).trans ((below_drewN _ 1).mono (by have := HST.out.2.size; omega))
                rw [← World.drew_is_drewN] at h5
                exact h5
          · obtain rfl : k = 0 := by omega
            have HN1 := Lib.hid (nextN_one L)
            go_wp2
            go_roundg (15 - 1)
            case measure => omega
            case rel =>
              refine ⟨1, by omega, by go_num, ?_, HCC.out, HBL.out, rfl⟩
              rw [HN1.out]; exact HN.out
        · obtain rfl : k = 15 := by omega
          rw [nxtN_zero] at HN
          have hgw := HN.out.lt
          have hown := own_made wr w.heap.size 3 (.int .i64 0) L.length HBL.out.size (by omega)
          have e : ints (nls (outN L 0)) = List.replicate L.length (Value.int .i64 0) := by rw [outN_zero]; simp [ints, nls]
          rw [← e] at hown
          have HO := Lib.hid hown
          have HN5 := Lib.hid (HN.out.up (below_alloc wr (.cells (madeCells #[Value.int .i64 0] L.length) 3)))
          have HBL5 := Lib.hid (HBL.out.alloc HBL.out.size (.cells (madeCells #[Value.int .i64 0] L.length) 3))
          have hnew : gn ≠ wr.heap.size := by omega
          clear hown e hgw HN HCC HBL
          go_wp2
          generalize wr.alloc (.cells (madeCells #[Value.int .i64 0] L.length) 3) = w5 at *
          generalize wr.heap.size = g8 at *
          go_loopg [46] L.length (fun gk i wr => ∃ k : Nat, k ≤ L.length ∧ i = .int .i64 k ∧ BoxA wr 133 16 gn (nls (nxtN L k)) ∧ Own wr w.heap.size 3 (.slice (some ⟨g8, 0, none⟩) L.length L.length) (ints (nls (outN L k))) ∧ Below w.heap.size w wr ∧ gk = L.length - k)
          case atStart => exact ⟨0, Nat.zero_le _, rfl, HN5.out, HO.out, HBL5.out, rfl⟩
          case round =>
            clear HN5 HO HBL5
            obtain ⟨i, hi, rfl, hn0, ho0, hb0, rfl⟩ := hrel
            have HN := Lib.hid hn0
            have HO := Lib.hid ho0
            have HBL := Lib.hid hb0
            have hszb := hb0.size
            clear hn0 ho0 hb0
            by_cases hlt : i < L.length
            · have hbb := hbk (by omega)
              have hcell := (HBL.out.cell (p := ⟨b, off + i, none⟩) hbb).trans (HC.out i hlt)
              rw [nls_getD] at hcell
              have hbb2 : b < wr.heap.size := by omega
              have hx15 := H15.out i hlt
              have HSK := Lib.hid (nxtN_skip L i hlt)
              have HOSK := Lib.hid (outN_skip L i)
              have HSET := Lib.hid (nxtN_set L i hlt)
              have HGD := Lib.hid (nxtN_getD L i (L.getD i 0) (by omega))
              have HCP := Lib.hid (code_pos L i)
              have HOS := Lib.hid (outN_set L i)
              have HFX := Lib.hid (fun h => HFU.out (L.getD i 0) h hx15)
              have HLE : Hid ((L.take i).count (L.getD i 0) ≤ L.count (L.getD i 0)) := Lib.hid (List.Sublist.count_le _ (List.take_sublist _ _))
              generalize L.getD i 0 = x at *
              by_cases hx0 : 0 < x
              · have hxp : (x : Int) > 0 := by omega
                have hcn := HN.out.cell (c := x) (by omega)
                rw [nls_getD, HGD.out hx0] at hcn
                have hfn := HN.out.free x
                have hln := HN.out.lt
                have h2x : 2 ^ x ≤ 32768 := Nat.le_trans (Nat.pow_le_pow_right (by decide) (show x ≤ 15 by omega)) (by decide)
                have hcb : firstN L x + (L.take i).count x ≤ 32768 := by have := HFX.out hx0; have := HLE.out; omega
                have hS := HSET.out hx0
                have hO := HOS.out
                rw [HCP.out hx0] at hO
                generalize firstN L x + (L.take i).count x = c at *
                have hoc := HO.out.cell (i := i) (by rw [ints_length, nls_length, outN_length]; exact hlt)
                rw [ints_getD _ _ (by rw [nls_length, outN_length]; exact hlt)] at hoc
                have hof := HO.out.free i
                have hob := HO.out.blk
                generalize (nls (outN L i)).getD i 0 = z at *
                have hst1 := HO.out.store i (.int .i64 (c : Nat))
                rw [ints_set', nls_set, hO] at hst1
                have hn1 := HN.out.keep hst1.2 (by simp; omega)
                have hst2 := hn1.set x ((c + 1 : Nat) : Int)
                rw [nls_set, hS] at hst2
                have HST1 := Lib.hid hst1
                have HST2 := Lib.hid hst2
                have hi2 : i < 4294967296 := by omega
                clear hS hO hst1 hst2 hn1 h2x
                go_wp2
                go_roundg (L.length - (i + 1))
                case measure => omega
                case rel =>
                  refine ⟨i + 1, by omega, by go_num, HST2.out.1, HST1.out.1.keep HST2.out.2 (.inr (by simp [Value.ownBlock]; omega)), ?_, rfl⟩
                  have h5 := HBL.out.grown HST1.out.2 (by omega) (fun k hk => by cases hk; exact hob.1)
                  exact h5.grown HST2.out.2 h5.size (fun k hk => by cases hk; exact hgn)
              · obtain rfl : x = 0 := by omega
                go_wp2
                go_roundg (L.length - (i + 1))
                case measure => omega
                case rel =>
                  refine ⟨i + 1, by omega, by go_num, ?_, ?_, HBL.out, rfl⟩
                  · rw [HSK.out (by trivial)]; exact HN.out
                  · rw [HOSK.out (by trivial)]; exact HO.out
            · obtain rfl : i = L.length := by omega
              have HOA := Lib.hid (outN_all L)
              go_wp2
              go_ret2
              refine ⟨.slice (some ⟨g8, 0, none⟩) L.length L.length, rfl, ?_, HBL.out⟩
              rw [← HOA.out]
              exact HO.out
  · have he := errI_of_wrong hw0
    have hne : ¬ (wrongI l : Int) = 0 := by omega
    have hne2 : ¬ errI l = 0 := by omega
    unfold RetCodes
    rw [if_neg hne2, he]
    clear h he hne2
    unfold RetCounts at HWR
    generalize wrongI l = n at *
    go_enter Tryz.func63, Tryz.ntmps63
    go_wp2_with (first | (go_at_call 88; refine (HWR.out _ (by repeat (first | exact Below.refl _ _ | assumption | refine b_drewN ?_ _ | refine Below.drew ?_ | refine b_ext' ?_ _ | refine b_alloc' ?_ _))).mono ?_; rintro e w1 ⟨c, hc1, rfl, hc2, hc3⟩; have HC1 := Lib.hid hc1; have HC2 := Lib.hid hc2; have HC3 := Lib.hid hc3; clear hc1 hc2 hc3) | (refine store_box rfl 133 16 _ _ rfl w1.heap.size rfl (nls (List.replicate 16 0)) (nls c) rfl (by rw [nls_length]; exact HC1.out) (by kernel_rfl) (box16 w1 Z HZ.out) ?_; intro w2 hb2 hg2; have HB2 := Lib.hid hb2; have HG2 := Lib.hid hg2; clear hb2 hg2))
    go_ret2
    exact ⟨.slice none 0 0, rfl, Own.nil _ _ _, (HC3.out.trans ((below_alloc w1 _).mono HC3.out.size)).grown HG2.out (Nat.le_trans HC3.out.size (by simp)) (fun k hk => by cases hk; exact HC3.out.size)⟩
end Go.Cm

/- The walks of the functions that turn bits. Conditions: none. -/
namespace Go.Cm
open Go.RowKit Go.Proofs

theorem many (n : Int) (w : World) : Calls Tryz.prog 100 #[.int .i64 n] w fun e w' => e = .returned (.bool (decide (0 ≤ n ∧ n ≤ 32))) ∧ w' = w := by
  by_cases h1 : 0 ≤ n
  · by_cases h2 : n ≤ 32
    · go_enter Tryz.func100, Tryz.ntmps100
      go_wp2
      go_ret
      exact ⟨by simp [h1, h2], rfl⟩
    · go_enter Tryz.func100, Tryz.ntmps100
      go_wp2
      go_ret
      exact ⟨by simp [h2], rfl⟩
  · go_enter Tryz.func100, Tryz.ntmps100
    go_wp2
    go_ret
    exact ⟨by simp; omega, rfl⟩
theorem u32_bits (a b : Nat) (ha : a < 4294967296) (hb : b < 4294967296) : bits .and .u32 a b = ((a &&& b : Nat) : Int) ∧ bits .or .u32 a b = ((a ||| b : Nat) : Int) :=
  bits_nat .u32 32 (by decide) (fun n h0 h1 => by rw [IntKind.wrap_u32]; omega) a b ha hb
theorem step_val (x m s p : Nat) (hx : x < 4294967296) (hm : m < 4294967296) (hp : p = 2 ^ s) : bits .or .u32 (bits .and .u32 ((x : Int) / (p : Int)) (m : Int)) (bits .and .u32 (x : Int) (m : Int) * (p : Int) % 4294967296) = ((step1 m s x : Nat) : Int) := by
  have e1 : (x : Int) / (p : Int) = ((x / p : Nat) : Int) := (Int.natCast_ediv x p).symm
  have h1 : x / p < 4294967296 := Nat.lt_of_le_of_lt (Nat.div_le_self _ _) hx
  have h2 : x &&& m < 4294967296 := Nat.and_lt_two_pow (n := 32) _ hm
  have e2 : ((x &&& m : Nat) : Int) * (p : Int) % 4294967296 = (((x &&& m) * p % 4294967296 : Nat) : Int) := by rw [Int.natCast_emod, Int.natCast_mul]; rfl
  rw [e1, (u32_bits _ _ h1 hm).1, (u32_bits _ _ hx hm).1, e2, (u32_bits _ _ (Nat.and_lt_two_pow (n := 32) _ hm) (Nat.mod_lt _ (by decide))).2]
  unfold step1
  rw [Nat.shiftRight_eq_div_pow, Nat.shiftLeft_eq, hp]
theorem step1_lt (m s x : Nat) (hm : m < 4294967296) : step1 m s x < 4294967296 := by
  unfold step1
  exact Nat.or_lt_two_pow (n := 32) (Nat.and_lt_two_pow (n := 32) _ hm) (Nat.mod_lt _ (by decide))
def revB (x : Nat) : Nat := (step1 16711935 8 x >>> 16) ||| ((step1 16711935 8 x <<< 16) % 4294967296)
theorem halves_val (e : Nat) (he : e < 4294967296) : bits .or .u32 ((e : Int) / 65536) ((e : Int) * 65536 % 4294967296) = (((e >>> 16) ||| ((e <<< 16) % 4294967296) : Nat) : Int) := by
  have e1 : (e : Int) / 65536 = ((e / 65536 : Nat) : Int) := (Int.natCast_ediv e 65536).symm
  have e2 : (e : Int) * 65536 % 4294967296 = ((e * 65536 % 4294967296 : Nat) : Int) := by rw [Int.natCast_emod, Int.natCast_mul]; rfl
  rw [e1, e2, (u32_bits _ _ (by omega) (Nat.mod_lt _ (by decide))).2, Nat.shiftRight_eq_div_pow, Nat.shiftLeft_eq]
theorem revBytes (x : Nat) (hx : x < 4294967296) (w : World) : Calls Tryz.prog 105 #[.int .u32 x] w fun e w' => e = .returned (.int .u32 (revB x : Nat)) ∧ w' = w := by
  have h1 : bits .or .u32 (bits .and .u32 ((x : Int) / 256) 16711935) (bits .and .u32 (x : Int) 16711935 * 256 % 4294967296) = ((step1 16711935 8 x : Nat) : Int) := step_val x 16711935 8 256 hx (by decide) (by decide)
  have h2 := halves_val (step1 16711935 8 x) (step1_lt _ _ _ (by decide))
  have HR : Hid (revB x = (step1 16711935 8 x >>> 16) ||| ((step1 16711935 8 x <<< 16) % 4294967296)) := Lib.hid rfl
  rw [← HR.out] at h2
  generalize revB x = y at *
  have hl := step1_lt 16711935 8 x (by decide)
  generalize step1 16711935 8 x = e at *
  go_enter Tryz.func105, Tryz.ntmps105
  go_wp2
  go_ret
  exact ⟨rfl, rfl⟩
theorem rev (x : Nat) (hx : x < 4294967296) (w : World) : Calls Tryz.prog 101 #[.int .u32 x] w fun e w' => e = .returned (.int .u32 (rev32 x : Nat)) ∧ w' = w := by
  have h1 : bits .or .u32 (bits .and .u32 ((x : Int) / 2) 1431655765) (bits .and .u32 (x : Int) 1431655765 * 2 % 4294967296) = ((step1 1431655765 1 x : Nat) : Int) := step_val x 1431655765 1 2 hx (by decide) (by decide)
  have HR : Hid (revB (step1 252645135 4 (step1 858993459 2 (step1 1431655765 1 x))) = rev32 x) := Lib.hid rfl
  have l1 := step1_lt 1431655765 1 x (by decide)
  generalize step1 1431655765 1 x = a at *
  have h2 : bits .or .u32 (bits .and .u32 ((a : Int) / 4) 858993459) (bits .and .u32 (a : Int) 858993459 * 4 % 4294967296) = ((step1 858993459 2 a : Nat) : Int) := step_val a 858993459 2 4 l1 (by decide) (by decide)
  have l2 := step1_lt 858993459 2 a (by decide)
  generalize step1 858993459 2 a = b at *
  have h3 : bits .or .u32 (bits .and .u32 ((b : Int) / 16) 252645135) (bits .and .u32 (b : Int) 252645135 * 16 % 4294967296) = ((step1 252645135 4 b : Nat) : Int) := step_val b 252645135 4 16 l2 (by decide) (by decide)
  have l3 := step1_lt 252645135 4 b (by decide)
  generalize step1 252645135 4 b = c at *
  go_enter Tryz.func101, Tryz.ntmps101
  go_wp2_with (go_at_call 105; refine (revBytes c l3 _).mono ?_; rintro e w' ⟨rfl, rfl⟩; rw [HR.out])
  go_ret
  exact ⟨rfl, rfl⟩
theorem turnP (v n : Nat) (hn : n ≤ 32) (w : World) : Calls Tryz.prog 90 #[.int .i64 v, .int .i64 n] w fun e w' => e = .returned (.int .i64 (turnN v n : Nat)) ∧ w' = w := by
  by_cases h0 : n = 0
  · subst h0
    have hz : ((0 : Nat) : Int) = 0 := rfl
    go_enter Tryz.func90, Tryz.ntmps90
    go_wp2_with (go_at_call 100; refine (many _ _).mono ?_; rintro e w' ⟨rfl, rfl⟩)
    go_ret
    exact ⟨rfl, rfl⟩
  · have hd : decide (0 ≤ (n : Int) ∧ (n : Int) ≤ 32) = true := by simp; omega
    have hn0 : ¬ (n : Int) = 0 := by omega
    have hp : 1 ≤ n := by omega
    have HT := Lib.hid (rev32_turn v n hn)
    obtain ⟨y, hy⟩ : ∃ y, y = v % 4294967296 := ⟨_, rfl⟩
    have hyl : y < 4294967296 := by rw [hy]; exact Nat.mod_lt _ (by decide)
    have hcv : (v : Int) % 4294967296 = (y : Int) := by rw [hy]; exact (Int.natCast_emod v 4294967296).symm
    rw [show (2 ^ 32 : Nat) = 4294967296 from rfl, ← hy] at HT
    clear hy
    go_enter Tryz.func90, Tryz.ntmps90
    go_wp2_with (first | (go_at_call 100; refine (many _ _).mono ?_; rintro e w' ⟨rfl, rfl⟩; rw [hd]) | (go_at_call 101; refine (rev y hyl _).mono ?_; rintro e w' ⟨rfl, rfl⟩; generalize rev32 y = r at *))
    go_ret
    have hT := HT.out
    have e1 : (r : Int) / ((2 ^ (32 - n) : Nat) : Int) = ((turnN v n : Nat) : Int) := by
      rw [← hT, Nat.shiftRight_eq_div_pow]; exact (Int.natCast_ediv _ _).symm
    have hlt := turnN_lt v n
    have h32 : 2 ^ n ≤ 2 ^ 32 := Nat.pow_le_pow_right (by decide) hn
    refine ⟨?_, rfl⟩
    have e2 : (r : Int) / 2 ^ (32 - n) = ((turnN v n : Nat) : Int) := by rw [← e1]; norm_cast
    show Ending.returned (Value.int .i64 (wrap64 ((r : Int) / 2 ^ (32 - n)))) = _
    rw [e2, IntWalk.wrap64_in _ ⟨by omega, by omega⟩]
end Go.Cm

/- A bit writer's state as a number and a length, and the block it lies in. Conditions: none. -/
namespace Go.Cm
open Go.RowKit Go.Proofs

theorem pow256 (i : Nat) : 256 ^ i = 2 ^ (8 * i) := by rw [Nat.pow_mul]
theorem or_add (a v n : Nat) (ha : a < 2 ^ n) : a ||| v * 2 ^ n = a + v * 2 ^ n := by
  have h := Nat.two_pow_add_eq_or_of_lt ha v
  rw [Nat.or_comm, Nat.mul_comm v, ← h, Nat.add_comm]
section
variable {w : World} {g : Nat} {vb : Value} {rest n : Nat}
end
/-- what a writer in block g with the row vb leaves alone, and what its row is then -/
def Fr (g : Nat) (vb vb' : Value) (w w' : World) : Prop := (∀ k, k < w.heap.size → k ≠ g → vb.ownBlock ≠ some k → w'.heap[k]? = w.heap[k]?) ∧ (∀ k, vb'.ownBlock = some k → vb.ownBlock = some k ∨ w.heap.size ≤ k) ∧ w.heap.size ≤ w'.heap.size
theorem Fr.refl (g : Nat) (vb : Value) (w : World) : Fr g vb vb w w := ⟨fun _ _ _ _ => rfl, fun _ h => .inl h, Nat.le_refl _⟩
theorem Fr.step {g : Nat} {vb vb' : Value} {w w1 w2 : World} {row : Option Nat} (h : Fr g vb vb' w w1) (hg : w1.grownBy w2 row) (hr : ∀ k, row = some k → k = g ∨ vb'.ownBlock = some k) : Fr g vb vb' w w2 := by
  refine ⟨fun k hk h1 h2 => ?_, h.2.1, Nat.le_trans h.2.2 hg.size⟩
  rw [hg.block k (Nat.lt_of_lt_of_le hk h.2.2) ?_, h.1 k hk h1 h2]
  intro e
  rcases hr k e.symm with q | q
  · exact h1 q
  · rcases h.2.1 k q with z | z
    · exact h2 z
    · omega
theorem Fr.below {g : Nat} {vb vb' : Value} {w w1 w2 : World} (h : Fr g vb vb' w w1) (hb : Below w1.heap.size w1 w2) : Fr g vb vb' w w2 := h.step (row := none) (grown_below hb none) (fun k e => by cases e)
theorem Fr.trans {g : Nat} {vb vb' vc : Value} {w w1 w2 : World} (h : Fr g vb vb' w w1) (k : Fr g vb' vc w1 w2) : Fr g vb vc w w2 := by
  refine ⟨fun q hq h1 h2 => ?_, fun q hq => ?_, Nat.le_trans h.2.2 k.2.2⟩
  · rw [k.1 q (Nat.lt_of_lt_of_le hq h.2.2) h1 ?_, h.1 q hq h1 h2]
    intro e
    rcases h.2.1 q e with z | z
    · exact h2 z
    · omega
  · rcases k.2.1 q hq with z | z
    · exact h.2.1 q z
    · exact .inr (Nat.le_trans h.2.2 z)
end Go.Cm

/- The walks of the writing of symbols, of the program and of the document. Conditions: the writer is there. -/
namespace Go.Cm
open Go.RowKit Go.Proofs

theorem errI_zero {l : List Int} (h : errI l = 0) : ∃ L, l = nls L ∧ L.length ≤ 320 ∧ (∀ x ∈ L, x ≤ 15) ∧ kraftN L ≤ 32768 := by
  have h0 : wrongI l = 0 := by
    apply Classical.byContradiction; intro hn
    have := errI_of_wrong hn; omega
  obtain ⟨h1, h2⟩ := wrongI_zero h0
  obtain ⟨L, rfl, h3⟩ := nls_of h2
  rw [nls_length] at h1
  refine ⟨L, rfl, h1, h3, ?_⟩
  rw [errI_nls h1 h3] at h
  split at h
  · cases h
  · omega
theorem codesN_length (L : List Nat) : (codesN L).length = L.length := by simp [codesN]
theorem codesN_getD (L : List Nat) (i : Nat) (h : i < L.length) : (codesN L).getD i 0 = codeN L i := by simp [codesN, List.getD, h]
end Go.Cm

/- The walks of the bit reader. Conditions: none. -/
namespace Go.Cm
open Go.RowKit Go.Proofs

/-- the reader in block g: the text s, the next bit's number -/
structure BoxS (w : World) (g : Nat) (s : ByteArray) (p : Nat) : Prop where
  own : Own w g 86 (.slice (some ⟨g, 0, none⟩) 3 3) [.bool true, .string s, .int .i64 p]
section
variable {w : World} {g : Nat} {s : ByteArray} {p : Nat}
theorem BoxS.up {w' : World} (h : BoxS w g s p) (hb : Below w.heap.size w w') : BoxS w' g s p := ⟨h.own.up hb⟩
theorem BoxS.lt (h : BoxS w g s p) : g < w.heap.size := (h.own.lt g rfl).2
theorem BoxS.c0 (h : BoxS w g s p) : w.cell? ⟨g, 0, none⟩ = some (.bool true) := h.own.cell (by simp)
theorem BoxS.c1 (h : BoxS w g s p) : w.cell? ⟨g, 1, none⟩ = some (.string s) := h.own.cell (by simp)
theorem BoxS.c2 (h : BoxS w g s p) : w.cell? ⟨g, 2, none⟩ = some (.int .i64 p) := h.own.cell (by simp)
theorem BoxS.free (h : BoxS w g s p) (c : Nat) : w.frozen? ⟨g, c, none⟩ = false := h.own.free c
theorem BoxS.set2 (h : BoxS w g s p) (r : Nat) : BoxS (w.setCell ⟨g, 2, none⟩ (.int .i64 r)) g s r ∧ w.grownBy (w.setCell ⟨g, 2, none⟩ (.int .i64 r)) (some g) := ⟨⟨(h.own.store 2 _).1⟩, (h.own.store 2 _).2⟩
end
theorem thereS {w : World} {g : Nat} {s : ByteArray} {p : Nat} (h : BoxS w g s p) : Calls Tryz.prog 39 #[.pointer (some ⟨g, 0, none⟩)] w fun e w' => e = .returned (.bool true) ∧ w' = w := by
  have h0 := h.c0
  have hg := h.lt
  go_enter Tryz.func39, Tryz.ntmps39
  go_wp2
  go_ret
  exact ⟨rfl, rfl⟩
theorem atS {w : World} {g : Nat} {s : ByteArray} {p : Nat} (h : BoxS w g s p) : Calls Tryz.prog 29 #[.pointer (some ⟨g, 0, none⟩)] w fun e w' => e = .returned (.int .i64 p) ∧ w' = w := by
  have HB := Lib.hid h
  have c2 := h.c2
  have hg := h.lt
  clear h
  go_enter Tryz.func29, Tryz.ntmps29
  go_wp2_with (go_at_call 39; refine (thereS HB.out).mono ?_; rintro e w' ⟨rfl, hw'⟩; rw [hw']; clear hw')
  go_ret
  exact ⟨rfl, rfl⟩
theorem newS (s : ByteArray) (p : Nat) (hs : s.size ≤ 4294967296) (hp : p ≤ 8 * s.size) (w : World) : Calls Tryz.prog 22 #[.string s, .int .i64 p] w fun e w' => ∃ g, e = .returned (.tuple #[.pointer (some ⟨g, 0, none⟩), .int .i64 0]) ∧ BoxS w' g s p ∧ w.heap.size ≤ g ∧ Below w.heap.size w w' := by
  have h1 : ¬ (p : Int) < 0 := by omega
  have h2 : ¬ (p : Int) > 8 * (s.size : Int) := by omega
  have ho := own_lit w w.heap.size #[Value.bool true, Value.string s, Value.int .i64 p] 86 (by simp) (Nat.le_refl _)
  have HO := Lib.hid ho
  clear ho
  go_enter Tryz.func22, Tryz.ntmps22
  go_wp2
  go_ret2
  exact ⟨w.heap.size, rfl, ⟨HO.out⟩, Nat.le_refl _, below_alloc _ _⟩
theorem leftS {w : World} {g : Nat} {s : ByteArray} {p : Nat} (h : BoxS w g s p) (hs : s.size ≤ 4294967296) (hp : p ≤ 8 * s.size) : Calls Tryz.prog 84 #[.pointer (some ⟨g, 0, none⟩)] w fun e w' => e = .returned (.int .i64 ((8 * s.size - p : Nat) : Int)) ∧ ∃ x, w' = ext w x := by
  have HB := Lib.hid h
  have c1 := h.c1
  have c2 := h.c2
  have hg := h.lt
  clear h
  have e : ((8 * s.size - p : Nat) : Int) = 8 * (s.size : Int) - (p : Int) := by omega
  go_enter Tryz.func84, Tryz.ntmps84
  go_wp2_with (go_at_call 39; refine (thereS HB.out).mono ?_; rintro e w' ⟨rfl, hw'⟩; rw [hw']; clear hw')
  go_quiet (fail)
  go_wp2
  go_ret
  refine ⟨?_, (ex_ext (by repeat (first | exact Below.refl _ _ | assumption | refine b_drewN ?_ _ | refine Below.drew ?_ | refine b_ext' ?_ _ | refine b_alloc' ?_ _)))⟩
  show Ending.returned (Value.int .i64 (8 * (s.size : Int) - (p : Int))) = _
  rw [e]
end Go.Cm

/- The walk of the bit reader's Skip. Conditions: the bits are there. -/
namespace Go.Cm
open Go.RowKit Go.Proofs

theorem skipS {w : World} {g : Nat} {s : ByteArray} {p : Nat} (h : BoxS w g s p) (hs : s.size ≤ 4294967296) (n : Nat) (hn : n ≤ 32) (hp : p + n ≤ 8 * s.size) : Calls Tryz.prog 93 #[.pointer (some ⟨g, 0, none⟩), .int .i64 n] w fun e w' => e = .returned (.int .i64 0) ∧ BoxS w' g s (p + n) ∧ w.grownBy w' (some g) := by
  have hd : decide (0 ≤ (n : Int) ∧ (n : Int) ≤ 32) = true := by simp; omega
  have HB := Lib.hid h
  have HL := Lib.hid (leftS h hs (by omega))
  have hl : ¬ (n : Int) > ((8 * s.size - p : Nat) : Int) := by omega
  obtain ⟨q, hq⟩ : ∃ q : Nat, q = 8 * s.size - p := ⟨_, rfl⟩
  rw [← hq] at HL hl
  clear hq h
  go_enter Tryz.func93, Tryz.ntmps93
  go_wp2_with (first | (go_at_call 39; refine (thereS HB.out).mono ?_; rintro e w' ⟨rfl, hw'⟩; rw [hw']; clear hw') | (go_at_call 100; refine (many _ _).mono ?_; rintro e w' ⟨rfl, hw'⟩; rw [hw', hd]; clear hw') | (go_at_call 84; refine HL.out.mono ?_; rintro e w' ⟨rfl, x, rfl⟩; have HB2 := Lib.hid (HB.out.up (ext_below w x)); have c2 := HB2.out.c2; have f2 := HB2.out.free 2; have hg := HB2.out.lt; have HST := Lib.hid (HB2.out.set2 (p + n))))
  go_ret
  have hst := HST.out
  rw [Int.natCast_add] at hst
  exact ⟨rfl, hst.1, grown_trans (grown_below (ext_below w _) _) hst.2⟩
end Go.Cm

/- The walks of the document's bit reader. Conditions: none. -/
namespace Go.Cm
open Go.RowKit Go.Proofs

/-- the document's reader in block g -/
structure BoxT (w : World) (g : Nat) (s : ByteArray) (p : Nat) : Prop where
  own : Own w g 58 (.slice (some ⟨g, 0, none⟩) 2 2) [.string s, .int .i64 p]
section
variable {w : World} {g : Nat} {s : ByteArray} {p : Nat}
theorem BoxT.up {w' : World} (h : BoxT w g s p) (hb : Below w.heap.size w w') : BoxT w' g s p := ⟨h.own.up hb⟩
theorem BoxT.lt (h : BoxT w g s p) : g < w.heap.size := (h.own.lt g rfl).2
theorem BoxT.c0 (h : BoxT w g s p) : w.cell? ⟨g, 0, none⟩ = some (.string s) := h.own.cell (by simp)
theorem BoxT.c1 (h : BoxT w g s p) : w.cell? ⟨g, 1, none⟩ = some (.int .i64 p) := h.own.cell (by simp)
theorem BoxT.free (h : BoxT w g s p) (c : Nat) : w.frozen? ⟨g, c, none⟩ = false := h.own.free c
theorem BoxT.set1 (h : BoxT w g s p) (r : Nat) : BoxT (w.setCell ⟨g, 1, none⟩ (.int .i64 r)) g s r ∧ w.grownBy (w.setCell ⟨g, 1, none⟩ (.int .i64 r)) (some g) := ⟨⟨(h.own.store 1 _).1⟩, (h.own.store 1 _).2⟩
end
theorem newT (s : ByteArray) (p : Nat) (hs : s.size ≤ 4294967296) (hp : p ≤ 8 * s.size) (w : World) : Calls Tryz.prog 18 #[.string s, .int .i64 p] w fun e w' => ∃ g, e = .returned (.tuple #[.pointer (some ⟨g, 0, none⟩), .int .i64 0]) ∧ BoxT w' g s p ∧ w.heap.size ≤ g ∧ Below w.heap.size w w' := by
  have h1 : ¬ (p : Int) < 0 := by omega
  have h2 : ¬ (p : Int) > 8 * (s.size : Int) := by omega
  have ho := own_lit w w.heap.size #[Value.string s, Value.int .i64 p] 58 (by simp) (Nat.le_refl _)
  have HO := Lib.hid ho
  clear ho
  go_enter Tryz.func18, Tryz.ntmps18
  go_wp2
  go_ret2
  exact ⟨w.heap.size, rfl, ⟨HO.out⟩, Nat.le_refl _, below_alloc _ _⟩
theorem leftT {w : World} {g : Nat} {s : ByteArray} {p : Nat} (h : BoxT w g s p) (hs : s.size ≤ 4294967296) (hp : p ≤ 8 * s.size) : Calls Tryz.prog 49 #[.pointer (some ⟨g, 0, none⟩)] w fun e w' => e = .returned (.int .i64 ((8 * s.size - p : Nat) : Int)) ∧ ∃ x, w' = ext w x := by
  have c0 := h.c0
  have c1 := h.c1
  have hg := h.lt
  clear h
  have e : ((8 * s.size - p : Nat) : Int) = 8 * (s.size : Int) - (p : Int) := by omega
  go_enter Tryz.func49, Tryz.ntmps49
  go_wp2
  go_quiet (fail)
  go_wp2
  go_ret
  refine ⟨?_, (ex_ext (by repeat (first | exact Below.refl _ _ | assumption | refine b_drewN ?_ _ | refine Below.drew ?_ | refine b_ext' ?_ _ | refine b_alloc' ?_ _)))⟩
  show Ending.returned (Value.int .i64 (8 * (s.size : Int) - (p : Int))) = _
  rw [e]
end Go.Cm
