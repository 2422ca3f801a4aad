/- The walks of the document's codes of lengths. Conditions: the argument reads as a list. -/
import Derived.Test.YtfeglklggadndaaLenM
import Derived.Test.YtfeglklggadndaaOwnM
import Derived.Deep.LoopGhost
namespace Go.Cm
open Go.RowKit Go.Proofs

theorem wrongI_big {l : List Int} (h : 320 < l.length) : wrongI l = 3 := by unfold wrongI; rw [if_pos h]
theorem wrongI_bad {l : List Int} (h : ¬ 320 < l.length) {i : Nat} (hi : i < l.length) (hb : ¬ (0 ≤ l.getD i 0 ∧ l.getD i 0 ≤ 15)) : wrongI l = 1 := by
  unfold wrongI; rw [if_neg h, if_neg]
  exact fun hall => hb (hall _ (getD_mem l i 0 hi))
theorem wrongI_ok {l : List Int} (h : ¬ 320 < l.length) (hall : ∀ i, i < l.length → 0 ≤ l.getD i 0 ∧ l.getD i 0 ≤ 15) : wrongI l = 0 := by
  unfold wrongI; rw [if_neg h, if_pos]
  intro x hx
  obtain ⟨i, hi, rfl⟩ := List.mem_iff_getElem.1 hx
  have := hall i hi
  simpa [List.getD, hi] using this
theorem ints_set' (l : List Int) (i : Nat) (x : Int) : (ints l).set i (.int .i64 x) = ints (l.set i x) := by simp [ints, List.map_set]
theorem ret_i64 {a b : Int} (h : a = b) : Ending.returned (Value.int .i64 a) = Ending.returned (Value.int .i64 b) := by rw [h]

theorem wrongR (v : Value) (l : List Int) (w : World) (h : IntsAt w v l) : Calls Try.prog 35 #[v] w fun e w' => e = .returned (.int .i64 (wrongI l : Nat)) ∧ ∃ x, w' = ext w x := by
  obtain ⟨oa, cap, b, off, rfl, hd, hc⟩ := h.open
  have hix := index_any (P := Try.prog) 22 3 Try.underlying22 (by kernel_rfl) hd
  have hm := hd.len
  have hbk := hd.hblk
  have HC := Lib.hid hc; clear hc h hd
  by_cases hbig : 320 < l.length
  · have hb : (l.length : Int) > 320 := by omega
    have HE := Lib.hid (wrongI_big hbig)
    go_enter Try.func35, Try.ntmps35
    go_wp2
    go_ret
    exact ⟨by rw [HE.out]; rfl, (ex_ext (by repeat (first | exact Below.refl _ _ | assumption | refine b_drewN ?_ _ | refine Below.drew ?_ | refine b_ext' ?_ _ | refine b_alloc' ?_ _)))⟩
  · have hb : ¬ (l.length : Int) > 320 := by omega
    go_enter Try.func35, Try.ntmps35
    go_wp2
    go_loop [3] (fun i => ∃ k : Nat, k ≤ l.length ∧ i = .int .i64 k ∧ ∀ q, q < k → 0 ≤ l.getD q 0 ∧ l.getD q 0 ≤ 15) (fun i => l.length - (intOf i).toNat)
    case atStart => exact ⟨0, Nat.zero_le _, rfl, fun j hj => absurd hj (Nat.not_lt_zero j)⟩
    case round =>
      obtain ⟨k, hk, rfl, hall⟩ := hrel
      have HA := Lib.hid hall; clear hall
      by_cases hlt : k < l.length
      · have hcell := HC.out k hlt
        have hbb := hbk (by omega)
        have HW : Hid ((0 ≤ l.getD k 0 ∧ l.getD k 0 ≤ 15) → ∀ q, q < k + 1 → 0 ≤ l.getD q 0 ∧ l.getD q 0 ≤ 15) := Lib.hid (fun h q hq => by
          rcases Nat.lt_succ_iff_lt_or_eq.1 hq with h1 | rfl
          · exact HA.out q h1
          · exact h)
        have HF : Hid (¬ (0 ≤ l.getD k 0 ∧ l.getD k 0 ≤ 15) → wrongI l = 1) := Lib.hid (wrongI_bad hbig hlt)
        generalize l.getD k 0 = y at *
        by_cases h0 : y < 0
        · go_wp2
          go_ret
          exact ⟨by rw [HF.out (by omega)]; rfl, (ex_ext (by repeat (first | exact Below.refl _ _ | assumption | refine b_drewN ?_ _ | refine Below.drew ?_ | refine b_ext' ?_ _ | refine b_alloc' ?_ _)))⟩
        · by_cases h1 : y > 15
          · go_wp2
            go_ret
            exact ⟨by rw [HF.out (by omega)]; rfl, (ex_ext (by repeat (first | exact Below.refl _ _ | assumption | refine b_drewN ?_ _ | refine Below.drew ?_ | refine b_ext' ?_ _ | refine b_alloc' ?_ _)))⟩
          · go_wp2
            go_round
            case rel => exact ⟨k + 1, by omega, by go_num, HW.out (by omega)⟩
            case measure => simp [intOf]; omega
      · have hk' : k = l.length := by omega
        subst hk'
        have HE := Lib.hid (wrongI_ok hbig HA.out)
        go_wp2
        go_ret
        exact ⟨by rw [HE.out]; rfl, (ex_ext (by repeat (first | exact Below.refl _ _ | assumption | refine b_drewN ?_ _ | refine Below.drew ?_ | refine b_ext' ?_ _ | refine b_alloc' ?_ _)))⟩

theorem kraft_take_succ (L : List Nat) (k : Nat) (hk : k < L.length) : kraftN (L.take (k + 1)) = kraftN (L.take k) + kw (L.getD k 0) := by
  unfold kraftN
  rw [take_succ_getD L k 0 hk, List.map_append, List.sum_append]
  simp
theorem kw_le (x : Nat) : kw x ≤ 32768 := by
  unfold kw
  split
  · exact Nat.le_trans (Nat.pow_le_pow_right (by decide) (show 15 - x ≤ 15 by omega)) (by decide)
  · exact Nat.zero_le _
theorem kraft_take_le (L : List Nat) (k : Nat) : kraftN (L.take k) ≤ k * 32768 := by
  induction k with
  | zero => simp [kraftN]
  | succ k ih =>
    rw [Nat.add_mul, Nat.one_mul]
    by_cases hk : k < L.length
    · rw [kraft_take_succ L k hk]
      exact Nat.add_le_add ih (kw_le _)
    · rw [List.take_of_length_le (by omega)]
      rw [List.take_of_length_le (by omega)] at ih
      exact Nat.le_trans ih (Nat.le_add_right _ _)

theorem kraftR (v : Value) (L : List Nat) (w : World) (h : IntsAt w v (nls L)) (h1 : L.length ≤ 320) (h15 : ∀ x ∈ L, x ≤ 15) : Calls Try.prog 36 #[v] w fun e w' => e = .returned (.int .i64 (kraftN L : Nat)) ∧ ∃ x, w' = ext w x := by
  have HWR : Hid (∀ w', Below w.heap.size w w' → Calls Try.prog 35 #[v] w' fun e w'' => e = .returned (.int .i64 0) ∧ ∃ x, w'' = ext w' x) := Lib.hid (fun w' hb => by
    have := wrongR v (nls L) w' (h.up hb)
    rw [wrongI_nls h1 h15] at this
    exact this)
  obtain ⟨oa, cap, b, off, rfl, hd, hc⟩ := h.open
  rw [nls_length] at hd hc
  rw [nls_length] at HWR ⊢
  have hix := index_any (P := Try.prog) 22 3 Try.underlying22 (by kernel_rfl) hd
  have hm := hd.len
  have hbk := hd.hblk
  have HC := Lib.hid hc; clear hc h hd
  have H15 : Hid (∀ k, k < L.length → L.getD k 0 ≤ 15) := Lib.hid (fun k hk => h15 _ (getD_mem L k 0 hk))
  go_enter Try.func36, Try.ntmps36
  go_wp2_with (go_at_call 35; refine (HWR.out _ (by repeat (first | exact Below.refl _ _ | assumption | refine b_drewN ?_ _ | refine Below.drew ?_ | refine b_ext' ?_ _ | refine b_alloc' ?_ _))).mono ?_; rintro e w1 ⟨rfl, x, rfl⟩)
  clear HWR h15
  go_loop [3, 4] (fun n i => ∃ k : Nat, k ≤ L.length ∧ i = .int .i64 k ∧ n = .int .i64 (kraftN (L.take k) : Nat)) (fun _ i => L.length - (intOf i).toNat)
  case atStart => exact ⟨0, Nat.zero_le _, rfl, rfl⟩
  case round =>
    obtain ⟨k, hk, rfl, rfl⟩ := hrel
    by_cases hlt : k < L.length
    · have hcell := HC.out k hlt
      rw [nls_getD] at hcell
      have hbb := hbk (by omega)
      have HS := Lib.hid (kraft_take_succ L k hlt)
      have hle := kraft_take_le L k
      have hx := H15.out k hlt
      generalize kraftN (L.take k) = s at *
      generalize L.getD k 0 = y at *
      by_cases h0 : 0 < y
      · have hy : (y : Int) > 0 := by omega
        have hy2 : (15 : Int) - (y : Int) = ((15 - y : Nat) : Int) := by omega
        have hp : 2 ^ (15 - y) ≤ 32768 := Nat.le_trans (Nat.pow_le_pow_right (by decide) (show 15 - y ≤ 15 by omega)) (by decide)
        have hkw : kw y = 2 ^ (15 - y) := by unfold kw; rw [if_pos h0]
        have HKW := Lib.hid hkw; clear hkw
        have hs2 : s ≤ 320 * 32768 := Nat.le_trans hle (Nat.mul_le_mul_right _ (by omega))
        clear hle
        generalize hn : 15 - y = n at *
        have HP : Hid ((2 ^ n : Nat) ≤ 32768) := Lib.hid hp
        have hn15 : n ≤ 15 := by omega
        go_wp2
        go_round
        case rel =>
          refine ⟨k + 1, by omega, by go_num, ?_⟩
          have hq := HP.out
          have h2 : ((2 : Int) ^ n) = ((2 ^ n : Nat) : Int) := by norm_cast
          rw [HS.out, HKW.out, h2]
          generalize 2 ^ n = q at *
          rw [IntWalk.wrap64_in (q : Int) ⟨by omega, by omega⟩, IntWalk.wrap64_in _ ⟨by omega, by omega⟩]
          norm_cast
        case measure => simp [intOf]; omega
      · have hy : ¬ (y : Int) > 0 := by omega
        have hkw : kw y = 0 := by unfold kw; rw [if_neg h0]
        rw [hkw] at HS
        go_wp2
        go_round
        case rel => exact ⟨k + 1, by omega, by go_num, by rw [HS.out, Nat.add_zero]⟩
        case measure => simp [intOf]; omega
    · go_wp2
      go_ret
      rw [List.take_of_length_le (by omega)]
      exact ⟨rfl, (ex_ext (by repeat (first | exact Below.refl _ _ | assumption | refine b_drewN ?_ _ | refine Below.drew ?_ | refine b_ext' ?_ _ | refine b_alloc' ?_ _)))⟩

theorem errI_of_wrong {l : List Int} (h : wrongI l ≠ 0) : errI l = wrongI l := by unfold errI; rw [if_pos h]
theorem errI_nls {L : List Nat} (h1 : L.length ≤ 320) (h15 : ∀ x ∈ L, x ≤ 15) : errI (nls L) = if 32768 < kraftN L then 7 else 0 := by
  unfold errI; rw [wrongI_nls h1 h15, if_neg (by omega), nls_toNat]
/-- the codes that were given so far: those of lengths below n, and of length n below symbol i -/
def partN (L : List Nat) (n i : Nat) : List Nat := (List.range L.length).map fun q => if L.getD q 0 < n ∨ (L.getD q 0 = n ∧ q < i) then codeN L q else 0
theorem partN_length (L : List Nat) (n i : Nat) : (partN L n i).length = L.length := by simp [partN]
theorem partN_start (L : List Nat) : partN L 1 0 = List.replicate L.length 0 := by
  unfold partN
  rw [List.eq_replicate_iff]
  refine ⟨by simp, fun x hx => ?_⟩
  obtain ⟨q, -, rfl⟩ := List.mem_map.1 hx
  split
  · rename_i h; unfold codeN; rw [if_pos (by omega)]
  · rfl
theorem partN_skip (L : List Nat) (n i : Nat) (h : L.getD i 0 ≠ n) : partN L n (i + 1) = partN L n i := by
  unfold partN
  refine List.map_congr_left fun q _ => ?_
  by_cases e : q = i
  · subst e
    by_cases h2 : L.getD q 0 < n
    · rw [if_pos (.inl h2), if_pos (.inl h2)]
    · rw [if_neg (by omega), if_neg (by omega)]
  · by_cases h2 : L.getD q 0 < n ∨ (L.getD q 0 = n ∧ q < i)
    · rw [if_pos h2, if_pos (by omega)]
    · rw [if_neg h2, if_neg (by omega)]
theorem partN_set (L : List Nat) (n i : Nat) (h0 : 1 ≤ n) (h : L.getD i 0 = n) : (partN L n i).set i (firstN L n + (L.take i).count n) = partN L n (i + 1) := by
  refine List.ext_getElem (by simp [partN]) fun q h1 h2 => ?_
  rw [List.getElem_set]
  simp only [partN, List.getElem_map, List.getElem_range]
  by_cases e : i = q
  · subst e
    rw [if_pos rfl, if_pos (.inr ⟨h, by omega⟩)]
    unfold codeN rankN
    rw [if_neg (by omega), h]
  · rw [if_neg e]
    by_cases h2 : L.getD q 0 < n ∨ (L.getD q 0 = n ∧ q < i)
    · rw [if_pos h2, if_pos (by omega)]
    · rw [if_neg h2, if_neg (by omega)]
theorem partN_next (L : List Nat) (n : Nat) : partN L n L.length = partN L (n + 1) 0 := by
  unfold partN
  refine List.map_congr_left fun q hq => ?_
  have := List.mem_range.1 hq
  by_cases h2 : L.getD q 0 < n ∨ (L.getD q 0 = n ∧ q < L.length)
  · rw [if_pos h2, if_pos (by omega)]
  · rw [if_neg h2, if_neg (by omega)]
theorem partN_all (L : List Nat) (h15 : ∀ x ∈ L, x ≤ 15) : partN L 16 0 = codesN L := by
  unfold partN codesN
  refine List.map_congr_left fun q hq => ?_
  have := h15 _ (getD_mem L q 0 (List.mem_range.1 hq))
  rw [if_pos (by omega)]

/-- what a call that gives codes answers -/
def RetCodes (l : List Int) (w : World) (e : Ending) (w' : World) : Prop :=
  ∃ v, e = .returned (.tuple #[v, .int .i64 (errI l : Nat)]) ∧ Own w' w.heap.size 3 v (if errI l = 0 then ints (nls (codesN (l.map Int.toNat))) else []) ∧ Below w.heap.size w w'

set_option maxRecDepth 100000 in
theorem codesR (v : Value) (l : List Int) (w : World) (h : IntsAt w v l) : Calls Try.prog 18 #[v] w (RetCodes l w) := by
  have HWR : Hid (∀ w', Below w.heap.size w w' → Calls Try.prog 35 #[v] w' fun e w'' => e = .returned (.int .i64 (wrongI l : Nat)) ∧ ∃ x, w'' = ext w' x) := Lib.hid (fun w' hb => wrongR v l w' (h.up hb))
  by_cases hw0 : wrongI l = 0
  · obtain ⟨hlen, hall⟩ := wrongI_zero hw0
    obtain ⟨L, rfl, h15⟩ := nls_of hall
    rw [nls_length] at hlen
    rw [hw0] at HWR
    have he := errI_nls hlen h15
    have HKR : Hid (∀ w', Below w.heap.size w w' → Calls Try.prog 36 #[v] w' fun e w'' => e = .returned (.int .i64 (kraftN L : Nat)) ∧ ∃ x, w'' = ext w' x) := Lib.hid (fun w' hb => kraftR v L w' (h.up hb) hlen h15)
    obtain ⟨oa, cap, b, off, rfl, hd, hc⟩ := h.open
    rw [nls_length] at hd hc
    unfold RetCodes
    rw [nls_length] at HWR HKR ⊢
    rw [nls_toNat]
    have hix := index_any (P := Try.prog) 22 3 Try.underlying22 (by kernel_rfl) hd
    have hm := hd.len
    have hbk := hd.hblk
    have HC := Lib.hid hc; clear hc h hd hw0 hall
    by_cases hk : 32768 < kraftN L
    · rw [if_pos hk] at he
      have hk2 : (kraftN L : Int) > 32768 := by omega
      generalize kraftN L = K at *
      go_enter Try.func18, Try.ntmps18
      go_wp2_with (first | (go_at_call 35; refine (HWR.out _ (by repeat (first | exact Below.refl _ _ | assumption | refine b_drewN ?_ _ | refine Below.drew ?_ | refine b_ext' ?_ _ | refine b_alloc' ?_ _))).mono ?_; rintro e w1 ⟨rfl, x, rfl⟩) | (go_at_call 36; refine (HKR.out _ (by repeat (first | exact Below.refl _ _ | assumption | refine b_drewN ?_ _ | refine Below.drew ?_ | refine b_ext' ?_ _ | refine b_alloc' ?_ _))).mono ?_; rintro e w2 ⟨rfl, y, rfl⟩))
      go_ret2
      exact ⟨.slice none 0 0, rfl, Own.nil _ _ _, (by repeat (first | exact Below.refl _ _ | assumption | refine b_drewN ?_ _ | refine Below.drew ?_ | refine b_ext' ?_ _ | refine b_alloc' ?_ _))⟩
    · rw [if_neg hk] at he
      have hk2 : ¬ (kraftN L : Int) > 32768 := by omega
      have HK : Hid (kraftN L ≤ 32768) := Lib.hid (by omega)
      have HFU := Lib.hid (full_le h15 HK.out)
      have HFL := Lib.hid (first_le h15 HK.out)
      have HPA := Lib.hid (partN_all L h15)
      have HPS := Lib.hid (partN_start L)
      rw [he]
      clear h15 he
      generalize kraftN L = K at *
      have hmk := run_mk (P := Try.prog) 22 3 (.int .i64 0) 8 L.length Try.underlying22 (by kernel_rfl) rfl (by decide) (by omega)
      go_enter Try.func18, Try.ntmps18
      go_wp2_with (first | (go_at_call 35; refine (HWR.out _ (by repeat (first | exact Below.refl _ _ | assumption | refine b_drewN ?_ _ | refine Below.drew ?_ | refine b_ext' ?_ _ | refine b_alloc' ?_ _))).mono ?_; rintro e w1 ⟨rfl, x, rfl⟩) | (go_at_call 36; refine (HKR.out _ (by repeat (first | exact Below.refl _ _ | assumption | refine b_drewN ?_ _ | refine Below.drew ?_ | refine b_ext' ?_ _ | refine b_alloc' ?_ _))).mono ?_; rintro e w2 ⟨rfl, y, rfl⟩))
      have hbel : Below w.heap.size w (ext (ext w x) y) := (by repeat (first | exact Below.refl _ _ | assumption | refine b_drewN ?_ _ | refine Below.drew ?_ | refine b_ext' ?_ _ | refine b_alloc' ?_ _))
      have hown := own_made (ext (ext w x) y) w.heap.size 3 (.int .i64 0) L.length hbel.size (by omega)
      have hbel2 := hbel.alloc hbel.size (.cells (madeCells #[Value.int .i64 0] L.length) 3)
      have hown2 : Own ((ext (ext w x) y).alloc (.cells (madeCells #[Value.int .i64 0] L.length) 3)) w.heap.size 3 (.slice (some ⟨(ext (ext w x) y).heap.size, 0, none⟩) L.length L.length) (ints (nls (partN L 1 0))) := by
        rw [HPS.out]; simpa [ints, nls] using hown
      have HO := Lib.hid hown2
      have HB := Lib.hid hbel2
      have hgs := hbel.size
      clear hown hown2 hbel hbel2 hmk HWR HKR HPS
      generalize (ext (ext w x) y).heap.size = g at *
      generalize (ext (ext w x) y).alloc (.cells (madeCells #[Value.int .i64 0] L.length) 3) = w3 at *
      go_loopg [6, 7] 16 (fun gk c n wr => ∃ k : Nat, 1 ≤ k ∧ k ≤ 16 ∧ n = .int .i64 k ∧ c = .int .i64 (firstN L k : Nat) ∧ Own wr w.heap.size 3 (.slice (some ⟨g, 0, none⟩) L.length L.length) (ints (nls (partN L k 0))) ∧ Below w.heap.size w wr ∧ gk = 17 - k)
      case atStart => exact ⟨1, by omega, by omega, rfl, rfl, HO.out, HB.out, rfl⟩
      case round =>
        clear HO HB
        obtain ⟨k, hk1, hk16, rfl, rfl, hown, hbel, rfl⟩ := hrel
        have HO := Lib.hid hown
        have HB := Lib.hid hbel
        clear hown hbel
        by_cases hk : k ≤ 15
        · have HFS := Lib.hid (first_succ L k hk1)
          have HFK := Lib.hid (HFU.out k hk1 hk)
          have h2k : 2 ^ k ≤ 32768 := Nat.le_trans (Nat.pow_le_pow_right (by decide) hk) (by decide)
          have HCT : Hid (firstN L k + L.count k ≤ 32768) := Lib.hid (Nat.le_trans HFK.out h2k)
          clear h2k
          go_wp2
          obtain ⟨wo, rfl⟩ : ∃ wo : World, wo = wr := ⟨_, rfl⟩
          go_loopg [6, 8] (L.length + 1) (fun gk c i wr => ∃ j : Nat, j ≤ L.length ∧ i = .int .i64 j ∧ c = .int .i64 (firstN L k + (L.take j).count k : Nat) ∧ Own wr w.heap.size 3 (.slice (some ⟨g, 0, none⟩) L.length L.length) (ints (nls (partN L k j))) ∧ Below w.heap.size w wr ∧ gk = L.length + 1 - j)
          case atStart => exact ⟨0, Nat.zero_le _, rfl, by simp, HO.out, HB.out, rfl⟩
          case round =>
            clear HO HB
            obtain ⟨j, hj, rfl, rfl, hown, hbel, rfl⟩ := hrel
            have HO := Lib.hid hown
            have HB := Lib.hid hbel
            clear hown hbel
            by_cases hlt : j < L.length
            · have hbw := hbk (by omega)
              have hsz := HB.out.size
              have hcell := (HB.out.cell (p := ⟨b, off + j, none⟩) hbw).trans (HC.out j hlt)
              rw [nls_getD] at hcell
              have hgw := HO.out.blk
              have hcj := HO.out.cell (i := j) (by rw [ints_length, nls_length, partN_length]; exact hlt)
              rw [ints_getD _ _ (by rw [nls_length, partN_length]; exact hlt)] at hcj
              have hfj := HO.out.free j
              have HCS := Lib.hid (count_take_succ L j k hlt)
              have HSK := Lib.hid (partN_skip L k j)
              have HSET := Lib.hid (partN_set L k j hk1)
              have HST := Lib.hid (HO.out.store j (.int .i64 (firstN L k + (L.take j).count k : Nat)))
              have hle : (L.take j).count k ≤ L.count k := List.Sublist.count_le _ (List.take_sublist _ _)
              have HLE := Lib.hid hle; clear hle
              have hbw2 : b < wr.heap.size := by omega
              generalize hyy : L.getD j 0 = y at *
              generalize (nls (partN L k j)).getD j 0 = z at *
              generalize hcc : firstN L k + (L.take j).count k = c at *
              have hc2 : c ≤ 32768 := by have := HCT.out; have := HLE.out; omega
              by_cases he : y = k
              · have he2 : ((y : Int) == (k : Int)) = true := by rw [he]; exact beq_self_eq_true _
                have HCC := Lib.hid hcc
                have HE := Lib.hid he
                clear hcc he
                have hj2 : j < 4294967296 := by omega
                go_wp2
                go_roundg (L.length - j)
                case measure => omega
                case rel =>
                  refine ⟨j + 1, by omega, by go_num, ?_, ?_, ?_, by omega⟩
                  · rw [HCS.out, if_pos HE.out]
                    rw [← Nat.add_assoc, HCC.out]
                    norm_cast
                  · have h1 := HST.out.1
                    rw [ints_set', nls_set, HSET.out HE.out] at h1
                    exact h1
                  · exact HB.out.grown HST.out.2 (by omega) (fun k hk => by cases hk; exact hgw.1)
              · have he2 : ((y : Int) == (k : Int)) = false := by
                  simp; omega
                go_wp2
                go_roundg (L.length - j)
                case measure => omega
                case rel =>
                  refine ⟨j + 1, by omega, by go_num, ?_, ?_, HB.out, by omega⟩
                  · rw [HCS.out, if_neg he, Nat.add_zero, hcc]
                  · rw [HSK.out he]; exact HO.out
            · obtain rfl : j = L.length := by omega
              have HNX := Lib.hid (partN_next L k)
              rw [List.take_length]
              have hc3 := HCT.out
              generalize hcc : firstN L k + L.count k = c at *
              have HCC := Lib.hid hcc
              clear hcc
              go_wp2
              go_roundg (16 - k)
              case measure => omega
              case rel =>
                refine ⟨k + 1, by omega, by omega, by go_num, ?_, ?_, HB.out, by omega⟩
                · rw [HFS.out]
                  norm_cast
                · rw [← HNX.out]; exact HO.out
        · obtain rfl : k = 16 := by omega
          go_wp2
          go_ret2
          refine ⟨.slice (some ⟨g, 0, none⟩) L.length L.length, rfl, ?_, HB.out⟩
          rw [← HPA.out]
          exact HO.out
  · have he := errI_of_wrong hw0
    have hne : ¬ (wrongI l : Int) = 0 := by omega
    have hne2 : ¬ errI l = 0 := by omega
    unfold RetCodes
    rw [if_neg hne2, he]
    clear h he hne2
    generalize wrongI l = n at *
    go_enter Try.func18, Try.ntmps18
    go_wp2_with (first | (go_at_call 35; refine (HWR.out _ (by repeat (first | exact Below.refl _ _ | assumption | refine b_drewN ?_ _ | refine Below.drew ?_ | refine b_ext' ?_ _ | refine b_alloc' ?_ _))).mono ?_; rintro e w1 ⟨rfl, x, rfl⟩))
    go_ret2
    exact ⟨.slice none 0 0, rfl, Own.nil _ _ _, (by repeat (first | exact Below.refl _ _ | assumption | refine b_drewN ?_ _ | refine Below.drew ?_ | refine b_ext' ?_ _ | refine b_alloc' ?_ _))⟩
end Go.Cm
