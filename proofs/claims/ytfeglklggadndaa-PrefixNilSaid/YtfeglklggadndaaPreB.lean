/- The table of codes in memory; the walks of its filling. Conditions: none. -/
import Derived.Test.YtfeglklggadndaaPreT
import Derived.Test.YtfeglklggadndaaPreR
namespace Go.Cm
open Go.RowKit Go.Proofs

def cellE (e : Ent) (c : Nat) : Nat := if c = 0 then e.s else if c = 1 then e.b else e.t
def entV (e : Ent) : Array Value := #[.int .i64 (e.s : Nat), .int .i64 (e.b : Nat), .int .i64 (e.t : Nat)]
/-- entries, a value a cell -/
def flatE (E : Nat → Ent) (n : Nat) : List Value := (List.range (3 * n)).map fun k => .int .i64 (cellE (E (k / 3)) (k % 3) : Nat)
theorem flatE_length (E : Nat → Ent) (n : Nat) : (flatE E n).length = 3 * n := by simp [flatE]
theorem flatE_congr {E E' : Nat → Ent} {n : Nat} (h : ∀ x, x < n → E x = E' x) : flatE E n = flatE E' n := by
  unfold flatE
  refine List.map_congr_left fun k hk => ?_
  have := List.mem_range.1 hk
  rw [h (k / 3) (by omega)]
theorem flatE_zero (n : Nat) : flatE (fun _ => Ent.zero) n = List.replicate (3 * n) (.int .i64 0) := by
  rw [List.eq_replicate_iff]
  refine ⟨flatE_length _ _, fun x hx => ?_⟩
  simp only [flatE, List.mem_map] at hx
  obtain ⟨k, -, rfl⟩ := hx
  have : cellE Ent.zero (k % 3) = 0 := by unfold cellE Ent.zero; split <;> (try split) <;> rfl
  rw [this]; rfl
theorem flatE_at (E : Nat → Ent) (n x c : Nat) (hx : x < n) (hc : c < 3) : (flatE E n)[3 * x + c]? = some (.int .i64 (cellE (E x) c : Nat)) := by
  unfold flatE
  rw [List.getElem?_map, List.getElem?_range (by omega)]
  simp only [Option.map_some]
  rw [show (3 * x + c) / 3 = x by omega, show (3 * x + c) % 3 = c by omega]
theorem set3 (pre post : List Value) (E : Nat → Ent) (n x : Nat) (e : Ent) (hx : x < n) :
    (pre ++ flatE E n ++ post).take (pre.length + 3 * x) ++ (entV e).toList ++ (pre ++ flatE E n ++ post).drop (pre.length + 3 * x + 3) = pre ++ flatE (updN E x e) n ++ post := by
  have hl : (flatE E n).length = 3 * n := flatE_length E n
  have e1 : (pre ++ flatE E n ++ post).take (pre.length + 3 * x) = pre ++ (flatE E n).take (3 * x) := by
    rw [List.append_assoc, List.take_length_add_append, List.take_append_of_le_length (by omega)]
  have e2 : (pre ++ flatE E n ++ post).drop (pre.length + 3 * x + 3) = (flatE E n).drop (3 * x + 3) ++ post := by
    rw [List.append_assoc, Nat.add_assoc, List.drop_length_add_append, List.drop_append_of_le_length (by omega)]
  rw [e1, e2]
  have e3 : flatE (updN E x e) n = (flatE E n).take (3 * x) ++ (entV e).toList ++ (flatE E n).drop (3 * x + 3) := by
    refine List.ext_getElem? fun k => ?_
    by_cases hk : k < 3 * n
    · have hg : ∀ F : Nat → Ent, (flatE F n)[k]? = some (.int .i64 (cellE (F (k / 3)) (k % 3) : Nat)) := fun F => by
        have := flatE_at F n (k / 3) (k % 3) (by omega) (by omega)
        rwa [show 3 * (k / 3) + k % 3 = k by omega] at this
      rw [hg]
      by_cases h1 : k < 3 * x
      · rw [List.append_assoc, List.getElem?_append_left (by simp; omega), List.getElem?_take, if_pos h1, hg]
        unfold updN
        rw [if_neg (by omega)]
      · by_cases h2 : k < 3 * x + 3
        · rw [List.append_assoc, List.getElem?_append_right (by simp; omega), List.length_take, hl, Nat.min_eq_left (by omega), List.getElem?_append_left (by simp [entV]; omega)]
          unfold updN
          rw [if_pos (by omega)]
          obtain ⟨c, hc, rfl⟩ : ∃ c, c < 3 ∧ k = 3 * x + c := ⟨k - 3 * x, by omega, by omega⟩
          rw [Nat.add_sub_cancel_left, show (3 * x + c) % 3 = c by omega]
          rcases (show c = 0 ∨ c = 1 ∨ c = 2 by omega) with rfl | rfl | rfl <;> rfl
        · rw [List.getElem?_append_right (by simp [entV]; omega)]
          have hlen : ((flatE E n).take (3 * x) ++ (entV e).toList).length = 3 * x + 3 := by simp [entV, hl]; omega
          rw [hlen, List.getElem?_drop, show 3 * x + 3 + (k - (3 * x + 3)) = k by omega, hg]
          unfold updN
          rw [if_neg (by omega)]
    · rw [List.getElem?_eq_none (by rw [flatE_length]; omega), List.getElem?_eq_none]
      simp [entV, hl]; omega
  rw [e3]
  simp [List.append_assoc]
theorem entV_one (e : Ent) : ∀ u ∈ (entV e).toList, u.oneCell' = true := by
  intro u hu
  simp [entV] at hu
  rcases hu with rfl | rfl | rfl <;> rfl

/-- the address of an entry -/
theorem index_ent (g o n : Nat) (W : World) (i : Nat) (h : i < n) : (Instr.indexAt 70 (.slice (some ⟨g, o, none⟩) n n) (.int .i64 i)).run Try.prog W = .ok (.pointer (some ⟨g, o + 3 * i, none⟩)) W := by
  have he : Try.prog.elem 70 = 38 := by simp [Program.elem, Try.underlying70]
  have hsz : (sizeOf 38).run Try.prog W = .ok 3 W := by
    have hi : (Try.prog.info? 38).map (·.size) = some 3 := by kernel_rfl
    cases hq : Try.prog.info? 38 with
    | none => simp [hq] at hi
    | some inf => have : inf.size = 3 := by simpa [hq] using hi
                  simp [sizeOf, typeInfo, hq, this]
  rw [run_indexAt_slice W 70 ⟨g, o, none⟩ n n .i64 i (by rw [he]; exact Try.underlying70), if_pos ⟨by omega, by omega⟩, he, hsz]
  simp only [Result.andThen, Int.toNat_natCast, add_off]
  rw [Nat.mul_comm]

/-- entries that were put so far -/
def partF (E : Nat → Ent) (t q : Nat) (e : Ent) (i : Nat) : Nat → Ent := fun x => if x < i ∧ x % q = t then e else E x
theorem partF_start (E : Nat → Ent) (t q : Nat) (e : Ent) (n : Nat) (ht : t < q) : flatE (partF E t q e t) n = flatE E n := flatE_congr fun x _ => by
  unfold partF
  rw [if_neg]
  rintro ⟨h1, h2⟩
  rw [Nat.mod_eq_of_lt (by omega)] at h2; omega
theorem partF_step (E : Nat → Ent) (t q : Nat) (e : Ent) (i : Nat) (hi : i % q = t) (ht : t < q) : updN (partF E t q e i) i e = partF E t q e (i + q) := by
  funext x
  unfold updN partF
  by_cases h : x = i
  · subst h; rw [if_pos rfl, if_pos ⟨by omega, hi⟩]
  · rw [if_neg h]
    by_cases h2 : x < i ∧ x % q = t
    · rw [if_pos h2, if_pos ⟨by omega, h2.2⟩]
    · rw [if_neg h2, if_neg]
      rintro ⟨h3, h4⟩
      have hge : i ≤ x := by
        apply Classical.byContradiction; intro hlt
        exact h2 ⟨by omega, h4⟩
      obtain ⟨d, rfl⟩ : ∃ d, x = i + d := ⟨x - i, by omega⟩
      have hd : d < q := by omega
      have h5 : (i + d) % q = i % q := by rw [h4, hi]
      have h6 : d % q = 0 := by
        have h7 : (i + d - i) % q = 0 := Nat.sub_mod_eq_zero_of_mod_eq h5
        rwa [Nat.add_sub_cancel_left] at h7
      rw [Nat.mod_eq_of_lt hd] at h6
      subst h6; exact h rfl
theorem partF_end (E : Nat → Ent) (c nn : Nat) (e : Ent) (i n : Nat) (hi : n ≤ i) : flatE (partF E (turnN c nn) (2 ^ nn) e i) n = flatE (fillN E c nn e) n := flatE_congr fun x hx => by
  unfold partF fillN
  by_cases h : x % 2 ^ nn = turnN c nn
  · rw [if_pos ⟨by omega, h⟩, if_pos h]
  · rw [if_neg (fun q => h q.2), if_neg h]

set_option maxRecDepth 100000 in
theorem fillP {w : World} {B T g N o n : Nat} {pre post : List Value} {E : Nat → Ent} (h : Own w B T (.slice (some ⟨g, 0, none⟩) N N) (pre ++ flatE E n ++ post)) (hpre : pre.length = o) (c nn : Nat) (hnn : nn ≤ 15) (hn : n ≤ 65536) (e : Ent) :
    Calls Try.prog 28 #[.slice (some ⟨g, o, none⟩) n n, .int .i64 c, .int .i64 nn, .agg (entV e)] w fun en w' => en = .returned (.tuple #[]) ∧
      Own w' B T (.slice (some ⟨g, 0, none⟩) N N) (pre ++ flatE (fillN E c nn e) n ++ post) ∧ w.grownBy w' (some g) := by
  have hg := h.blk
  have hlen := h.len
  have HO := Lib.hid (h.up (below_alloc w (.cells (entV e) 38)))
  have HG := Lib.hid (heap_alloc_new w (.cells (entV e) 38))
  have hix := index_ent g o n
  have HES : Hid ((entV e).size = 3) := Lib.hid rfl
  have HE1 := Lib.hid (entV_one e)
  have HGB : Hid (w.grownBy (w.alloc (.cells (entV e) 38)) (some g)) := Lib.hid (grown_below (below_alloc _ _) _)
  have HS3 := Lib.hid (fun E x hx => set3 pre post E n x e hx)
  have htl := turnN_lt c nn
  have HPS := Lib.hid (partF_start E (turnN c nn) (2 ^ nn) e n htl)
  have HPT := Lib.hid (fun i hi => partF_step E (turnN c nn) (2 ^ nn) e i hi htl)
  have HPE := Lib.hid (partF_end E c nn e)
  have HTP := Lib.hid (turnP c nn (by omega))
  have hq : 2 ^ nn ≤ 32768 := Nat.le_trans (Nat.pow_le_pow_right (by decide) hnn) (by decide)
  rw [← HPS.out] at HO
  obtain ⟨V, hV⟩ : ∃ V, V = entV e := ⟨_, rfl⟩
  rw [← hV] at HO HG HES HE1 HGB HS3 ⊢
  have HV := Lib.hid hV
  have HTM : Hid (turnN c nn % 2 ^ nn = turnN c nn) := Lib.hid (Nat.mod_eq_of_lt htl)
  have HQ := Lib.hid hq
  have ht15 : turnN c nn ≤ 32768 := by omega
  clear h hV htl hq
  go_enter Try.func28, Try.ntmps28
  go_wp2_with (go_at_call 43; refine (HTP.out _).mono ?_; rintro en w' ⟨rfl, hw'⟩; rw [hw']; clear hw')
  generalize hA : (w.alloc (.cells V 38)) = w1 at *
  have hgw1 : g < w1.heap.size := by rw [← hA]; simp; omega
  have hsz1 : w1.heap.size = w.heap.size + 1 := by rw [← hA]; simp
  clear hA
  obtain ⟨t, ht⟩ : ∃ t, t = turnN c nn := ⟨_, rfl⟩
  rw [← ht] at HO HPS HPT HPE HTM ht15 ⊢
  clear ht
  go_loopg [8] (n - t) (fun gk iv wr => ∃ i : Nat, iv = .int .i64 i ∧ i % 2 ^ nn = t ∧ i ≤ 100000 ∧ Own wr B T (.slice (some ⟨g, 0, none⟩) N N) (pre ++ flatE (partF E t (2 ^ nn) e i) n ++ post) ∧ w1.grownBy wr (some g) ∧ gk = n - i)
  case atStart => exact ⟨t, rfl, HTM.out, by omega, HO.out, grown_refl _ _, rfl⟩
  case round =>
    clear HO
    obtain ⟨i, rfl, him, hi1, hown, hgr, rfl⟩ := hrel
    have HO := Lib.hid hown
    have HGR := Lib.hid hgr
    have hszr := hgr.size
    have hgV := (hgr.block w.heap.size (by omega) (by simp; omega)).trans HG.out
    clear hown hgr
    by_cases hlt : i < n
    · have hixi := fun W => hix W i hlt
      have HIM := Lib.hid him
      clear him
      have HS := Lib.hid (HS3.out (partF E t (2 ^ nn) e i) i hlt)
      rw [HPT.out i HIM.out] at HS
      go_wp2_with (first | (refine load_box rfl 38 3 _ rfl w.heap.size rfl V HES.out hgV _ Try.underlying38 rfl (by kernel_rfl) ?_) | (refine wpList_store_part rfl 38 _ _ rfl B T g N N (o + 3 * i) rfl V rfl (by rw [HES.out]; kernel_rfl) _ HO.out (by rw [List.length_append, List.length_append, flatE_length, HES.out]; omega) HE1.out ?_; intro w5 hown5 hg5; have HO5 := Lib.hid hown5; have HG5 := Lib.hid hg5; clear hown5 hg5))
      have hqq := HQ.out
      generalize hq0 : 2 ^ nn = q at *
      have hpos : 0 < q := by rw [← hq0]; exact Nat.pow_pos (by decide)
      have e0 : (2 : Int) ^ nn = (q : Int) := by rw [← hq0]; norm_cast
      rw [e0]
      go_roundg (n - (i + q))
      case measure => omega
      case rel =>
        rw [IntWalk.wrap64_in (q : Int) ⟨by omega, by omega⟩, IntWalk.wrap64_in _ ⟨by omega, by omega⟩]
        refine ⟨i + q, by norm_cast, by rw [Nat.add_mod_right]; exact HIM.out, by omega, ?_, grown_trans HGR.out HG5.out, rfl⟩
        have h5 := HO5.out
        rw [← hpre, HES.out, HS.out] at h5
        exact h5
    · have HE2 := Lib.hid (HPE.out i n (by omega))
      go_wp2
      go_end0
      refine ⟨rfl, ?_, grown_trans HGB.out HGR.out⟩
      rw [← HE2.out]
      exact HO.out

set_option maxRecDepth 100000 in
/-- the longest rest of a code with the head -/
theorem longestP {w : World} (v u : Value) (L : List Nat) (h : IntsAt w v (nls L)) (hu : IntsAt w u (nls (codesN L))) (hlen : L.length ≤ 320) (h15 : ∀ x ∈ L, x ≤ 15) (hk : kraftN L ≤ 32768) (head : Nat) (hh : head ≤ 32768) :
    Calls Try.prog 46 #[v, u, .int .i64 head] w fun e w' => (∃ m : Nat, e = .returned (.int .i64 m) ∧ m ≤ 6 ∧ ∀ j, j < L.length → 9 < L.getD j 0 → codeN L j / 2 ^ (L.getD j 0 - 9) = head → L.getD j 0 ≤ 9 + m) ∧ ∃ x, w' = ext w x := by
  obtain ⟨oa, cap, b, off, rfl, hd, hc⟩ := h.open
  obtain ⟨oc, cc, bc, fc, rfl, hdc, hcc⟩ := hu.open
  rw [nls_length] at hd hc ⊢
  rw [show (nls (codesN L)).length = L.length by rw [nls_length, codesN_length]] at hdc hcc ⊢
  have hix := index_any (P := Try.prog) 22 3 Try.underlying22 (by kernel_rfl) hd
  have hixc := index_any (P := Try.prog) 22 3 Try.underlying22 (by kernel_rfl) hdc
  have hm := hd.len
  have hbk := hd.hblk
  have hbkc := hdc.hblk
  have HC : Hid (∀ i, i < L.length → w.cell? ⟨b, off + i, none⟩ = some (.int .i64 (L.getD i 0 : Nat))) := Lib.hid (fun i hi => by rw [hc i hi, nls_getD])
  have HCC : Hid (∀ i, i < L.length → w.cell? ⟨bc, fc + i, none⟩ = some (.int .i64 (codeN L i : Nat))) := Lib.hid (fun i hi => by rw [hcc i hi, nls_getD, codesN_getD L i hi])
  have H15 : Hid (∀ i, i < L.length → L.getD i 0 ≤ 15) := Lib.hid (fun i hi => h15 _ (getD_mem L i 0 hi))
  have HCL : Hid (∀ i, i < L.length → codeN L i < 2 ^ L.getD i 0) := Lib.hid (code_lt h15 hk)
  clear h hu hd hc hdc hcc h15 hk
  go_enter Try.func46, Try.ntmps46
  go_wp2
  go_loop [7, 12] (fun mo i => ∃ (k m : Nat), k ≤ L.length ∧ i = .int .i64 k ∧ mo = .int .i64 m ∧ m ≤ 6 ∧ ∀ j, j < k → 9 < L.getD j 0 → codeN L j / 2 ^ (L.getD j 0 - 9) = head → L.getD j 0 ≤ 9 + m) (fun _ i => L.length - (intOf i).toNat)
  case atStart => exact ⟨0, 0, Nat.zero_le _, rfl, rfl, by omega, fun j hj => absurd hj (Nat.not_lt_zero j)⟩
  case round =>
    obtain ⟨k, m, hk, rfl, rfl, hm6, hall⟩ := hrel
    have HA := Lib.hid hall
    clear hall
    by_cases hlt : k < L.length
    · have hcell := HC.out k hlt
      have hcellc := HCC.out k hlt
      have hb1 := hbk (by omega)
      have hb2 := hbkc (by omega)
      have hx15 := H15.out k hlt
      have hcl := HCL.out k hlt
      have HST : Hid (∀ m' : Nat, m ≤ m' → (9 < L.getD k 0 → codeN L k / 2 ^ (L.getD k 0 - 9) = head → L.getD k 0 ≤ 9 + m') → ∀ j, j < k + 1 → 9 < L.getD j 0 → codeN L j / 2 ^ (L.getD j 0 - 9) = head → L.getD j 0 ≤ 9 + m') := Lib.hid (fun m' hm' hn j hj h9 hh => by
        rcases Nat.lt_succ_iff_lt_or_eq.1 hj with hj | rfl
        · have := HA.out j hj h9 hh; omega
        · exact hn h9 hh)
      generalize L.getD k 0 = x at *
      generalize codeN L k = c at *
      have hc15 : c ≤ 32768 := by
        have : 2 ^ x ≤ 2 ^ 15 := Nat.pow_le_pow_right (by decide) hx15
        omega
      clear hcl
      by_cases h9 : 9 < x
      · have h9i : (x : Int) > 9 := by omega
        have e1 : (x : Int) - 9 = ((x - 9 : Nat) : Int) := by omega
        have hr6 : x - 9 ≤ 6 := by omega
        generalize hr : x - 9 = r at *
        have e2 : (c : Int) / 2 ^ r = ((c / 2 ^ r : Nat) : Int) := by norm_cast
        have hcr : c / 2 ^ r ≤ c := Nat.div_le_self _ _
        generalize c / 2 ^ r = z at *
        by_cases heq : z = head
        · have e3 : ((z : Int) == (head : Int)) = true := by rw [heq]; exact beq_self_eq_true _
          go_wp2
          go_round
          case rel =>
            by_cases hmr : m < r
            · rw [if_pos hmr]
              exact ⟨k + 1, r, by omega, by go_num, rfl, hr6, HST.out r (by omega) (fun _ _ => by omega)⟩
            · rw [if_neg hmr]
              exact ⟨k + 1, m, by omega, by go_num, rfl, hm6, HST.out m (by omega) (fun _ _ => by omega)⟩
          case measure => simp [intOf]; omega
        · have e3 : ((z : Int) == (head : Int)) = false := by simp only [beq_eq_false_iff_ne]; intro h; exact heq (Int.ofNat.inj h)
          have HN := Lib.hid (HST.out m (Nat.le_refl _) (fun _ h => absurd h heq))
          clear heq
          go_wp2
          go_round
          case rel => exact ⟨k + 1, m, by omega, by go_num, rfl, hm6, HN.out⟩
          case measure => simp [intOf]; omega
      · have h9i : ¬ (x : Int) > 9 := by omega
        have HN := Lib.hid (HST.out m (Nat.le_refl _) (fun h => absurd h h9))
        go_wp2
        go_round
        case rel => exact ⟨k + 1, m, by omega, by go_num, rfl, hm6, HN.out⟩
        case measure => simp [intOf]; omega
    · obtain rfl : k = L.length := by omega
      go_wp2
      go_ret
      exact ⟨⟨m, rfl, hm6, HA.out⟩, (ex_ext (by repeat (first | exact Below.refl _ _ | assumption | refine b_drewN ?_ _ | refine Below.drew ?_ | refine b_ext' ?_ _ | refine b_alloc' ?_ _)))⟩
end Go.Cm
