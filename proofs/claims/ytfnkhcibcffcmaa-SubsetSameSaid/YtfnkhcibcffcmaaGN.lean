/- Texts of this claim, joined: walks of small functions and plain facts about them. Conditions: as each says. -/
import Derived.Test.YtfnkhcibcffcmaaGM
/- A number put in its place: plain facts of ordered lists, and the walk of put. Conditions: none. -/
namespace Go.Cm
open Go.RowKit Go.Proofs

theorem asc_eq : ∀ {a b : List Nat}, a.Pairwise (· < ·) → b.Pairwise (· < ·) → (∀ x, x ∈ a ↔ x ∈ b) → a = b
  | [], [], _, _, _ => rfl
  | [], y :: b, _, _, h => absurd ((h y).2 (by simp)) (by simp)
  | x :: a, [], _, _, h => absurd ((h x).1 (by simp)) (by simp)
  | x :: a, y :: b, ha, hb, h => by
    have ha' := List.pairwise_cons.1 ha
    have hb' := List.pairwise_cons.1 hb
    have e : x = y := by
      have h1 := (h x).1 (by simp)
      have h2 := (h y).2 (by simp)
      rcases List.mem_cons.1 h1 with h3 | h3
      · exact h3
      · rcases List.mem_cons.1 h2 with h4 | h4
        · exact h4.symm
        · have := hb'.1 x h3
          have := ha'.1 y h4
          omega
    subst e
    rw [asc_eq ha'.2 hb'.2 fun z => ?_]
    constructor
    · intro hz
      have h1 := (h z).1 (List.mem_cons_of_mem _ hz)
      rcases List.mem_cons.1 h1 with h3 | h3
      · have := ha'.1 z hz; omega
      · exact h3
    · intro hz
      have h1 := (h z).2 (List.mem_cons_of_mem _ hz)
      rcases List.mem_cons.1 h1 with h3 | h3
      · have := hb'.1 z hz; omega
      · exact h3
theorem setL_asc (n : Nat) (P : Nat → Prop) : (setL n P).Pairwise (· < ·) := List.Pairwise.filter _ List.pairwise_lt_range
theorem asc_setL {n : Nat} {P : Nat → Prop} {l : List Nat} (h : l.Pairwise (· < ·)) (hm : ∀ x, x ∈ l ↔ x < n ∧ P x) : l = setL n P := asc_eq h (setL_asc n P) fun x => by rw [hm, mem_setL]
theorem asc_get {l : List Nat} (h : l.Pairwise (· < ·)) {i j : Nat} (hij : i < j) (hj : j < l.length) : l.getD i 0 < l.getD j 0 := by
  have := List.pairwise_iff_getElem.1 h i j (by omega) hj hij
  simpa [List.getD, hj, show i < l.length by omega] using this
/-- a number between the first i and the rest -/
theorem put_at {n k i : Nat} {P : Nat → Prop} (hk : k < n) (h1 : ∀ j, j < i → (setL n P).getD j 0 < k) (h2 : i < (setL n P).length → k < (setL n P).getD i 0) (hi : i ≤ (setL n P).length) :
    (setL n P).take i ++ [k] ++ (setL n P).drop i = setL n (fun x => P x ∨ x = k) := by
  have ha := setL_asc n P
  have hmem : ∀ x, x ∈ setL n P ↔ x < n ∧ P x := fun x => mem_setL
  generalize setL n P = l at *
  refine asc_setL ?_ fun x => ?_
  · rw [List.append_assoc, List.pairwise_append, List.singleton_append, List.pairwise_cons]
    refine ⟨List.Pairwise.take ha, ⟨fun y hy => ?_, List.Pairwise.drop ha⟩, fun x hx y hy => ?_⟩
    · obtain ⟨q, hq, rfl⟩ := List.getElem_of_mem hy
      rw [List.getElem_drop]
      rw [List.length_drop] at hq
      have h3 := h2 (by omega)
      rcases Nat.eq_zero_or_pos q with h0 | h0
      · subst h0
        simpa [List.getD, show i < l.length by omega] using h3
      · have := asc_get ha (show i < i + q by omega) (by omega)
        have e : l.getD (i + q) 0 = l[i + q] := by simp [List.getD, show i + q < l.length by omega]
        omega
    · obtain ⟨q, hq, rfl⟩ := List.getElem_of_mem hx
      rw [List.length_take] at hq
      rw [List.getElem_take]
      have h3 := h1 q (by omega)
      have e : l.getD q 0 = l[q] := by simp [List.getD, show q < l.length by omega]
      rcases List.mem_cons.1 hy with rfl | hy
      · omega
      · obtain ⟨z, hz, rfl⟩ := List.getElem_of_mem hy
        rw [List.length_drop] at hz
        rw [List.getElem_drop]
        have := asc_get ha (show q < i + z by omega) (by omega)
        have e2 : l.getD (i + z) 0 = l[i + z] := by simp [List.getD, show i + z < l.length by omega]
        omega
  · have e : x ∈ l.take i ++ [k] ++ l.drop i ↔ x ∈ l ∨ x = k := by
      conv => rhs; rw [← List.take_append_drop i l]
      simp only [List.mem_append, List.mem_singleton]
      constructor
      · rintro ((h | h) | h)
        · exact .inl (.inl h)
        · exact .inr h
        · exact .inl (.inr h)
      · rintro ((h | h) | h)
        · exact .inl (.inl h)
        · exact .inr h
        · exact .inl (.inr h)
    rw [e, hmem]
    constructor
    · rintro (⟨h, h'⟩ | rfl)
      · exact ⟨h, .inl h'⟩
      · exact ⟨hk, .inr rfl⟩
    · rintro ⟨h, h' | h'⟩
      · exact .inl ⟨h, h'⟩
      · exact .inr h'
theorem put_in {n k : Nat} {P : Nat → Prop} (h : k ∈ setL n P) : setL n P = setL n (fun x => P x ∨ x = k) :=
  setL_congr fun _ _ => ⟨.inl, fun hx => hx.elim id (fun e => e ▸ (mem_setL.1 h).2)⟩
theorem take_snoc (l : List Nat) (i : Nat) (h : i < l.length) : l.take (i + 1) = l.take i ++ [l.getD i 0] := by
  rw [List.take_succ_eq_append_getElem h]; simp [List.getD, h]
theorem Sl.from {P : Program} {w : World} {v : Value} {l : List Value} (h : Sl w v l) (t E : TypeId) (ht : P.underlying t = some (.slice E)) (hE : (P.info? E).map (·.size) = some 1) (n : Nat) (hn : n ≤ l.length) :
    ∃ u, (∀ W : World, (Instr.sliceAt t v (some (.int .i64 (n : Int))) none none).run P W = .ok u W) ∧ Sl w u (l.drop n) := by
  obtain ⟨oa, cap, b, off, rfl, hd, hc⟩ := h
  obtain ⟨h1, h2⟩ := run_cutK t E ht hE
  have hcap := hd.hcap
  have hl : (l.drop n).length = l.length - n := by rw [List.length_drop]
  refine ⟨sliced oa n l.length cap 1, fun W => ?_, ?_⟩
  · rw [run_sliceAt_slice (P := P) (t := t) (h := h1), run_slice_l (t := t) (ht := h1) (h0 := by omega) (h1 := by omega), h2]
    simp [Result.andThen]
  · refine ⟨if cap = n then oa else oa.map (·.add (n * 1)), cap - n, b, off + n, by rw [hl]; simp [sliced], ⟨fun h0 => ?_, by omega, by have := hd.hmax; omega, by have := hd.hsml; omega, fun h0 => hd.hblk (by omega)⟩, fun i hi => ?_⟩
    · rw [hl] at h0
      rw [if_neg (by omega), hd.hat (by omega)]
      simp [add_off]
    · rw [hl] at hi
      rw [Nat.add_assoc, hc (n + i) (by omega)]
      simp [List.getD]
theorem nz_drop (l : List Nat) (i : Nat) : (ints (nz l)).drop i = ints (nz (l.drop i)) := by simp [ints, nz, List.map_drop]

set_option maxRecDepth 100000 in
set_option maxHeartbeats 8000000 in
theorem putR {w : World} {v : Value} {n k : Nat} {P : Nat → Prop} (h : IntsAt w v (nz (setL n P))) (hk : k < n) (hn : n ≤ 100000) :
    Calls Try.prog 46 #[v, .int .i64 k] w fun e w' => ∃ u, e = .returned u ∧ IntsAt w' u (nz (setL n (fun x => P x ∨ x = k))) ∧ (∀ B, B ≤ w.heap.size → Own w B 3 v (ints (nz (setL n P))) → Own w' B 3 u (ints (nz (setL n (fun x => P x ∨ x = k))))) ∧ Below w.heap.size w w' := by
  have HFR := Lib.hid (fun (i : Nat) (hi : i ≤ (setL n P).length) => Sl.from (P := Try.prog) h 23 3 Try.underlying23 (by kernel_rfl) i (by simpa [nz] using hi))
  have HH := Lib.hid h
  have HPA := Lib.hid (fun (i : Nat) (h1 : ∀ j, j < i → (setL n P).getD j 0 < k) (h2 : i < (setL n P).length → k < (setL n P).getD i 0) (hi : i ≤ (setL n P).length) => put_at hk h1 h2 hi)
  have HPI := Lib.hid (fun (h : k ∈ setL n P) => put_in (n := n) (P := P) h)
  have hll : (setL n P).length ≤ 100000 := Nat.le_trans (setL_len n P) hn
  obtain ⟨oa, cap, b, off, rfl, hd, hc⟩ := h.open
  rw [nz_len] at hd hc ⊢
  generalize setL n (fun x => P x ∨ x = k) = L2 at *
  generalize setL n P = L at *
  rw [nz_len] at HFR HH
  have hix := fun (W : World) (i : Nat) (hi : i < L.length) => index_any (P := Try.prog) 23 3 Try.underlying23 (by kernel_rfl) hd W .i64 i (by omega) (by omega)
  simp only [Int.toNat_natCast] at hix
  have HB := Lib.hid hd.hblk
  have HC : Hid (∀ i, i < L.length → w.cell? ⟨b, off + i, none⟩ = some (.int .i64 ((L.getD i 0 : Nat) : Int))) := Lib.hid (fun i hi => by rw [hc i hi, nz_getD _ _ hi])
  have HTS := Lib.hid (fun i (hi : i < L.length) => take_snoc L i hi)
  obtain ⟨ln, hln⟩ : ∃ ln, ln = L.length := ⟨_, rfl⟩
  have HLN := Lib.hid hln
  rw [← hln] at hix HB HC HTS hll HFR HH HPA ⊢
  clear h hd hc hln
  have hk2 : k < 100000 := by omega
  go_enter Try.func46, Try.ntmps46
  go_wp2
  go_loopg [5, 6] ln (fun gk ov iv wr => ∃ i : Nat, iv = .int .i64 i ∧ i ≤ ln ∧ Own wr w.heap.size 3 ov (ints (nz (L.take i))) ∧ (∀ j, j < i → L.getD j 0 < k) ∧ Below w.heap.size w wr ∧ gk = ln - i)
  case atStart => exact ⟨0, rfl, Nat.zero_le _, by simpa [nz, ints] using Own.nil w w.heap.size 3, fun j hj => absurd hj (Nat.not_lt_zero j), Below.refl _ _, rfl⟩
  case round =>
    obtain ⟨i, rfl, hi, hown, hall, hbel, rfl⟩ := hrel
    have HO := Lib.hid hown
    have HAL := Lib.hid hall
    have HW := Lib.hid hbel
    have hsz := HW.out.size
    have hte : (L.take i).length ≤ 100000 := by rw [List.length_take]; omega
    clear hown hall hbel
    by_cases hlt : i < ln
    · have hbw0 := HB.out (by omega)
      have hcell := (HW.out.cell (p := ⟨b, off + i, none⟩) hbw0).trans (HC.out i hlt)
      have hbw : b < wr.heap.size := by omega
      have hixi := fun W => hix W i hlt
      have HTI := Lib.hid (HTS.out i hlt)
      have hmem : L.getD i 0 ∈ L := by have := HLN.out; simp [List.getD, show i < L.length by omega]
      obtain ⟨x, hx⟩ : ∃ x, x = L.getD i 0 := ⟨_, rfl⟩
      rw [← hx] at hcell HTI hmem
      have HX := Lib.hid hx
      have HMEM := Lib.hid hmem
      clear hx hmem
      by_cases h1 : x < k
      · have HLW := Lib.hid (below_alloc wr (.cells #[.int .i64 (x : Int)] 3))
        generalize L.take i = tk at *
        have HSL : Hid (Sl (wr.alloc (.cells #[.int .i64 (x : Int)] 3)) (.slice (some ⟨wr.heap.size, 0, none⟩) 1 1) (ints (nz [x]))) := Lib.hid (by simpa [ints, nz] using sl_lit wr #[.int .i64 (x : Int)] 3 (by simp))
        go_wp2_with (at_builtin; refine wpList_app rfl (.tmp 19) (.tmp 24) 23 rfl w.heap.size 3 (.int .i64 0) 8 Try.underlying23 (by kernel_rfl) rfl (by decide) u5 (ints (nz tk)) rfl (HO.out.up HLW.out) (.slice (some ⟨wr.heap.size, 0, none⟩) 1 1) (ints (nz [x])) rfl HSL.out (ints_sing _) (by simp [nz]; omega) (Nat.le_trans hsz HLW.out.size) ?_; intro v' w5 hown1 hg1 hk1; have HO1 := Lib.hid hown1; have HG1 := Lib.hid hg1; clear hown1 hg1 hk1)
        go_roundg (ln - (i + 1))
        case measure => omega
        case rel =>
          refine ⟨i + 1, by go_num, by omega, ?_, fun j hj => ?_, below_grown (HW.out.trans (HLW.out.mono hsz)) (Nat.le_trans hsz HLW.out.size) (HO.out.up HLW.out) HG1.out, rfl⟩
          · rw [HTI.out, nz_append, ints_app]; exact HO1.out
          · by_cases hji : j = i
            · rw [hji, ← HX.out]; exact h1
            · exact HAL.out j (by omega)
      · by_cases h2 : x = k
        · subst h2
          have HRE : Hid (L = L2) := Lib.hid (HPI.out HMEM.out)
          go_wp2
          go_ret
          exact ⟨_, rfl, by rw [← HRE.out]; exact HH.out.up HW.out, fun B _ hO => by rw [← HRE.out]; exact hO.up HW.out, HW.out⟩
        · have hbe : ((x : Int) == (k : Int)) = false := by simp; omega
          have HRE := Lib.hid (HPA.out i HAL.out (fun _ => by rw [← HX.out]; omega) hi)
          obtain ⟨uf, hcut, hsf⟩ := HFR.out i hi
          rw [nz_drop] at hsf
          have HSF := Lib.hid hsf
          have hdl : (L.drop i).length ≤ 100000 := by rw [List.length_drop]; have := HLN.out; omega
          have HLW := Lib.hid (below_alloc wr (.cells #[.int .i64 (k : Int)] 3))
          have HSL : Hid (Sl (wr.alloc (.cells #[.int .i64 (k : Int)] 3)) (.slice (some ⟨wr.heap.size, 0, none⟩) 1 1) (ints (nz [k]))) := Lib.hid (by simpa [ints, nz] using sl_lit wr #[.int .i64 (k : Int)] 3 (by simp))
          have h3 : ¬ x < k := h1
          generalize L.take i = tk at *
          generalize L.drop i = dr at *
          clear hsf h2
          go_wp2_with (first
            | (at_builtin; refine wpList_app rfl (.tmp 41) (.tmp 43) 23 rfl w.heap.size 3 (.int .i64 0) 8 Try.underlying23 (by kernel_rfl) rfl (by decide) u5 (ints (nz tk)) rfl (HO.out.up HLW.out) (.slice (some ⟨wr.heap.size, 0, none⟩) 1 1) (ints (nz [k])) rfl HSL.out (ints_sing _) (by simp [nz]; omega) (Nat.le_trans hsz HLW.out.size) ?_; intro v5 w5 hown1 hg1 hk1; have HB5 := Lib.hid (below_grown (HW.out.trans (HLW.out.mono hsz)) (Nat.le_trans hsz HLW.out.size) (HO.out.up HLW.out) hg1); have HO1 := Lib.hid hown1; clear hown1 hg1 hk1)
            | (at_builtin; refine wpList_app rfl (.tmp 45) (.tmp 48) 23 rfl w.heap.size 3 (.int .i64 0) 8 Try.underlying23 (by kernel_rfl) rfl (by decide) v5 (ints (nz tk) ++ ints (nz [k])) rfl HO1.out uf (ints (nz dr)) rfl (HSF.out.up HB5.out) (ints_sing _) (by simp [nz]; omega) HB5.out.size ?_; intro v6 w6 hown1 hg1 hk1; have HO2 := Lib.hid hown1; have HB6 := Lib.hid (below_grown HB5.out HB5.out.size HO1.out hg1); clear hown1 hg1 hk1))
          go_ret
          refine ⟨_, rfl, ?_, fun B hB _ => ?_, HB6.out⟩
          · rw [← HRE.out, nz_append, nz_append]
            show Sl _ _ (ints _)
            rw [ints_app, ints_app]
            exact HO2.out.sl
          · rw [← HRE.out, nz_append, nz_append, ints_app, ints_app]
            exact HO2.out.mono hB
    · have hie : i = ln := by omega
      subst hie
      have HRE := Lib.hid (HPA.out i HAL.out (fun hh => absurd hh hlt) hi)
      obtain ⟨uf, hcut, hsf⟩ := HFR.out i hi
      rw [nz_drop] at hsf
      have HSF := Lib.hid hsf
      have hdl : (L.drop i).length ≤ 100000 := by rw [List.length_drop]; have := HLN.out; omega
      have HLW := Lib.hid (below_alloc wr (.cells #[.int .i64 (k : Int)] 3))
      have HSL : Hid (Sl (wr.alloc (.cells #[.int .i64 (k : Int)] 3)) (.slice (some ⟨wr.heap.size, 0, none⟩) 1 1) (ints (nz [k]))) := Lib.hid (by simpa [ints, nz] using sl_lit wr #[.int .i64 (k : Int)] 3 (by simp))
      generalize L.take i = tk at *
      generalize L.drop i = dr at *
      clear hsf
      go_wp2_with (first
        | (at_builtin; refine wpList_app rfl (.tmp 41) (.tmp 43) 23 rfl w.heap.size 3 (.int .i64 0) 8 Try.underlying23 (by kernel_rfl) rfl (by decide) u5 (ints (nz tk)) rfl (HO.out.up HLW.out) (.slice (some ⟨wr.heap.size, 0, none⟩) 1 1) (ints (nz [k])) rfl HSL.out (ints_sing _) (by simp [nz]; omega) (Nat.le_trans hsz HLW.out.size) ?_; intro v5 w5 hown1 hg1 hk1; have HB5 := Lib.hid (below_grown (HW.out.trans (HLW.out.mono hsz)) (Nat.le_trans hsz HLW.out.size) (HO.out.up HLW.out) hg1); have HO1 := Lib.hid hown1; clear hown1 hg1 hk1)
        | (at_builtin; refine wpList_app rfl (.tmp 45) (.tmp 48) 23 rfl w.heap.size 3 (.int .i64 0) 8 Try.underlying23 (by kernel_rfl) rfl (by decide) v5 (ints (nz tk) ++ ints (nz [k])) rfl HO1.out uf (ints (nz dr)) rfl (HSF.out.up HB5.out) (ints_sing _) (by simp [nz]; omega) HB5.out.size ?_; intro v6 w6 hown1 hg1 hk1; have HO2 := Lib.hid hown1; have HB6 := Lib.hid (below_grown HB5.out HB5.out.size HO1.out hg1); clear hown1 hg1 hk1))
      go_ret
      refine ⟨_, rfl, ?_, fun B hB _ => ?_, HB6.out⟩
      · rw [← HRE.out, nz_append, nz_append]
        show Sl _ _ (ints _)
        rw [ints_app, ints_app]
        exact HO2.out.sl
      · rw [← HRE.out, nz_append, nz_append, ints_app, ints_app]
        exact HO2.out.mono hB
/-- .. of a list of one's own -/
theorem putRO {w : World} {B : Nat} {v : Value} {n k : Nat} {P : Nat → Prop} (h : Own w B 3 v (ints (nz (setL n P)))) (hB : B ≤ w.heap.size) (hk : k < n) (hn : n ≤ 100000) :
    Calls Try.prog 46 #[v, .int .i64 k] w fun e w' => ∃ u, e = .returned u ∧ Own w' B 3 u (ints (nz (setL n (fun x => P x ∨ x = k)))) ∧ Below w.heap.size w w' :=
  (putR (show IntsAt w v _ from h.sl) hk hn).mono fun _ _ ⟨u, h1, _, h2, h3⟩ => ⟨u, h1, h2 B hB h, h3⟩
end Go.Cm

/- The walk of the document's Closure. Conditions: none. -/
namespace Go.Cm
open Go.RowKit Go.Proofs

theorem setL_le (n : Nat) {P Q : Nat → Prop} (h : ∀ i, P i → Q i) : (setL n P).length ≤ (setL n Q).length := by
  induction n with
  | zero => exact Nat.le_refl _
  | succ n ih =>
    by_cases hp : P n
    · rw [(setL_succ_len n P).1 hp, (setL_succ_len n Q).1 (h _ hp)]; omega
    · rw [(setL_succ_len n P).2 hp]
      by_cases hq : Q n
      · rw [(setL_succ_len n Q).1 hq]; omega
      · rw [(setL_succ_len n Q).2 hq]; exact ih
theorem setL_same {n : Nat} {P Q : Nat → Prop} (h : ∀ i, P i → Q i) (hl : (setL n P).length = (setL n Q).length) : ∀ i, i < n → Q i → P i := by
  induction n with
  | zero => intro i hi; omega
  | succ n ih =>
    have hle := setL_le n h
    intro i hi hq
    by_cases hp : P n
    · rw [(setL_succ_len n P).1 hp, (setL_succ_len n Q).1 (h _ hp)] at hl
      rcases Nat.eq_or_lt_of_le (show i ≤ n by omega) with rfl | h1
      · exact hp
      · exact ih (by omega) i h1 hq
    · rw [(setL_succ_len n P).2 hp] at hl
      by_cases hqn : Q n
      · rw [(setL_succ_len n Q).1 hqn] at hl; omega
      · rw [(setL_succ_len n Q).2 hqn] at hl
        rcases Nat.eq_or_lt_of_le (show i ≤ n by omega) with rfl | h1
        · exact absurd hq hqn
        · exact ih hl i h1 hq
/-- what the sets of the document's Closure keep -/
structure ClI (e : List (List Ed)) (n : Nat) (S P : Nat → Prop) : Prop where
  base : ∀ i, S i → P i
  rch : ∀ i, P i → Rch e S i
  lt : ∀ i, P i → i < n
theorem cl_put {e : List (List Ed)} {n : Nat} {S P : Nat → Prop} (h : ClI e n S P) {a b : Nat} (ha : P a) (hf : Fr e a b) (hb : b < n) : ClI e n S (fun x => P x ∨ x = b) :=
  ⟨fun i hi => .inl (h.base i hi), fun i hi => hi.elim (h.rch i) (fun e => e ▸ .step (h.rch a ha) hf), fun i hi => hi.elim (h.lt i) (fun e => e ▸ hb)⟩
theorem cl_end {e : List (List Ed)} {n : Nat} {S P P0 : Nat → Prop} (h : ClI e n S P) (h0 : ∀ i, P0 i → P i) (hl : (setL n P).length = (setL n P0).length) (hc : ∀ q, q < (setL n P0).length → ∀ b, Fr e ((setL n P0).getD q 0) b → P b) : setL n P = setL n (Rch e S) := by
  refine setL_congr fun i hi => ⟨h.rch i, fun hr => Rch.least (M := P) h.base (fun a b ha hf => ?_) hr⟩
  have h1 := setL_same h0 hl.symm a (h.lt a ha) ha
  have h2 : a ∈ setL n P0 := mem_setL.2 ⟨h.lt a ha, h1⟩
  obtain ⟨q, hq, rfl⟩ := List.getElem_of_mem h2
  exact hc q hq b (by rw [show (setL n P0).getD q 0 = (setL n P0)[q] by simp [List.getD, hq]]; exact hf)
theorem inL_step (n : Nat) (st : List Int) (i : Nat) (hi : i < st.length) : (0 ≤ st.getD i 0 ∧ st.getD i 0 < n → setL n (InL n (st.take (i + 1))) = setL n (fun x => InL n (st.take i) x ∨ x = (st.getD i 0).toNat)) ∧ (¬ (0 ≤ st.getD i 0 ∧ st.getD i 0 < n) → setL n (InL n (st.take (i + 1))) = setL n (InL n (st.take i))) := by
  have e : st.take (i + 1) = st.take i ++ [st.getD i 0] := by rw [List.take_succ_eq_append_getElem hi]; simp [List.getD, hi]
  rw [e]
  constructor
  · intro h
    refine setL_congr fun x _ => ?_
    unfold InL
    rw [List.mem_append, List.mem_singleton]
    constructor
    · rintro ⟨h1, h2 | h2⟩
      · exact .inl ⟨h1, h2⟩
      · exact .inr (by omega)
    · rintro (⟨h1, h2⟩ | h2)
      · exact ⟨h1, .inl h2⟩
      · exact ⟨by omega, .inr (by omega)⟩
  · intro h
    refine setL_congr fun x _ => ?_
    unfold InL
    rw [List.mem_append, List.mem_singleton]
    constructor
    · rintro ⟨h1, h2 | h2⟩
      · exact ⟨h1, h2⟩
      · omega
    · rintro ⟨h1, h2⟩; exact ⟨h1, .inl h2⟩
set_option maxRecDepth 100000 in
set_option maxHeartbeats 8000000 in
theorem closureR {w : World} {A : Array Value} {e : List (List Ed)} {F : Int} {r : List Int} (h : NfaV w A e F r) {v : Value} {st : List Int} (hs : IntsAt w v st) :
    Calls Try.prog 28 #[.agg A, v] w fun en w' => ∃ u, en = .returned u ∧ Own w' w.heap.size 3 u (ints (nz (cloN e F r st))) ∧ Below w.heap.size w w' := by
  have HH := Lib.hid h
  obtain ⟨ve, vr, rfl, he, -⟩ := h
  obtain ⟨oe, ce, be, fe, rfl, hde, hce⟩ := he.open
  have hixe := index_row hde
  have hbe0 := hde.hblk
  have HCE := Lib.hid hce
  obtain ⟨R, hR⟩ : ∃ R, R = rightN e F r := ⟨_, rfl⟩
  have HR := Lib.hid hR
  obtain ⟨n, hn'⟩ : ∃ n, n = e.length := ⟨_, rfl⟩
  have HN := Lib.hid hn'
  rw [← hn'] at HH hixe hbe0 HCE ⊢
  have HA := Lib.hid (below_alloc w (.cells #[.slice oe n ce, .int .i64 F, vr] 25))
  have HRT := Lib.hid (rightD (HH.out.up HA.out))
  rw [← hR] at HRT
  have HBX := Lib.hid (by simpa using own_lit w 0 #[.slice oe n ce, .int .i64 F, vr] 25 (by simp) (Nat.zero_le _) : Own (w.alloc (.cells #[.slice oe n ce, .int .i64 F, vr] 25)) 0 25 (.slice (some ⟨w.heap.size, 0, none⟩) 3 3) [.slice oe n ce, .int .i64 F, vr])
  obtain ⟨os, cs, bs, fs, rfl, hds, hcs⟩ := hs.open
  have hixs := fun (W : World) (i : Nat) (hi : i < st.length) => index_any (P := Try.prog) 23 3 Try.underlying23 (by kernel_rfl) hds W .i64 i (by omega) (by omega)
  simp only [Int.toNat_natCast] at hixs
  have HBS := Lib.hid hds.hblk
  have HCS := Lib.hid hcs
  have hms := hds.len
  clear hde hce he hs hds hcs
  cases R with
  | false =>
    have HC : Hid (cloN e F r st = []) := Lib.hid (by unfold cloN; rw [if_neg (by rw [← hR]; decide)])
    clear hR hn'
    go_enter Try.func28, Try.ntmps28
    go_wp2_with ((with_reducible go_at_call 22); (with_reducible refine HRT.out.mono ?_); rintro en w1 ⟨rfl, x1, rfl⟩)
    go_ret
    exact ⟨_, rfl, by rw [HC.out]; exact Own.nil _ _ _, HA.out.trans ((ext_below _ x1).mono HA.out.size)⟩
  | true =>
    have hn := right_len hR.symm
    have HC : Hid (cloN e F r st = setL n (Rch e (InL n st))) := Lib.hid (by unfold cloN; rw [if_pos hR.symm, ← hn'])
    have HED : Hid (∀ i, i < n → ∀ j, j < (e.getD i []).length → edOk n ((e.getD i []).getD j zE) = true) := Lib.hid (fun i hi j hj => by rw [hn'] at hi ⊢; exact (row_iff.1 ((rightN_iff.1 hR.symm).2 i hi)).2 j hj)
    rw [← hn'] at hn
    have hbe := hbe0 (by omega)
    have HIS : Hid (∀ i, i < st.length → _) := Lib.hid (fun i hi => inL_step n st i hi)
    have HTK : Hid (st.take st.length = st) := Lib.hid (List.take_length)
    obtain ⟨ls, hls⟩ : ∃ ls, ls = st.length := ⟨_, rfl⟩
    have HLS := Lib.hid hls
    rw [← hls] at hixs HBS HCS hms HIS HTK ⊢
    clear hR hn' hbe0 hls
    go_enter Try.func28, Try.ntmps28
    go_upto_region 5 with ((with_reducible go_at_call 22); (with_reducible refine HRT.out.mono ?_); rintro en w1 ⟨rfl, x1, rfl⟩)
    have HB1 := Lib.hid (HA.out.trans ((ext_below _ x1).mono HA.out.size))
    have HBX1 := Lib.hid (HBX.out.up (ext_below _ x1))
    clear HA HBX HRT
    generalize ext (w.alloc (.cells #[.slice oe n ce, .int .i64 F, vr] 25)) x1 = w1 at *
    go_loopg [5, 6] ls (fun gk ov iv wr => ∃ i : Nat, iv = .int .i64 i ∧ i ≤ ls ∧ Own wr w.heap.size 3 ov (ints (nz (setL n (InL n (st.take i))))) ∧ Below w1.heap.size w1 wr ∧ gk = ls - i)
    case atStart =>
      refine ⟨0, rfl, Nat.zero_le _, ?_, Below.refl _ _, rfl⟩
      have e0 : setL n (InL n (st.take 0)) = [] := List.eq_nil_iff_forall_not_mem.2 fun x hx => by
        have := (mem_setL.1 hx).2.2; simp at this
      rw [e0]; exact Own.nil _ _ _
    case round =>
      obtain ⟨i, rfl, hi, hv, hbl, rfl⟩ := hrel
      have HV := Lib.hid hv
      have HW := Lib.hid hbl
      have HWW := Lib.hid (HB1.out.trans (hbl.mono HB1.out.size))
      have HX := Lib.hid (HBX1.out.up hbl)
      have x0 := HX.out.cell (i := 0) (by simp)
      simp only [List.getD_cons_zero] at x0
      have hwx : w.heap.size < wr.heap.size := HX.out.blk.2
      clear hv hbl
      by_cases hlt : i < ls
      · have hb0 := HBS.out (by omega)
        have hcell := (HWW.out.cell (p := ⟨bs, fs + i, none⟩) hb0).trans (HCS.out i hlt)
        have hbw : bs < wr.heap.size := by omega
        have hixi := fun W => hixs W i hlt
        have HSTP := Lib.hid (HIS.out i hlt)
        obtain ⟨x, hx⟩ : ∃ x, x = st.getD i 0 := ⟨_, rfl⟩
        rw [← hx] at hcell HSTP
        clear hx
        by_cases h1 : 0 ≤ x ∧ x < n
        · obtain ⟨k, rfl⟩ := Int.eq_ofNat_of_zero_le h1.1
          have hkn : k < n := by omega
          have HNX := Lib.hid (HSTP.out.1 h1)
          rw [Int.toNat_natCast] at HNX
          have HPU := Lib.hid (fun (x : World) (hb : Below wr.heap.size wr x) => putRO (HV.out.up hb) (by have h1 := HWW.out.size; have h2 := hb.size; omega) hkn (by omega))
          go_wp2
          go_quiet (fail)
          go_wp2_with ((with_reducible go_at_call 46); refine (HPU.out _ (below_drewN _ _)).mono ?_; rintro en w5 ⟨u, rfl, ho, hb⟩; have HO5 := Lib.hid ho; have HB5 := Lib.hid hb; clear ho hb)
          go_roundg (ls - (i + 1))
          case measure => omega
          case rel =>
            refine ⟨i + 1, by go_num, by omega, by rw [HNX.out]; exact HO5.out, HW.out.trans (((below_drewN wr _).trans HB5.out).mono HW.out.size), rfl⟩
        · have HNX := Lib.hid (HSTP.out.2 h1)
          by_cases hneg : 0 ≤ x
          · obtain ⟨k, rfl⟩ := Int.eq_ofNat_of_zero_le hneg
            have hkn : ¬ k < n := by omega
            have hkn2 : n ≤ k := by omega
            go_wp2
            go_quiet (fail)
            go_wp2
            go_roundg (ls - (i + 1))
            case measure => omega
            case rel => exact ⟨i + 1, by go_num, by omega, by rw [HNX.out]; exact HV.out.up (below_drewN _ _), b_drewN HW.out _, rfl⟩
          · have dneg : decide (0 ≤ x) = false := by simp; omega
            go_wp2
            go_quiet (fail)
            go_wp2
            go_roundg (ls - (i + 1))
            case measure => omega
            case rel => exact ⟨i + 1, by go_num, by omega, by rw [HNX.out]; exact HV.out.up (below_drewN _ _), b_drewN HW.out _, rfl⟩
      · have hie : i = ls := by omega
        subst hie
        have HV2 : Hid (Own wr w.heap.size 3 u5 (ints (nz (setL n (InL n st))))) := Lib.hid (by have := HV.out; rw [HTK.out] at this; exact this)
        clear HV HIS HCS HBS hixs
        go_wp2
        have HWO := HW
        have HC0 : Hid (ClI e n (InL n st) (InL n st)) := Lib.hid ⟨fun i hi => hi, fun i hi => .base hi, fun i hi => hi.1⟩
        clear HW HWW HX x0 hwx
        generalize wr = wo at *
        go_loopg [5] (n - (setL n (InL n st)).length) (fun gk ov wr => ∃ P : Nat → Prop, Own wr w.heap.size 3 ov (ints (nz (setL n P))) ∧ ClI e n (InL n st) P ∧ Below w1.heap.size w1 wr ∧ gk = n - (setL n P).length)
        case atStart => exact ⟨_, HV2.out, HC0.out, HWO.out, rfl⟩
        case round =>
          obtain ⟨P0, hv, hcl, hbl, rfl⟩ := hrel
          have HV := Lib.hid hv
          have HCL := Lib.hid hcl
          have HW := Lib.hid hbl
          have hl0n := setL_len n P0
          clear HV2 HC0 HWO hcl hbl
          obtain ⟨L0, hL0⟩ : ∃ L0, L0 = setL n P0 := ⟨_, rfl⟩
          have HL0 := Lib.hid hL0
          rw [← hL0] at hl0n hv
          obtain ⟨o0, c0, b0, f0, rfl, hd0, hc0⟩ := (show IntsAt wr _ (nz L0) from hv.sl).open
          rw [nz_len] at hd0 hc0 HV ⊢
          have hix0 := fun (W : World) (i : Nat) (hi : i < L0.length) => index_any (P := Try.prog) 23 3 Try.underlying23 (by kernel_rfl) hd0 W .i64 i (by omega) (by omega)
          simp only [Int.toNat_natCast] at hix0
          have HB0 := Lib.hid hd0.hblk
          have HC0 : Hid (∀ i, i < L0.length → wr.cell? ⟨b0, f0 + i, none⟩ = some (.int .i64 ((L0.getD i 0 : Nat) : Int))) := Lib.hid (fun i hi => by rw [hc0 i hi, nz_getD _ _ hi])
          have HLT0 : Hid (∀ q, q < L0.length → L0.getD q 0 < n ∧ P0 (L0.getD q 0)) := Lib.hid (fun q hq => by
            have hm : L0.getD q 0 ∈ L0 := by simp [List.getD, hq]
            rw [hL0, mem_setL, ← hL0] at hm
            exact hm)
          obtain ⟨l0, hl0⟩ : ∃ l0, l0 = L0.length := ⟨_, rfl⟩
          have HLL0 := Lib.hid hl0
          rw [← hl0] at hix0 HB0 HC0 HLT0 hl0n ⊢
          have hml0 : l0 ≤ 3000 := by omega
          clear hv hd0 hc0 hL0 hl0
          go_wp2
          have HVO := HV
          have HWO := HW
          have HB00 : Hid (0 < l0 → b0 < wr.heap.size) := Lib.hid HB0.out
          clear HV HW HB0
          generalize wr = wo at *
          go_loopg [5, 9] l0 (fun gk ov iv wr => ∃ (i : Nat) (P : Nat → Prop), iv = .int .i64 i ∧ i ≤ l0 ∧ Own wr w.heap.size 3 ov (ints (nz (setL n P))) ∧ ClI e n (InL n st) P ∧ (∀ x, P0 x → P x) ∧ (∀ q, q < i → ∀ b, Fr e (L0.getD q 0) b → P b) ∧ Below wo.heap.size wo wr ∧ gk = l0 - i)
          case atStart => exact ⟨0, P0, rfl, Nat.zero_le _, by have := HVO.out; rw [← HLL0.out] at this; exact this, HCL.out, fun x hx => hx, fun q hq => absurd hq (Nat.not_lt_zero q), Below.refl _ _, rfl⟩
          case round =>
            obtain ⟨i, P, rfl, hi, hv, hcl, hp0, hall, hbl, rfl⟩ := hrel
            have HV := Lib.hid hv
            have HCP := Lib.hid hcl
            have HP0 := Lib.hid hp0
            have HALL := Lib.hid hall
            have HW := Lib.hid hbl
            have HW1 := Lib.hid (HWO.out.trans (hbl.mono HWO.out.size))
            have HWW := Lib.hid (HB1.out.trans (HW1.out.mono HB1.out.size))
            clear hv hcl hp0 hall hbl HVO
            by_cases hlt : i < l0
            · have hb0 := HB00.out (by omega)
              obtain ⟨s, hs⟩ : ∃ s, s = L0.getD i 0 := ⟨_, rfl⟩
              have HS := Lib.hid hs
              have hsn := HLT0.out i hlt
              rw [← hs] at hsn
              have hc0 := HC0.out i hlt
              rw [← hs] at hc0
              have HSC : Hid (wo.cell? ⟨b0, f0 + i, none⟩ = some (.int .i64 (s : Int))) := Lib.hid hc0
              have hix0i := fun W => hix0 W i hlt
              obtain ⟨oi, ci, bi, fi, hrow, hdi, hcell⟩ := HCE.out s hsn.1
              have HROW := Lib.hid hrow
              have hixe2 := fun W => hixe W s hsn.1
              have hixi := index_edge hdi
              have hbi := hdi.hblk
              have hmi := hdi.len
              have HCI := Lib.hid hcell
              have HEDI := Lib.hid (HED.out s hsn.1)
              have hpn := setL_len n P
              obtain ⟨row, hrw⟩ : ∃ row, row = e.getD s [] := ⟨_, rfl⟩
              have HRO := Lib.hid hrw
              rw [← hrw] at HROW hixi hbi hmi HCI HEDI
              obtain ⟨ln, hln⟩ : ∃ ln, ln = row.length := ⟨_, rfl⟩
              have HLN := Lib.hid hln
              rw [← hln] at HROW hixi hbi hmi HCI HEDI
              have HSP : Hid (P0 s) := Lib.hid hsn.2
              have hsn1 := hsn.1
              clear hs hrow hdi hcell hrw hln hc0 hsn
              go_wp2
              have HVO := HV
              have HCPO := HCP
              have HP0O := HP0
              have HALLO := HALL
              have HWO2 := HW
              clear HV HCP HP0 HALL HW HW1 HWW
              generalize wr = wo2 at *
              go_loopg [5, 10] ln (fun gk ov jv wr => ∃ (j : Nat) (P : Nat → Prop), jv = .int .i64 j ∧ j ≤ ln ∧ Own wr w.heap.size 3 ov (ints (nz (setL n P))) ∧ ClI e n (InL n st) P ∧ (∀ x, P0 x → P x) ∧ (∀ q, q < i → ∀ b, Fr e (L0.getD q 0) b → P b) ∧ (∀ q, q < j → (row.getD q zE).free = true → ∀ b : Nat, (row.getD q zE).to = b → P b) ∧ Below wo.heap.size wo wr ∧ gk = ln - j)
              case atStart => exact ⟨0, P, rfl, Nat.zero_le _, HVO.out, HCPO.out, HP0O.out, HALLO.out, fun q hq => absurd hq (Nat.not_lt_zero q), HWO2.out, rfl⟩
              case round =>
                obtain ⟨j, P, rfl, hj, hv, hcl, hp0, hall, hallj, hbl, rfl⟩ := hrel
                have HV := Lib.hid hv
                have HCP := Lib.hid hcl
                have HP0 := Lib.hid hp0
                have HALL := Lib.hid hall
                have HALJ := Lib.hid hallj
                have HW := Lib.hid hbl
                have HW1 := Lib.hid (HWO.out.trans (hbl.mono HWO.out.size))
                have HWW := Lib.hid (HB1.out.trans (HW1.out.mono HB1.out.size))
                have HX := Lib.hid (HBX1.out.up HW1.out)
                have x0 := HX.out.cell (i := 0) (by simp)
                simp only [List.getD_cons_zero] at x0
                have hwx : w.heap.size < wr.heap.size := HX.out.blk.2
                have hcs := (HW.out.cell (p := ⟨b0, f0 + i, none⟩) hb0).trans HSC.out
                have hb0w : b0 < wr.heap.size := by have := HW.out.size; omega
                have hroww := (HWW.out.cell (p := ⟨be, fe + s, none⟩) hbe).trans HROW.out
                have hber : be < wr.heap.size := by have := HWW.out.size; omega
                clear hv hcl hp0 hall hallj hbl HVO HCPO HP0O HALLO HWO2
                by_cases hltj : j < ln
                · obtain ⟨ed, hed⟩ : ∃ ed, ed = row.getD j zE := ⟨_, rfl⟩
                  have HEE := Lib.hid hed
                  have hbi2 := hbi (by omega)
                  have HCD : Hid (∀ w', Below wr.heap.size wr w' → ∀ c, c < 6 → w'.cell? ⟨bi, fi + j * 6 + c, none⟩ = some ((edA ed).getD c undef)) := Lib.hid (by
                    intro w' hb c hcl
                    rw [((HWW.out.trans (hb.mono HWW.out.size)).cell (p := ⟨bi, fi + j * 6 + c, none⟩) hbi2), HCI.out j hltj c hcl, edC_get, hed])
                  have hok := HEDI.out j hltj
                  rw [← hed] at hok
                  obtain ⟨tq, fr', a, b, c', d⟩ := ed
                  unfold edA at HCD
                  simp only at HCD
                  have ht : 0 ≤ tq ∧ tq < n := by unfold edOk at hok; simp at hok; omega
                  obtain ⟨t, rfl⟩ := Int.eq_ofNat_of_zero_le ht.1
                  have htn : t < n := by omega
                  have hixj := fun W => hixi W j hltj
                  clear hed hok ht
                  go_wp2
                  go_quiet (fail)
                  go_wp2
                  have hZ := below_drewN wr nq
                  have z0 := (hZ.cell (p := ⟨w.heap.size, 0, none⟩) hwx).trans x0
                  have zc := (hZ.cell (p := ⟨b0, f0 + i, none⟩) hb0w).trans hcs
                  have zr := (hZ.cell (p := ⟨be, fe + s, none⟩) hber).trans hroww
                  have zw : w.heap.size < (wr.drewN nq).heap.size := hwx
                  have zb : b0 < (wr.drewN nq).heap.size := hb0w
                  have ze : be < (wr.drewN nq).heap.size := hber
                  have HZ := Lib.hid hZ
                  clear x0 hcs hroww hwx hb0w hber hZ
                  generalize wr.drewN nq = wz at *
                  refine wp_region_grow [0,1,2,3,4,5,6,7,8,9,10] [11,12] (by kernel_rfl) (by kernel_rfl) ?_
                  simp only [pick, List.map_cons, List.map_nil, List.getD_cons_zero, List.getD_cons_succ]
                  repeat (first | (go_big_quiet_want; refine quiet_load_cells 92 6 _ rfl bi (fi + j * 6) rfl _ rfl (fun w' hw' => HCD.out w' (by obtain ⟨y, rfl⟩ := hw'; exact HZ.out.trans ((ext_below _ y).mono HZ.out.size))) _ Try.underlying92 rfl (by kernel_rfl) ?_; go_simp; go_big_quiet_on) | go_big_quiet_step (fail))
                  refine wpQuiet_nil ?_
                  (unfold wpAct; go_wp2; refine ⟨(ex_ext (by repeat (first | exact Below.refl _ _ | assumption | refine b_drewN ?_ _ | refine Below.drew ?_ | refine b_ext' ?_ _ | refine b_alloc' ?_ _))), ?_⟩)
                  (unfold wpAct; go_wp2; refine ⟨(ex_ext (by repeat (first | exact Below.refl _ _ | assumption | refine b_drewN ?_ _ | refine Below.drew ?_ | refine b_ext' ?_ _ | refine b_alloc' ?_ _))), ?_⟩)
                  unfold wpAct
                  intro _
                  have hA6 := (below_alloc wz (.cells #[.int .i64 t, .bool fr', .int .u64 a, .int .u64 b, .int .u64 c', .int .u64 d] 92)).trans ((drew_b (wz.alloc (.cells #[.int .i64 t, .bool fr', .int .u64 a, .int .u64 b, .int .u64 c', .int .u64 d] 92))).mono (by simp))
                  have HA6 := Lib.hid (HZ.out.trans (hA6.mono HZ.out.size))
                  have q0 : (wz.alloc (.cells #[.int .i64 t, .bool fr', .int .u64 a, .int .u64 b, .int .u64 c', .int .u64 d] 92)).drew.cell? ⟨wz.heap.size, 0, none⟩ = some (.int .i64 t) := (World.cell?_alloc_new wz _ _ 0).trans rfl
                  have q1 : (wz.alloc (.cells #[.int .i64 t, .bool fr', .int .u64 a, .int .u64 b, .int .u64 c', .int .u64 d] 92)).drew.cell? ⟨wz.heap.size, 1, none⟩ = some (.bool fr') := (World.cell?_alloc_new wz _ _ 1).trans rfl
                  have qs : wz.heap.size < (wz.alloc (.cells #[.int .i64 t, .bool fr', .int .u64 a, .int .u64 b, .int .u64 c', .int .u64 d] 92)).drew.heap.size := by show wz.heap.size < (wz.alloc _).heap.size; simp
                  clear hA6 z0 zc zr zw zb ze HCD
                  generalize hwy : (wz.alloc (.cells #[.int .i64 t, .bool fr', .int .u64 a, .int .u64 b, .int .u64 c', .int .u64 d] 92)).drew = wy at *
                  generalize wz.heap.size = pz at *
                  clear hwy HZ
                  have HSM := Lib.hid (fun (hno : fr' = false) (P' : Nat → Prop) (hpp : ∀ x, P x → P' x) (q : Nat) (hq : q < j + 1) (hf : (row.getD q zE).free = true) (b' : Nat) (hb' : (row.getD q zE).to = b') => (show P' b' from by
                    by_cases hqj : q = j
                    · rw [hqj, ← HEE.out] at hf; rw [hno] at hf; cases hf
                    · exact hpp _ (HALJ.out q (by omega) hf b' hb')))
                  cases fr' with
                  | false =>
                    go_wp2
                    go_roundg (ln - (j + 1))
                    case measure => omega
                    case rel => exact ⟨j + 1, P, by go_num, by omega, HV.out.up HA6.out, HCP.out, HP0.out, HALL.out, fun q hq hf b' hb' => HSM.out (by trivial) P (fun x hx => hx) q hq hf b' hb', HW.out.trans (HA6.out.mono HW.out.size), rfl⟩
                  | true =>
                    have HFR : Hid (Fr e s t) := Lib.hid ⟨⟨t, true, a, b, c', d⟩, by rw [← HRO.out, HEE.out]; simp [List.getD, show j < row.length by have := HLN.out; omega], rfl, rfl⟩
                    have HPU := Lib.hid (putRO (HV.out.up HA6.out) (by have h1 := HWW.out.size; have h2 := HA6.out.size; omega) htn (by omega))
                    go_wp2_with ((with_reducible go_at_call 46); refine HPU.out.mono ?_; rintro en w5 ⟨u, rfl, ho, hb⟩; have HO5 := Lib.hid ho; have HB5 := Lib.hid hb; clear ho hb)
                    go_roundg (ln - (j + 1))
                    case measure => omega
                    case rel =>
                      refine ⟨j + 1, fun x => P x ∨ x = t, by go_num, by omega, HO5.out, cl_put HCP.out (HP0.out s HSP.out) HFR.out htn, fun x hx => .inl (HP0.out x hx), fun q hq b' hb' => .inl (HALL.out q hq b' hb'), fun q hq hf b' hb' => ?_, HW.out.trans ((HA6.out.trans (HB5.out.mono HA6.out.size)).mono HW.out.size), rfl⟩
                      by_cases hqj : q = j
                      · rw [hqj, ← HEE.out] at hb'
                        exact .inr (Int.ofNat.inj hb').symm
                      · exact .inl (HALJ.out q (by omega) hf b' hb')
                · go_wp2
                  go_quiet (fail)
                  go_wp2
                  go_roundg (l0 - (i + 1))
                  case measure => omega
                  case rel =>
                    refine ⟨i + 1, P, by go_num, by omega, HV.out.up (below_drewN _ _), HCP.out, HP0.out, fun q hq b' hb' => ?_, b_drewN HW.out _, rfl⟩
                    by_cases hqi : q = i
                    · rw [hqi, ← HS.out] at hb'
                      obtain ⟨x, hx, hf, ht⟩ := hb'
                      rw [← HRO.out] at hx
                      obtain ⟨p, hp, rfl⟩ := List.getElem_of_mem hx
                      have hg : row.getD p zE = row[p] := by simp [List.getD, hp]
                      exact HALJ.out p (by have := HLN.out; omega) (by rw [hg]; exact hf) b' (by rw [hg]; exact ht)
                    · exact HALL.out q (by omega) b' hb'
            · have hie : i = l0 := by omega
              obtain ⟨P', hP'⟩ : ∃ P', P' = P := ⟨_, rfl⟩
              have hle := setL_le n HP0.out
              have hle2 := setL_len n P
              have HEND := Lib.hid (fun (hl : (setL n P).length = (setL n P0).length) => cl_end HCP.out HP0.out hl (fun q hq b' hb' => HALL.out q (by rw [hie, HLL0.out, HL0.out]; exact hq) b' (by rw [HL0.out]; exact hb')))
              have HLE : Hid ((setL n P0).length = l0) := Lib.hid (by rw [HLL0.out, HL0.out])
              rw [HLE.out] at hle HEND
              obtain ⟨oq, cq, bq, fq, rfl, -, -⟩ := (show IntsAt wr _ (nz (setL n P)) from HV.out.sl).open
              rw [nz_len] at HV ⊢
              obtain ⟨lq, hlq⟩ : ∃ lq, lq = (setL n P).length := ⟨_, rfl⟩
              have HLQ := Lib.hid hlq
              rw [← hlq] at HV hle hle2 HEND ⊢
              clear hlq hP' hie
              by_cases hfin : lq = l0
              · subst hfin
                go_wp2
                go_ret
                refine ⟨_, rfl, ?_, HWW.out⟩
                rw [HC.out, ← HEND.out (by trivial)]
                exact HV.out
              · have hbe2 : ((lq : Int) == (l0 : Int)) = false := by simp; omega
                go_wp2
                go_roundg (n - lq)
                case measure => rw [HLE.out]; omega
                case rel => exact ⟨P, by rw [HLQ.out] at HV ⊢; exact HV.out, HCP.out, HW1.out, by rw [HLQ.out]⟩
end Go.Cm

/- The walk of the document's Step. Conditions: none. -/
namespace Go.Cm
open Go.RowKit Go.Proofs

noncomputable def stepG (e : List (List Ed)) (F : Int) (r st : List Int) (c : Nat) : List Nat := if rightN e F r then stepN e st c else []
/-- where the first i of a list lead by a byte -/
def ByTo (e : List (List Ed)) (n : Nat) (st : List Int) (c i b : Nat) : Prop := ∃ q, q < i ∧ ∃ a : Nat, st.getD q 0 = a ∧ a < n ∧ By1 e a c b
theorem byTo_all {e : List (List Ed)} {n : Nat} {st : List Int} {c : Nat} (b : Nat) : ByTo e n st c st.length b ↔ By e (InL n st) c b := by
  constructor
  · rintro ⟨q, hq, a, ha, han, h⟩
    exact ⟨a, ⟨han, by rw [← ha]; simp [List.getD, hq]⟩, h⟩
  · rintro ⟨a, ⟨han, hm⟩, h⟩
    obtain ⟨q, hq, e1⟩ := List.getElem_of_mem hm
    exact ⟨q, hq, a, by simp [List.getD, hq, e1], han, h⟩
theorem step_clo {e : List (List Ed)} {F : Int} {r st : List Int} {c : Nat} (h : rightN e F r = true) : cloN e F r (nz (setL e.length (By e (InL e.length st) c))) = stepN e st c := by
  unfold cloN stepN
  rw [if_pos h, inL_nz]
  have : (fun i => i < e.length ∧ By e (InL e.length st) c i) = By e (InL e.length st) c := by
    funext b
    refine propext ⟨fun hb => hb.2, fun hb => ⟨?_, hb⟩⟩
    obtain ⟨a, ⟨ha, -⟩, x, hx, -, -, ht⟩ := hb
    obtain ⟨j, hj, rfl⟩ := List.getElem_of_mem hx
    have h1 := (row_iff.1 ((rightN_iff.1 h).2 a ha)).2 j hj
    generalize e.getD a [] = row at *
    rw [show row.getD j zE = row[j] by simp [List.getD, hj]] at h1
    unfold edOk at h1
    rw [Bool.and_eq_true, decide_eq_true_iff] at h1
    omega
  rw [this]
set_option maxRecDepth 100000 in
set_option maxHeartbeats 8000000 in
theorem stepR {w : World} {A : Array Value} {e : List (List Ed)} {F : Int} {r : List Int} (h : NfaV w A e F r) (hsw : ∀ a x, x ∈ Row e a → SetW x) {v : Value} {st : List Int} (hs : IntsAt w v st) (c : Nat) (hc : c < 256) :
    Calls Try.prog 29 #[.agg A, v, .int .u8 c] w fun en w' => ∃ u, en = .returned u ∧ Own w' w.heap.size 3 u (ints (nz (stepG e F r st c))) ∧ Below w.heap.size w w' := by
  have HH := Lib.hid h
  obtain ⟨ve, vr, rfl, he, -⟩ := h
  obtain ⟨oe, ce, be, fe, rfl, hde, hce⟩ := he.open
  have hixe := index_row hde
  have hbe0 := hde.hblk
  have HCE := Lib.hid hce
  obtain ⟨R, hR⟩ : ∃ R, R = rightN e F r := ⟨_, rfl⟩
  have HR := Lib.hid hR
  obtain ⟨n, hn'⟩ : ∃ n, n = e.length := ⟨_, rfl⟩
  have HN := Lib.hid hn'
  rw [← hn'] at HH hixe hbe0 HCE ⊢
  have HA := Lib.hid (below_alloc w (.cells #[.slice oe n ce, .int .i64 F, vr] 25))
  have HRT := Lib.hid (rightD (HH.out.up HA.out))
  rw [← hR] at HRT
  have HBX := Lib.hid (by simpa using own_lit w 0 #[.slice oe n ce, .int .i64 F, vr] 25 (by simp) (Nat.zero_le _) : Own (w.alloc (.cells #[.slice oe n ce, .int .i64 F, vr] 25)) 0 25 (.slice (some ⟨w.heap.size, 0, none⟩) 3 3) [.slice oe n ce, .int .i64 F, vr])
  obtain ⟨os, cs, bs, fs, rfl, hds, hcs⟩ := hs.open
  have hixs := fun (W : World) (i : Nat) (hi : i < st.length) => index_any (P := Try.prog) 23 3 Try.underlying23 (by kernel_rfl) hds W .i64 i (by omega) (by omega)
  simp only [Int.toNat_natCast] at hixs
  have HBS := Lib.hid hds.hblk
  have HCS := Lib.hid hcs
  have hms := hds.len
  clear hde hce he hs hds hcs
  cases R with
  | false =>
    have HC : Hid (stepG e F r st c = []) := Lib.hid (by unfold stepG; rw [if_neg (by rw [← hR]; decide)])
    clear hR hn'
    go_enter Try.func29, Try.ntmps29
    go_wp2_with ((with_reducible go_at_call 22); (with_reducible refine HRT.out.mono ?_); rintro en w1 ⟨rfl, x1, rfl⟩)
    go_ret
    exact ⟨_, rfl, by rw [HC.out]; exact Own.nil _ _ _, HA.out.trans ((ext_below _ x1).mono HA.out.size)⟩
  | true =>
    have hn := right_len hR.symm
    have HC : Hid (stepG e F r st c = cloN e F r (nz (setL n (By e (InL n st) c)))) := Lib.hid (by unfold stepG; rw [if_pos hR.symm, hn', step_clo hR.symm])
    have HED : Hid (∀ i, i < n → ∀ j, j < (e.getD i []).length → edOk n ((e.getD i []).getD j zE) = true) := Lib.hid (fun i hi j hj => by rw [hn'] at hi ⊢; exact (row_iff.1 ((rightN_iff.1 hR.symm).2 i hi)).2 j hj)
    rw [← hn'] at hn
    have hbe := hbe0 (by omega)
    have HBA : Hid (∀ b, ByTo e n st c st.length b ↔ By e (InL n st) c b) := Lib.hid byTo_all
    obtain ⟨ls, hls⟩ : ∃ ls, ls = st.length := ⟨_, rfl⟩
    have HLS := Lib.hid hls
    rw [← hls] at hixs HBS HCS hms HBA ⊢
    clear hR hn' hbe0 hls
    go_enter Try.func29, Try.ntmps29
    go_upto_region 5 with ((with_reducible go_at_call 22); (with_reducible refine HRT.out.mono ?_); rintro en w1 ⟨rfl, x1, rfl⟩)
    have HB1 := Lib.hid (HA.out.trans ((ext_below _ x1).mono HA.out.size))
    have HBX1 := Lib.hid (HBX.out.up (ext_below _ x1))
    clear HA HBX HRT
    generalize ext (w.alloc (.cells #[.slice oe n ce, .int .i64 F, vr] 25)) x1 = w1 at *
    go_loopg [7, 8] ls (fun gk ov iv wr => ∃ (i : Nat) (P : Nat → Prop), iv = .int .i64 i ∧ i ≤ ls ∧ IntsAt wr ov (nz (setL n P)) ∧ (∀ b, P b ↔ ByTo e n st c i b) ∧ Below w1.heap.size w1 wr ∧ gk = ls - i)
    case atStart =>
      refine ⟨0, fun _ => False, rfl, Nat.zero_le _, ?_, fun b => ⟨fun h => h.elim, fun ⟨q, h, _⟩ => absurd h (Nat.not_lt_zero q)⟩, Below.refl _ _, rfl⟩
      have e0 : setL n (fun _ => False) = [] := List.eq_nil_iff_forall_not_mem.2 fun x hx => (mem_setL.1 hx).2
      rw [e0]; exact Sl.nil _
    case round =>
      obtain ⟨i, P, rfl, hi, hv, hpi, hbl, rfl⟩ := hrel
      have HV := Lib.hid hv
      have HPI := Lib.hid hpi
      have HW := Lib.hid hbl
      have HWW := Lib.hid (HB1.out.trans (hbl.mono HB1.out.size))
      have HX := Lib.hid (HBX1.out.up hbl)
      have x0 := HX.out.cell (i := 0) (by simp)
      simp only [List.getD_cons_zero] at x0
      have hwx : w.heap.size < wr.heap.size := HX.out.blk.2
      clear hv hbl hpi
      by_cases hlt : i < ls
      · have hb0 := HBS.out (by omega)
        have hcell := (HWW.out.cell (p := ⟨bs, fs + i, none⟩) hb0).trans (HCS.out i hlt)
        have hbw : bs < wr.heap.size := by omega
        have hixi := fun W => hixs W i hlt
        obtain ⟨x, hx⟩ : ∃ x, x = st.getD i 0 := ⟨_, rfl⟩
        have HXX := Lib.hid hx
        have HSK : Hid (¬ (0 ≤ x ∧ x < n) → ∀ b, P b ↔ ByTo e n st c (i + 1) b) := Lib.hid (fun hno b => by
          rw [HPI.out b]
          constructor
          · rintro ⟨q, h1, h2⟩; exact ⟨q, by omega, h2⟩
          · rintro ⟨q, h1, a, h2, h3, h4⟩
            by_cases hqi : q = i
            · rw [hqi, ← hx] at h2; exact absurd ⟨by omega, by omega⟩ hno
            · exact ⟨q, by omega, a, h2, h3, h4⟩)
        rw [← hx] at hcell
        have HCW := Lib.hid hcell
        clear hx
        by_cases hneg : x < 0
        · have HNX := Lib.hid (HSK.out (by omega))
          have dneg : decide (x < 0) = true := by simpa using hneg
          go_wp2
          go_quiet (fail)
          go_wp2
          go_roundg (ls - (i + 1))
          case measure => omega
          case rel => exact ⟨i + 1, P, by go_num, by omega, HV.out.up (below_drewN _ _), HNX.out, b_drewN HW.out _, rfl⟩
        · obtain ⟨s, rfl⟩ := Int.eq_ofNat_of_zero_le (show 0 ≤ x by omega)
          by_cases hsn : s < n
          · obtain ⟨oi, ci, bi, fi, hrow, hdi, hcell2⟩ := HCE.out s hsn
            have HROW := Lib.hid hrow
            have hixe2 := fun W => hixe W s hsn
            have hixi2 := index_edge hdi
            have hbi := hdi.hblk
            have hmi := hdi.len
            have HCI := Lib.hid hcell2
            have HEDI := Lib.hid (HED.out s hsn)
            obtain ⟨row, hrw⟩ : ∃ row, row = e.getD s [] := ⟨_, rfl⟩
            have HRO := Lib.hid hrw
            rw [← hrw] at HROW hixi2 hbi hmi HCI HEDI
            obtain ⟨ln, hln⟩ : ∃ ln, ln = row.length := ⟨_, rfl⟩
            have HLN := Lib.hid hln
            rw [← hln] at HROW hixi2 hbi hmi HCI HEDI
            clear hrow hdi hcell2 hrw hln
            have d0 : decide ((s : Int) < 0) = false := decide_eq_false (by omega)
            have d1 : decide (n ≤ s) = false := decide_eq_false (by omega)
            go_wp2
            go_quiet (fail)
            go_wp2
            have HVO := Lib.hid (HV.out.up (below_drewN wr nq))
            have HWO := Lib.hid (b_drewN HW.out nq)
            have HCO := Lib.hid (((below_drewN wr nq).cell (p := ⟨bs, fs + i, none⟩) hbw).trans HCW.out)
            have hbwo : bs < (wr.drewN nq).heap.size := hbw
            clear HV HW HWW HX x0 hwx hcell HCW hbw
            generalize wr.drewN nq = wo at *
            go_loopg [7, 9] ln (fun gk ov jv wr => ∃ (j : Nat) (P' : Nat → Prop), jv = .int .i64 j ∧ j ≤ ln ∧ IntsAt wr ov (nz (setL n P')) ∧ (∀ b, P' b ↔ P b ∨ ∃ q, q < j ∧ (row.getD q zE).free = false ∧ hasN (row.getD q zE) c = true ∧ (row.getD q zE).to = b) ∧ Below wo.heap.size wo wr ∧ gk = ln - j)
            case atStart => exact ⟨0, P, rfl, Nat.zero_le _, HVO.out, fun b => ⟨.inl, fun h => h.elim id (fun ⟨q, h, _⟩ => absurd h (Nat.not_lt_zero q))⟩, Below.refl _ _, rfl⟩
            case round =>
              obtain ⟨j, P', rfl, hj, hv, hpj, hbl, rfl⟩ := hrel
              have HV := Lib.hid hv
              have HPJ := Lib.hid hpj
              have HW := Lib.hid hbl
              have HW1 := Lib.hid (HWO.out.trans (hbl.mono HWO.out.size))
              have HWW := Lib.hid (HB1.out.trans (HW1.out.mono HB1.out.size))
              have HX := Lib.hid (HBX1.out.up HW1.out)
              have x0 := HX.out.cell (i := 0) (by simp)
              simp only [List.getD_cons_zero] at x0
              have hwx : w.heap.size < wr.heap.size := HX.out.blk.2
              have hcs := (HW.out.cell (p := ⟨bs, fs + i, none⟩) hbwo).trans HCO.out
              have hb0w : bs < wr.heap.size := by have := HW.out.size; omega
              have hroww := (HWW.out.cell (p := ⟨be, fe + s, none⟩) hbe).trans HROW.out
              have hber : be < wr.heap.size := by have := HWW.out.size; omega
              clear hv hpj hbl HVO
              by_cases hltj : j < ln
              · obtain ⟨ed, hed⟩ : ∃ ed, ed = row.getD j zE := ⟨_, rfl⟩
                have HEE := Lib.hid hed
                have hbi2 := hbi (by omega)
                have HCD : Hid (∀ w', Below wr.heap.size wr w' → ∀ c, c < 6 → w'.cell? ⟨bi, fi + j * 6 + c, none⟩ = some ((edA ed).getD c undef)) := Lib.hid (by
                  intro w' hb c hcl
                  rw [((HWW.out.trans (hb.mono HWW.out.size)).cell (p := ⟨bi, fi + j * 6 + c, none⟩) hbi2), HCI.out j hltj c hcl, edC_get, hed])
                have hok := HEDI.out j hltj
                rw [← hed] at hok
                have hsw2 : SetW ed := hsw s ed (by show ed ∈ e.getD s []; rw [← HRO.out, hed]; have := HLN.out; simp [List.getD, show j < row.length by omega])
                obtain ⟨tq, fr', a, b, c', d⟩ := ed
                unfold edA at HCD
                simp only at HCD
                have ht : 0 ≤ tq ∧ tq < n := by unfold edOk at hok; simp at hok; omega
                obtain ⟨t, rfl⟩ := Int.eq_ofNat_of_zero_le ht.1
                have htn : t < n := by omega
                have hixj := fun W => hixi2 W j hltj
                have HSW := Lib.hid hsw2
                clear hed hok ht hsw2
                go_wp2
                go_quiet (fail)
                go_wp2
                have hZ := below_drewN wr nq
                have z0 := (hZ.cell (p := ⟨w.heap.size, 0, none⟩) hwx).trans x0
                have zc := (hZ.cell (p := ⟨bs, fs + i, none⟩) hb0w).trans hcs
                have zr := (hZ.cell (p := ⟨be, fe + s, none⟩) hber).trans hroww
                have zw : w.heap.size < (wr.drewN nq).heap.size := hwx
                have zb : bs < (wr.drewN nq).heap.size := hb0w
                have ze : be < (wr.drewN nq).heap.size := hber
                have HZ := Lib.hid hZ
                clear x0 hcs hroww hwx hb0w hber hZ
                generalize wr.drewN nq = wz at *
                refine wp_region_grow [0,1,2,3,4,5,6,7,8,9,10] [11,12] (by kernel_rfl) (by kernel_rfl) ?_
                simp only [pick, List.map_cons, List.map_nil, List.getD_cons_zero, List.getD_cons_succ]
                repeat (first | (go_big_quiet_want; refine quiet_load_cells 92 6 _ rfl bi (fi + j * 6) rfl _ rfl (fun w' hw' => HCD.out w' (by obtain ⟨y, rfl⟩ := hw'; exact HZ.out.trans ((ext_below _ y).mono HZ.out.size))) _ Try.underlying92 rfl (by kernel_rfl) ?_; go_simp; go_big_quiet_on) | go_big_quiet_step (fail))
                refine wpQuiet_nil ?_
                (unfold wpAct; go_wp2; refine ⟨(ex_ext (by repeat (first | exact Below.refl _ _ | assumption | refine b_drewN ?_ _ | refine Below.drew ?_ | refine b_ext' ?_ _ | refine b_alloc' ?_ _))), ?_⟩)
                (unfold wpAct; go_wp2; refine ⟨(ex_ext (by repeat (first | exact Below.refl _ _ | assumption | refine b_drewN ?_ _ | refine Below.drew ?_ | refine b_ext' ?_ _ | refine b_alloc' ?_ _))), ?_⟩)
                unfold wpAct
                intro _
                have hA6 := (below_alloc wz (.cells #[.int .i64 t, .bool fr', .int .u64 a, .int .u64 b, .int .u64 c', .int .u64 d] 92)).trans ((drew_b (wz.alloc (.cells #[.int .i64 t, .bool fr', .int .u64 a, .int .u64 b, .int .u64 c', .int .u64 d] 92))).mono (by simp))
                have HA6 := Lib.hid (HZ.out.trans (hA6.mono HZ.out.size))
                have qc : ∀ k v, (#[.int .i64 t, .bool fr', .int .u64 a, .int .u64 b, .int .u64 c', .int .u64 d] : Array Value)[k]? = some v → (wz.alloc (.cells #[.int .i64 t, .bool fr', .int .u64 a, .int .u64 b, .int .u64 c', .int .u64 d] 92)).drew.cell? ⟨wz.heap.size, k, none⟩ = some v := fun k v hv => (World.cell?_alloc_new wz _ _ k).trans hv
                have q0 := qc 0 (.int .i64 t) rfl
                have q1 := qc 1 (.bool fr') rfl
                have q2 := qc 2 (.int .u64 a) rfl
                have q3 := qc 3 (.int .u64 b) rfl
                have q4 := qc 4 (.int .u64 c') rfl
                have q5 := qc 5 (.int .u64 d) rfl
                have qs : wz.heap.size < (wz.alloc (.cells #[.int .i64 t, .bool fr', .int .u64 a, .int .u64 b, .int .u64 c', .int .u64 d] 92)).drew.heap.size := by show wz.heap.size < (wz.alloc _).heap.size; simp
                clear hA6 z0 zc zr zw zb ze HCD qc
                generalize hwy : (wz.alloc (.cells #[.int .i64 t, .bool fr', .int .u64 a, .int .u64 b, .int .u64 c', .int .u64 d] 92)).drew = wy at *
                generalize wz.heap.size = pz at *
                clear hwy HZ
                have HSAME : Hid ((fr' = true ∨ hasN ⟨(t : Int), fr', a, b, c', d⟩ c = false) → ∀ bb, P' bb ↔ P bb ∨ ∃ q, q < j + 1 ∧ (row.getD q zE).free = false ∧ hasN (row.getD q zE) c = true ∧ (row.getD q zE).to = bb) := Lib.hid (fun hno bb => by
                  rw [HPJ.out bb]
                  refine or_congr Iff.rfl ⟨fun ⟨q, h1, h2⟩ => ⟨q, by omega, h2⟩, fun ⟨q, h1, h2, h3, h4⟩ => ?_⟩
                  by_cases hqj : q = j
                  · rw [hqj, ← HEE.out] at h2 h3
                    rcases hno with hno | hno
                    · rw [hno] at h2; cases h2
                    · rw [hno] at h3; cases h3
                  · exact ⟨q, by omega, h2, h3, h4⟩)
                have HHS := Lib.hid (fun (x : World) => hasR (w := x) ⟨(t : Int), fr', a, b, c', d⟩ HSW.out c hc)
                cases fr' with
                | true =>
                  go_wp2
                  go_roundg (ln - (j + 1))
                  case measure => omega
                  case rel => exact ⟨j + 1, P', by go_num, by omega, HV.out.up HA6.out, HSAME.out (.inl (by trivial)), HW.out.trans (HA6.out.mono HW.out.size), rfl⟩
                | false =>
                  obtain ⟨hv, hhv⟩ : ∃ hv, hv = hasN ⟨(t : Int), false, a, b, c', d⟩ c := ⟨_, rfl⟩
                  have HHV := Lib.hid hhv
                  rw [← hhv] at HSAME HHS
                  clear hhv
                  cases hv with
                  | false =>
                    go_wp2_with ((with_reducible go_at_call 41); refine (HHS.out _).mono ?_; rintro en w7 ⟨rfl, x7, rfl⟩)
                    go_roundg (ln - (j + 1))
                    case measure => omega
                    case rel => exact ⟨j + 1, P', by go_num, by omega, (HV.out.up HA6.out).up (ext_below _ x7), HSAME.out (.inr (by trivial)), HW.out.trans ((HA6.out.trans ((ext_below _ x7).mono HA6.out.size)).mono HW.out.size), rfl⟩
                  | true =>
                    have HPU := Lib.hid (fun (x : World) (hb : Below wy.heap.size wy x) => putR ((HV.out.up HA6.out).up hb) htn (by omega))
                    go_wp2_with (first
                      | ((with_reducible go_at_call 41); refine (HHS.out _).mono ?_; rintro en w7 ⟨rfl, x7, rfl⟩)
                      | ((with_reducible go_at_call 46); refine (HPU.out _ (ext_below wy x7)).mono ?_; rintro en w8 ⟨u, rfl, ho, -, hb⟩; have HO8 := Lib.hid ho; have HB8 := Lib.hid ((ext_below wy x7).trans (hb.mono (ext_below wy x7).size)); clear ho hb))
                    go_roundg (ln - (j + 1))
                    case measure => omega
                    case rel =>
                      refine ⟨j + 1, fun x => P' x ∨ x = t, by go_num, by omega, HO8.out, fun bb => ?_, HW.out.trans ((HA6.out.trans (HB8.out.mono HA6.out.size)).mono HW.out.size), rfl⟩
                      show (P' bb ∨ bb = t) ↔ _
                      rw [HPJ.out bb]
                      constructor
                      · rintro ((h | ⟨q, h1, h2⟩) | rfl)
                        · exact .inl h
                        · exact .inr ⟨q, by omega, h2⟩
                        · exact .inr ⟨j, by omega, by rw [← HEE.out], by rw [← HEE.out, HHV.out], by rw [← HEE.out]⟩
                      · rintro (h | ⟨q, h1, h2, h3, h4⟩)
                        · exact .inl (.inl h)
                        · by_cases hqj : q = j
                          · rw [hqj, ← HEE.out] at h4
                            exact .inr (Int.ofNat.inj h4).symm
                          · exact .inl (.inr ⟨q, by omega, h2, h3, h4⟩)
              · go_wp2
                go_quiet (fail)
                go_wp2
                go_roundg (ls - (i + 1))
                case measure => omega
                case rel =>
                  refine ⟨i + 1, P', by go_num, by omega, HV.out.up (below_drewN _ _), fun b => ?_, b_drewN HW1.out _, rfl⟩
                  rw [HPJ.out b, HPI.out b]
                  constructor
                  · rintro (⟨q, h1, h2⟩ | ⟨q, h1, h2, h3, h4⟩)
                    · exact ⟨q, by omega, h2⟩
                    · refine ⟨i, by omega, s, HXX.out.symm, hsn, row.getD q zE, ?_, h2, h3, h4⟩
                      rw [← HRO.out]
                      have := HLN.out
                      simp [List.getD, show q < row.length by omega]
                  · rintro ⟨q, h1, a, h2, h3, h4⟩
                    by_cases hqi : q = i
                    · rw [hqi, ← HXX.out] at h2
                      obtain rfl : s = a := Int.ofNat.inj h2
                      obtain ⟨x, hx, h4, h5, h6⟩ := h4
                      rw [← HRO.out] at hx
                      obtain ⟨p, hp, rfl⟩ := List.getElem_of_mem hx
                      have hg : row.getD p zE = row[p] := by simp [List.getD, hp]
                      exact .inr ⟨p, by have := HLN.out; omega, by rw [hg]; exact h4, by rw [hg]; exact h5, by rw [hg]; exact h6⟩
                    · exact .inl ⟨q, by omega, a, h2, h3, h4⟩
          · have HNX := Lib.hid (HSK.out (by omega))
            have hkn2 : n ≤ s := by omega
            go_wp2
            go_quiet (fail)
            go_wp2
            go_roundg (ls - (i + 1))
            case measure => omega
            case rel => exact ⟨i + 1, P, by go_num, by omega, HV.out.up (below_drewN _ _), HNX.out, b_drewN HW.out _, rfl⟩
      · have hie : i = ls := by omega
        subst hie
        have HPB : Hid (setL n P = setL n (By e (InL n st) c)) := Lib.hid (setL_congr fun b _ => (HPI.out b).trans (HBA.out b))
        have HCLO := Lib.hid (closureR (HH.out.up HWW.out) HV.out)
        rw [HPB.out, ← HC.out] at HCLO
        go_wp2_with (first
          | (refine wpList_load_cells rfl 25 _ rfl w.heap.size 0 3 rfl #[.slice oe n ce, .int .i64 F, vr] _ (nfaBox HX.out) rfl Try.underlying25 rfl (by kernel_rfl) ?_)
          | ((with_reducible go_at_call 28); refine HCLO.out.mono ?_; rintro en w5 ⟨u, rfl, ho, hb⟩; have HO5 := Lib.hid ho; have HB5 := Lib.hid hb; clear ho hb))
        go_ret
        exact ⟨_, rfl, HO5.out.mono HWW.out.size, HWW.out.trans (HB5.out.mono HWW.out.size)⟩
end Go.Cm

/- The walk of the document's Run. Conditions: none. -/
namespace Go.Cm
open Go.RowKit Go.Proofs

end Go.Cm
