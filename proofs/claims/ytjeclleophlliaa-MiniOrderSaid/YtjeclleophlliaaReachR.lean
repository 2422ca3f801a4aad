/- The walk of the document's Reached. Conditions: the argument reads as an automaton. -/
import Derived.Test.YtjeclleophlliaaOwn
import Derived.Test.YtjeclleophlliaaDfaY
import Derived.Test.YtjeclleophlliaaMiniM
namespace Go.Cm
open Go.RowKit Go.Proofs

theorem valid_row {d : Dfa} (h : Valid d) {i : Nat} (hi : i < d.next.length) : (∀ j, j < (d.next.getD i []).length → 0 ≤ (d.next.getD i []).getD j 0 ∧ (d.next.getD i []).getD j 0 < d.next.length) ∧ (d.next.getD i []).length ≤ 256 ∨ d.cls.length ≠ 256 := by
  obtain ⟨h1, h2, h3, k, hk, hr⟩ := h
  obtain ⟨-, -, hl, hj⟩ := hr i hi
  by_cases hc : d.cls.length = 256
  · refine .inl ⟨hj, ?_⟩
    have := classesFrom_mono d.cls 0 k hk
    omega
  · exact .inr hc

theorem rowN_getD (d : Dfa) (i j : Nat) (hj : j < (d.next.getD i []).length) : (rowN d i).getD j 0 = ((d.next.getD i []).getD j 0).toNat := by
  simp only [rowN, List.getD_eq_getElem?_getD, List.getElem?_map] at hj ⊢
  rw [List.getElem?_eq_getElem hj]; rfl
theorem rowN_length (d : Dfa) (i : Nat) : (rowN d i).length = (d.next.getD i []).length := by simp [rowN]

/-- a call that hands back a list of ints in new memory -/
def RetInts (l : List Int) (w : World) (e : Ending) (w' : World) : Prop := ∃ r, e = .returned r ∧ IntsAt w' r l ∧ Below w.heap.size w w'
open Classical in
noncomputable def reachI (d : Dfa) : List Int := if Valid d then nl (reach d) else []
theorem reachI_yes {d : Dfa} (h : Valid d) : reachI d = nl (reach d) := by unfold reachI; rw [if_pos h]
theorem reachI_no {d : Dfa} (h : ¬ Valid d) : reachI d = [] := by unfold reachI; rw [if_neg h]
theorem getD_nl_ints (l : List Nat) (k : Nat) (h : k < l.length) : (ints (nl l)).getD k undef = .int .i64 ((l.getD k 0 : Nat) : Int) := by
  rw [ints_getD _ _ (by simpa using h), nl_getD]
theorem ints_append (a b : List Int) : ints (a ++ b) = ints a ++ ints b := by simp [ints]
theorem ints_one (l : List Int) : ∀ u ∈ ints l, u.oneCell' = true := by
  intro u hu; simp only [ints, List.mem_map] at hu; obtain ⟨b, -, rfl⟩ := hu; rfl

set_option maxRecDepth 100000 in
set_option maxHeartbeats 2000000 in
theorem reachedR (v : Value) (d : Dfa) (w : World) (h : DfaAt w v d) : Calls Try.prog 16 #[v] w (RetInts (reachI d) w) := by
  have hL := fun w' (hb : Below w.heap.size w w') => rightR v d w' (h.up hb)
  have hAm := fun (w' : World) (p : Value) (l : List Int) (n : Int) (hi : IntsAt w' p l) => among p l n w' hi
  obtain ⟨A, rfl, hs, hl, hc, ⟨vn, hn, hrow⟩, ⟨vr, hr, hru⟩⟩ := h
  obtain ⟨oa, cap, b, off, rfl, hd, hro⟩ := hrow.open
  have hix := index_any (P := Try.prog) 23 24 Try.underlying23 (by kernel_rfl) hd
  have hm := hd.len
  have HL := Lib.hid hL; clear hL
  have HS := Lib.hid hs; clear hs hc
  have HG := Lib.hid (heap_alloc_new w (.cells A 26))
  have HR := Lib.hid hro; clear hro
  have HLC := Lib.hid hl; clear hl
  have HAM := Lib.hid hAm; clear hAm
  by_cases hv : Valid d
  · have hrb := rightB_true hv
    have HRI := Lib.hid (reachI_yes hv)
    have hn1 := hv.1
    have hn2 := hv.2.1
    have HV := Lib.hid hv; clear hv
    have hb := hd.hblk (by omega)
    go_enter Try.func16, Try.ntmps16
    go_wp2_with (first | (refine load_dfa rfl _ rfl w.heap.size rfl A HS.out HG.out ?_) | (go_at_call 17; refine (HL.out _ (below_alloc _ _)).mono ?_; rintro e w' ⟨rfl, x, rfl⟩; rw [hrb]))
    have hbel0 : Below (w.heap.size + 1) (w.alloc (.cells A 26)) (ext (w.alloc (.cells A 26)) x) := (ext_below _ _).mono (by simp)
    generalize ext (w.alloc (.cells A 26)) x = w1 at *
    have hO : Own (w1.alloc (.cells #[.int .i64 0] 3)) (w.heap.size + 1) 3 (.slice (some ⟨w1.heap.size, 0, none⟩) 1 1) (ints (nl [0])) := by
      have h1 := own_lit w1 (w.heap.size + 1) #[.int .i64 0] 3 (by simp) (by have := hbel0.size; simpa using this)
      simpa [nl, ints] using h1
    have HB0 := Lib.hid (hbel0.alloc (by have := hbel0.size; simpa using this) (.cells #[.int .i64 0] 3)); clear hbel0
    have HO := Lib.hid hO; clear hO
    go_loopw [3, 4] (fun vo i wr => ∃ (k : Nat) (out : List Nat), k ≤ out.length ∧ i = .int .i64 k ∧ Own wr (w.heap.size + 1) 3 vo (ints (nl out)) ∧ Hid (out.Nodup) ∧ Hid (∀ x ∈ out, x < d.next.length) ∧ out.length ≤ d.next.length ∧ Hid (reach d = reachFrom d (d.next.length + 1 - k) k out) ∧ Below (w.heap.size + 1) (w.alloc (.cells A 26)) wr) (fun _ i _ => d.next.length + 1 - (intOf i).toNat)
    case atStart => exact ⟨0, [0], Nat.zero_le _, rfl, HO.out, Lib.hid (by simp), Lib.hid (by simp; omega), by simpa using hn1, Lib.hid rfl, HB0.out⟩
    case round =>
      clear HO HB0
      obtain ⟨k, out, hk, rfl, hown, HND, HLT, hol, HRE, hbel⟩ := hrel
      have hsz : w.heap.size + 1 ≤ wr.heap.size := by have := hbel.size; simpa using this
      have HB := Lib.hid hbel; clear hbel
      obtain ⟨oo, oc, g, rfl, hdo, hgo, hco, hfo, hst⟩ := hown.cases
      simp only [ints_length, nl_length] at hdo hco hown ⊢
      have HO := Lib.hid hown; clear hown hst hfo
      have hixo := index_any (P := Try.prog) 24 3 Try.underlying24 (by kernel_rfl) hdo
      by_cases hlt : k < out.length
      · have hco1 := hco k hlt
        rw [getD_nl_ints out k hlt] at hco1
        have hsn := HLT.out _ (getD_mem out k 0 hlt)
        have HG0 : Hid (reach d = reachFrom d (d.next.length - k) (k + 1) (scanRow out (rowN d (out.getD k 0)))) := Lib.hid (by
          rw [HRE.out, show d.next.length + 1 - k = (d.next.length - k) + 1 by omega, reachFrom, if_pos hlt])
        clear HRE
        generalize out.getD k 0 = s at *
        obtain ⟨oi, ci, bi, fi, hck, hdk, hcj, hrowk⟩ := HR.out s hsn
        have HVR := Lib.hid ((valid_row HV.out hsn).resolve_right (fun h => h HLC.out))
        have HRN := Lib.hid (rowN_getD d s)
        have HRL := Lib.hid (rowN_length d s)
        have HSP := Lib.hid (scanRow_spec (rowN d s) out)
        have hixk := index_any (P := Try.prog) 24 3 Try.underlying24 (by kernel_rfl) hdk
        have hbi := hdk.hblk
        have hlk := hdk.hsml
        generalize rowN d s = rn at *
        generalize d.next.getD s [] = row at *
        have HCJ := Lib.hid hcj; clear hcj
        have HDK := Lib.hid hdk; clear hdk
        have hcw : wr.cell? ⟨b, off + s, none⟩ = some (.slice oi row.length ci) := by
          rw [HB.out.cell (p := ⟨b, off + s, none⟩) (Nat.lt_succ_of_lt hb), World.cell?_alloc_past _ _ _ hb]; exact hck
        have hbn : wr.cell? ⟨w.heap.size, 256, none⟩ = some (.slice oa d.next.length cap) := by
          rw [HB.out.cell (p := ⟨w.heap.size, 256, none⟩) (Nat.lt_succ_self _), World.cell?_alloc_new]; exact hn
        clear hco hck
        go_wp2
        go_quiet (fail)
        go_wp2
        obtain ⟨wo, rfl⟩ : ∃ wo : World, wo = wr := ⟨_, rfl⟩
        have hbel := HB.out
        have hown := HO.out
        go_loopw [3, 6] (fun vo i wr => ∃ (j : Nat) (o2 : List Nat), j ≤ row.length ∧ i = .int .i64 j ∧ Own wr (w.heap.size + 1) 3 vo (ints (nl o2)) ∧ Hid (o2 = scanRow out (rn.take j)) ∧ o2.length ≤ d.next.length ∧ Hid (o2.Nodup) ∧ Hid (∀ x ∈ o2, x < d.next.length) ∧ Below (w.heap.size + 1) (w.alloc (.cells A 26)) wr) (fun _ i _ => row.length - (intOf i).toNat)
        case atStart => exact ⟨0, out, Nat.zero_le _, rfl, hown.up (below_drewN _ _), Lib.hid (by simp [scanRow]), hol, HND, HLT, b_drewN hbel _⟩
        case round =>
          clear hbel hown
          obtain ⟨j, o2, hj, rfl, hown, HO2, ho2, HND2, HLT2, hbel⟩ := hrel
          have hsz : w.heap.size + 1 ≤ wr.heap.size := by have := hbel.size; simpa using this
          have HBB := Lib.hid hbel; clear hbel
          have HOO := Lib.hid hown; clear hown
          by_cases hltj : j < row.length
          · have hbi' := hbi (by omega)
            have hbi2 : bi < wr.heap.size := by omega
            have hcell : wr.cell? ⟨bi, fi + j, none⟩ = some (.int .i64 (row.getD j 0)) := by
              rw [HBB.out.cell (p := ⟨bi, fi + j, none⟩) (Nat.lt_succ_of_lt hbi'), World.cell?_alloc_past _ _ _ hbi']; exact HCJ.out j hltj
            obtain ⟨hy1, hy2⟩ := HVR.out.1 j hltj
            have HRJ := Lib.hid (HRN.out j hltj)
            have HTS := Lib.hid (scanRow_take_succ out rn j (by rw [HRL.out]; exact hltj))
            generalize row.getD j 0 = y at *
            obtain ⟨q, rfl⟩ := Int.eq_ofNat_of_zero_le hy1
            have hq : q < d.next.length := by omega
            have HQ : Hid (rn.getD j 0 = q) := Lib.hid (by rw [HRJ.out]; rfl)
            clear HRJ hy1 hy2
            by_cases hmem : q ∈ o2
            · have hdec : decide ((q : Int) ∈ nl o2) = true := by simpa [mem_nl] using hmem
              have HM := Lib.hid hmem; clear hmem
              go_wp2_with (go_at_call 26; refine (HAM.out _ u3 (nl o2) q HOO.out.sl).mono ?_; rintro e w' ⟨rfl, x, rfl⟩; rw [hdec])
              go_roundw
              case rel =>
                refine ⟨j + 1, o2, by omega, by go_num, HOO.out.up (by repeat (first | exact Below.refl _ _ | assumption | refine b_drewN ?_ _ | refine Below.drew ?_ | refine b_ext' ?_ _ | refine b_alloc' ?_ _)), Lib.hid ?_, ho2, HND2, HLT2, b_ext HBB.out hsz _⟩
                rw [HTS.out, HQ.out, ← HO2.out, pushNew, if_pos HM.out]
              case measure => simp [intOf]; omega
            · have hdec : decide ((q : Int) ∈ nl o2) = false := by simpa [mem_nl] using hmem
              have HM := Lib.hid hmem; clear hmem
              have HPN : Hid (pushNew o2 q = o2 ++ [q]) := Lib.hid (by unfold pushNew; rw [if_neg HM.out])
              have HN3 := Lib.hid (pushNew_nodup (to := q) HND2.out)
              have HL3 : Hid (∀ x ∈ o2 ++ [q], x < d.next.length) := Lib.hid (fun x hx => by
                rcases List.mem_append.1 hx with h | h
                · exact HLT2.out x h
                · simp at h; omega)
              have hlen3 : (o2 ++ [q]).length ≤ d.next.length := nodup_bound (by rw [← HPN.out]; exact HN3.out) HL3.out
              have HLen := Lib.hid hlen3; clear hlen3
              go_wp2_with (first | (go_at_call 26; refine (HAM.out _ u3 (nl o2) q HOO.out.sl).mono ?_; rintro e w' ⟨rfl, x, rfl⟩; rw [hdec]) | (at_builtin; refine wpList_app rfl (.tmp 38) (.tmp 43) 24 rfl (w.heap.size + 1) 3 (.int .i64 0) 8 Try.underlying24 (by kernel_rfl) rfl (by decide) u3 (ints (nl o2)) rfl (HOO.out.up (by repeat (first | exact Below.refl _ _ | assumption | refine b_drewN ?_ _ | refine Below.drew ?_ | refine b_ext' ?_ _ | refine b_alloc' ?_ _))) (.slice (some ⟨(ext wr x).heap.size, 0, none⟩) 1 1) (ints (nl [q])) rfl (by simpa [ints, nl] using sl_lit (ext wr x) #[.int .i64 (q : Int)] 3 (by simp)) (ints_one _) (by simp; omega) (by have := size_ext wr x; simp; omega) ?_; intro v' w1 hown1 hg1 hk1; have HO1 := Lib.hid hown1; have HG1 := Lib.hid hg1; clear hown1 hg1 hk1))
              go_roundw
              case rel =>
                refine ⟨j + 1, o2 ++ [q], by omega, by go_num, ?_, Lib.hid ?_, HLen.out, Lib.hid ?_, HL3, ?_⟩
                · rw [nl_append, ints_append]; exact HO1.out
                · rw [HTS.out, HQ.out, ← HO2.out, HPN.out]
                · rw [← HPN.out]; exact HN3.out
                · exact below_grown (B := w.heap.size + 1) ((b_ext HBB.out hsz _).alloc (by have := size_ext wr x; omega) _) (by have := size_ext wr x; simp; omega) (HOO.out.up (by repeat (first | exact Below.refl _ _ | assumption | refine b_drewN ?_ _ | refine Below.drew ?_ | refine b_ext' ?_ _ | refine b_alloc' ?_ _))) HG1.out
              case measure => simp [intOf]; omega
          · go_wp2
            go_roundw
            case rel =>
              have hj' : rn.take j = rn := List.take_of_length_le (by rw [HRL.out]; omega)
              have h2 := HO2.out
              rw [hj'] at h2
              refine ⟨k + 1, o2, ?_, by go_num, HOO.out, HND2, HLT2, ho2, Lib.hid ?_, HBB.out⟩
              · have := HSP.out.2.2.1; rw [← h2] at this; omega
              · rw [HG0.out, h2]; congr 1; omega
            case measure => simp [intOf]; omega
      · go_wp2
        go_ret
        have h1 := HRE.out
        rw [reachFrom_done d k out (by omega)] at h1
        refine ⟨_, rfl, ?_, ?_⟩
        · rw [HRI.out, h1]; exact HO.out.sl
        · exact (below_alloc w _).trans (HB.out.mono (by omega))
  · have hrb := rightB_false hv
    have HRI := Lib.hid (reachI_no hv)
    go_enter Try.func16, Try.ntmps16
    go_wp2_with (first | (refine load_dfa rfl _ rfl w.heap.size rfl A HS.out HG.out ?_) | (go_at_call 17; refine (HL.out _ (below_alloc _ _)).mono ?_; rintro e w' ⟨rfl, x, rfl⟩; rw [hrb]))
    go_ret
    refine ⟨_, rfl, ?_, (by repeat (first | exact Below.refl _ _ | assumption | refine b_drewN ?_ _ | refine Below.drew ?_ | refine b_ext' ?_ _ | refine b_alloc' ?_ _))⟩
    rw [HRI.out]
    exact Sl.nil _
end Go.Cm
