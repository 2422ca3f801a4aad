/- The walk of mini.Reached. Conditions: the argument reads as an automaton. -/
import Derived.Test.YtjeclleophlliaaReachR
import Derived.Test.YtjeclleophlliaaDfaX
namespace Go.Cm
open Go.RowKit Go.Proofs

theorem ints_set (l : List Int) (i : Nat) (x : Int) : (ints l).set i (.int .i64 x) = ints (l.set i x) := by simp [ints, List.map_set]
theorem ints_replicate (n : Nat) (x : Int) : List.replicate n (Value.int .i64 x) = ints (List.replicate n x) := by simp [ints]
theorem getD_set (l : List Int) (i j : Nat) (x : Int) : (l.set i x).getD j 0 = if i = j ∧ i < l.length then x else l.getD j 0 := by
  simp only [List.getD_eq_getElem?_getD, List.getElem?_set]
  by_cases h : i = j
  · subst h
    by_cases h2 : i < l.length
    · simp [h2]
    · simp [h2]
  · simp [h]

/-- how often a state was met: more than 0 times just if it is on the list -/
def MetOk (n : Nat) (met : List Int) (out : List Nat) (bound : Nat) : Prop := met.length = n ∧ ∀ x, x < n → 0 ≤ met.getD x 0 ∧ met.getD x 0 ≤ bound ∧ (0 < met.getD x 0 ↔ x ∈ out)
theorem MetOk.start (n : Nat) (h : 1 ≤ n) : MetOk n ((List.replicate n (0 : Int)).set 0 1) [0] 1 := by
  refine ⟨by simp, fun x hx => ?_⟩
  rw [getD_set]
  have hr : (List.replicate n (0 : Int)).getD x 0 = 0 := by simp [List.getD, hx]
  by_cases h0 : 0 = x
  · subst h0; simp; omega
  · rw [if_neg (fun q => h0 q.1), hr]; simp; omega
theorem MetOk.step {n : Nat} {met : List Int} {out : List Nat} {b q : Nat} (h : MetOk n met out b) (hq : q < n) : MetOk n (met.set q (met.getD q 0 + 1)) (pushNew out q) (b + 1) := by
  refine ⟨by simp [h.1], fun x hx => ?_⟩
  rw [getD_set]
  have h1 := h.2 x hx
  have h2 := h.2 q hq
  by_cases hx' : q = x
  · subst hx'
    rw [if_pos ⟨rfl, by rw [h.1]; exact hq⟩]
    refine ⟨by omega, by omega, fun _ => pushNew_mem.2 (.inr rfl), fun _ => by omega⟩
  · rw [if_neg (fun e => hx' e.1)]
    refine ⟨h1.1, by omega, ?_⟩
    rw [pushNew_mem, h1.2.2]
    exact ⟨.inl, fun q => q.elim id (fun e => absurd e.symm hx')⟩

set_option maxRecDepth 100000 in
set_option maxHeartbeats 2000000 in
theorem reachedP (v : Value) (d : Dfa) (w : World) (h : DfaAt w v d) : Calls Try.prog 15 #[v] w (RetInts (reachI d) w) := by
  have hL := fun w' (hb : Below w.heap.size w w') => rightP v d w' (h.up hb)
  obtain ⟨A, rfl, hs, hl, hc, ⟨vn, hn, hrow⟩, ⟨vr, hr, hru⟩⟩ := h
  obtain ⟨oa, cap, b, off, rfl, hd, hro⟩ := hrow.open
  have hix := index_any (P := Try.prog) 23 24 Try.underlying23 (by kernel_rfl) hd
  have hm := hd.len
  have HL := Lib.hid hL; clear hL
  have HS := Lib.hid hs; clear hs hc
  have HG := Lib.hid (heap_alloc_new w (.cells A 26))
  have HR := Lib.hid hro; clear hro
  have HLC := Lib.hid hl; clear hl
  by_cases hv : Valid d
  · have hrb := rightB_true hv
    have HRI := Lib.hid (reachI_yes hv)
    have hn1 := hv.1
    have hn2 := hv.2.1
    have HV := Lib.hid hv; clear hv
    have hb := hd.hblk (by omega)
    have hmk := run_mk (P := Try.prog) 24 3 (.int .i64 0) 8 d.next.length Try.underlying24 (by kernel_rfl) rfl (by decide) (by omega)
    obtain ⟨M, hM⟩ : ∃ M, M = madeCells #[Value.int .i64 0] d.next.length := ⟨_, rfl⟩
    rw [← hM] at hmk
    have hM0 : M[0]? = some (.int .i64 0) := by rw [hM, ← Array.getElem?_toList, toList_madeCells_one, List.getElem?_replicate, if_pos (by omega)]
    have HM : Hid (M.toList = List.replicate d.next.length (.int .i64 0)) := Lib.hid (by rw [hM, toList_madeCells_one])
    have HMS : Hid (M.size = d.next.length) := Lib.hid (by rw [hM, size_madeCells])
    clear hM
    go_enter Try.func15, Try.ntmps15
    go_wp2_with (first | (refine load_dfa rfl _ rfl w.heap.size rfl A HS.out HG.out ?_) | (go_at_call 21; refine (HL.out _ (below_alloc _ _)).mono ?_; rintro e w' ⟨rfl, x, rfl⟩; rw [hrb]))
    have hbel0 : Below (w.heap.size + 1) (w.alloc (.cells A 26)) (ext (w.alloc (.cells A 26)) x) := (ext_below _ _).mono (by simp)
    generalize ext (w.alloc (.cells A 26)) x = w1 at *
    have hs1 : w.heap.size + 1 ≤ w1.heap.size := by have := hbel0.size; rw [World.size_alloc] at this; exact this
    have hOM : Own ((w1.alloc (.cells (M.setIfInBounds 0 (.int .i64 1)) 3)).alloc (.cells #[.int .i64 0] 3)) (w.heap.size + 1) 3 (.slice (some ⟨w1.heap.size, 0, none⟩) d.next.length d.next.length) (ints ((List.replicate d.next.length (0 : Int)).set 0 1)) := by
      have h1 := (own_lit w1 (w.heap.size + 1) (M.setIfInBounds 0 (.int .i64 1)) 3 (by rw [Array.size_setIfInBounds, HMS.out]; omega) hs1).up (below_alloc _ (.cells #[.int .i64 0] 3))
      simp only [Array.size_setIfInBounds, HMS.out, Array.toList_setIfInBounds, HM.out, ints_replicate, ints_set] at h1
      exact h1
    have hO : Own ((w1.alloc (.cells (M.setIfInBounds 0 (.int .i64 1)) 3)).alloc (.cells #[.int .i64 0] 3)) (w1.heap.size + 1) 3 (.slice (some ⟨w1.heap.size + 1, 0, none⟩) 1 1) (ints (nl [0])) := by
      have h1 := own_lit (w1.alloc (.cells (M.setIfInBounds 0 (.int .i64 1)) 3)) (w1.heap.size + 1) #[.int .i64 0] 3 (by simp) (by simp)
      simpa [nl, ints] using h1
    have HB0 := Lib.hid (((hbel0.alloc hs1 (.cells (M.setIfInBounds 0 (.int .i64 1)) 3))).alloc (by rw [World.size_alloc]; omega) (.cells #[.int .i64 0] 3)); clear hbel0
    have HO := Lib.hid hO; clear hO
    have HOM := Lib.hid hOM; clear hOM hM0
    go_loopw [4, 5] (fun vo i wr => ∃ (k : Nat) (out : List Nat) (met : List Int), k ≤ out.length ∧ i = .int .i64 k ∧ Own wr (w1.heap.size + 1) 3 vo (ints (nl out)) ∧ Own wr (w.heap.size + 1) 3 (.slice (some ⟨w1.heap.size, 0, none⟩) d.next.length d.next.length) (ints met) ∧ Hid (MetOk d.next.length met out (1 + 256 * k)) ∧ Hid (out.Nodup) ∧ Hid (∀ x ∈ out, x < d.next.length) ∧ out.length ≤ d.next.length ∧ Hid (reach d = reachFrom d (d.next.length + 1 - k) k out) ∧ Below (w.heap.size + 1) (w.alloc (.cells A 26)) wr ∧ w1.heap.size + 1 ≤ wr.heap.size) (fun _ i _ => d.next.length + 1 - (intOf i).toNat)
    case atStart => exact ⟨0, [0], _, Nat.zero_le _, rfl, HO.out, HOM.out, Lib.hid (MetOk.start _ hn1), Lib.hid (by simp), Lib.hid (by simp; omega), by simpa using hn1, Lib.hid rfl, HB0.out, by simp⟩
    case round =>
      clear HO HB0 HOM
      obtain ⟨k, out, met, hk, rfl, hown, hom, HMet, HND, HLT, hol, HRE, hbel, hsz1⟩ := hrel
      have hsz : w.heap.size + 1 ≤ wr.heap.size := by omega
      have HB := Lib.hid hbel; clear hbel
      have HOM := Lib.hid hom; clear hom
      obtain ⟨oo, oc, g, rfl, hdo, hgo, hco, hfo, hst⟩ := hown.cases
      simp only [ints_length, nl_length] at hdo hco hown ⊢
      have HO := Lib.hid hown; clear hown hst hfo
      have hixo := index_any (P := Try.prog) 24 3 Try.underlying24 (by kernel_rfl) hdo
      by_cases hlt : k < out.length
      · have hco1 := hco k hlt
        have hgw : g < wr.heap.size := hdo.hblk (by omega)
        rw [getD_nl_ints out k hlt] at hco1
        have hsn := HLT.out _ (getD_mem out k 0 hlt)
        have HG0 : Hid (reach d = reachFrom d (d.next.length - k) (k + 1) (scanRow out (rowN d (out.getD k 0)))) := Lib.hid (by
          rw [HRE.out, show d.next.length + 1 - k = (d.next.length - k) + 1 by omega, reachFrom, if_pos hlt])
        clear HRE
        generalize out.getD k 0 = s at *
        obtain ⟨oi, ci, bi, fi, hck, hdk, hcj, hrowk⟩ := HR.out s hsn
        have HVR := Lib.hid ((valid_row HV.out hsn).resolve_right (fun h => h HLC.out))
        have HRN := Lib.hid (rowN_getD d s)
        have HRL := Lib.hid (rowN_length d s)
        have HSP := Lib.hid (scanRow_spec (rowN d s) out)
        have hixk := index_any (P := Try.prog) 24 3 Try.underlying24 (by kernel_rfl) hdk
        have hbi := hdk.hblk
        have hlk := hdk.hsml
        generalize rowN d s = rn at *
        generalize d.next.getD s [] = row at *
        have hl256 := HVR.out.2
        have HCJ := Lib.hid hcj; clear hcj
        have HDK := Lib.hid hdk; clear hdk
        have hcw : wr.cell? ⟨b, off + s, none⟩ = some (.slice oi row.length ci) := by
          rw [HB.out.cell (p := ⟨b, off + s, none⟩) (Nat.lt_succ_of_lt hb), World.cell?_alloc_past _ _ _ hb]; exact hck
        have hbn : wr.cell? ⟨w.heap.size, 256, none⟩ = some (.slice oa d.next.length cap) := by
          rw [HB.out.cell (p := ⟨w.heap.size, 256, none⟩) (Nat.lt_succ_self _), World.cell?_alloc_new]; exact hn
        clear hco hck
        go_wp2
        go_quiet (fail)
        go_wp2
        obtain ⟨wo, rfl⟩ : ∃ wo : World, wo = wr := ⟨_, rfl⟩
        have hbel := HB.out
        have hown := HO.out
        have hom := HOM.out
        go_loopw [4, 33] (fun vo i wr => ∃ (j : Nat) (o2 : List Nat) (met : List Int), j ≤ row.length ∧ i = .int .i64 j ∧ Own wr (w1.heap.size + 1) 3 vo (ints (nl o2)) ∧ Own wr (w.heap.size + 1) 3 (.slice (some ⟨w1.heap.size, 0, none⟩) d.next.length d.next.length) (ints met) ∧ Hid (MetOk d.next.length met o2 (1 + 256 * k + j)) ∧ Hid (o2 = scanRow out (rn.take j)) ∧ o2.length ≤ d.next.length ∧ Hid (o2.Nodup) ∧ Hid (∀ x ∈ o2, x < d.next.length) ∧ Below (w.heap.size + 1) (w.alloc (.cells A 26)) wr ∧ w1.heap.size + 1 ≤ wr.heap.size) (fun _ i _ => row.length - (intOf i).toNat)
        case atStart => exact ⟨0, out, met, Nat.zero_le _, rfl, hown.up (below_drewN _ _), hom.up (below_drewN _ _), HMet, Lib.hid (by simp [scanRow]), hol, HND, HLT, b_drewN hbel _, hsz1⟩
        case round =>
          clear hbel hown hom HMet HOM met
          obtain ⟨j, o2, met, hj, rfl, hown, hom, HMet, HO2, ho2, HND2, HLT2, hbel, hsz1⟩ := hrel
          have hsz : w.heap.size + 1 ≤ wr.heap.size := by omega
          have HBB := Lib.hid hbel; clear hbel
          have HOO := Lib.hid hown; clear hown
          have HOM := Lib.hid hom; clear hom
          by_cases hltj : j < row.length
          · have hbi' := hbi (by omega)
            have hbi2 : bi < wr.heap.size := by omega
            have hcell : wr.cell? ⟨bi, fi + j, none⟩ = some (.int .i64 (row.getD j 0)) := by
              rw [HBB.out.cell (p := ⟨bi, fi + j, none⟩) (Nat.lt_succ_of_lt hbi'), World.cell?_alloc_past _ _ _ hbi']; exact HCJ.out j hltj
            obtain ⟨hy1, hy2⟩ := HVR.out.1 j hltj
            have HRJ := Lib.hid (HRN.out j hltj)
            have HTS := Lib.hid (scanRow_take_succ out rn j (by rw [HRL.out]; exact hltj))
            generalize row.getD j 0 = y at *
            obtain ⟨q, rfl⟩ := Int.eq_ofNat_of_zero_le hy1
            have hq : q < d.next.length := by omega
            have HQ : Hid (rn.getD j 0 = q) := Lib.hid (by rw [HRJ.out]; rfl)
            clear HRJ hy1 hy2
            have HM2 := Lib.hid (HMet.out.step hq)
            obtain ⟨m1, m2, m3⟩ := HMet.out.2 q hq
            have hml := HMet.out.1
            have hmc : wr.cell? ⟨w1.heap.size, q, none⟩ = some (.int .i64 (met.getD q 0)) := by
              rw [HOM.out.cell (by rw [ints_length, hml]; exact hq), ints_getD met q (by omega)]
            have hmf : wr.frozen? ⟨w1.heap.size, q, none⟩ = false := HOM.out.free q
            have HST := Lib.hid (HOM.out.store q (.int .i64 (met.getD q 0 + 1)))
            have hne : bi ≠ w1.heap.size := by omega
            have HML := Lib.hid hml; clear hml
            rw [ints_set] at HST
            generalize met.getD q 0 = y at *
            have hOK : u4.ownBlock = none ∨ u4.ownBlock ≠ some w1.heap.size := by
              cases hu : u4.ownBlock with
              | none => exact .inl rfl
              | some z => exact .inr (fun e => by have := HOO.out.lt z hu; injection e with e; omega)
            have HOK := Lib.hid hOK; clear hOK
            by_cases hmem : q ∈ o2
            · have hyp : 0 < y := m3.2 hmem
              have hyb : (y + 1 == 1) = false := by simp; omega
              have HM := Lib.hid hmem; clear hmem m3
              go_wp2
              go_roundw
              case rel =>
                have hp : pushNew o2 q = o2 := by unfold pushNew; rw [if_pos HM.out]
                refine ⟨j + 1, o2, met.set q (y + 1), by omega, by go_num, HOO.out.keep HST.out.2 HOK.out, HST.out.1, Lib.hid ?_, Lib.hid ?_, ho2, HND2, HLT2, HBB.out.setCell (by show w.heap.size + 1 ≤ w1.heap.size; omega) _, by simp; omega⟩
                · have := HM2.out; rw [hp] at this; exact this
                · rw [HTS.out, HQ.out, ← HO2.out, hp]
              case measure => simp [intOf]; omega
            · have hyp : y = 0 := by
                rcases Int.lt_or_le 0 y with h | h
                · exact absurd (m3.1 h) hmem
                · omega
              subst hyp
              have HM := Lib.hid hmem; clear hmem m3
              have HPN : Hid (pushNew o2 q = o2 ++ [q]) := Lib.hid (by unfold pushNew; rw [if_neg HM.out])
              have HN3 := Lib.hid (pushNew_nodup (to := q) HND2.out)
              have HL3 : Hid (∀ x ∈ o2 ++ [q], x < d.next.length) := Lib.hid (fun x hx => by
                rcases List.mem_append.1 hx with h | h
                · exact HLT2.out x h
                · simp at h; omega)
              have hlen3 : (o2 ++ [q]).length ≤ d.next.length := nodup_bound (by rw [← HPN.out]; exact HN3.out) HL3.out
              have HLen := Lib.hid hlen3; clear hlen3
              have HOO2 := Lib.hid (HOO.out.keep HST.out.2 HOK.out)
              go_wp2_with (at_builtin; refine wpList_app rfl (.tmp 48) (.tmp 50) 24 rfl (w1.heap.size + 1) 3 (.int .i64 0) 8 Try.underlying24 (by kernel_rfl) rfl (by decide) u4 (ints (nl o2)) rfl (HOO2.out.up (by repeat (first | exact Below.refl _ _ | assumption | refine b_drewN ?_ _ | refine Below.drew ?_ | refine b_ext' ?_ _ | refine b_alloc' ?_ _))) (.slice (some ⟨wr.heap.size, 0, none⟩) 1 1) (ints (nl [q])) rfl (by simpa [ints, nl] using sl_lit (wr.setCell ⟨w1.heap.size, q, none⟩ (.int .i64 (0 + 1))) #[.int .i64 (q : Int)] 3 (by simp)) (ints_one _) (by simp; omega) (by simp; omega) ?_; intro v' w2 hown1 hg1 hk1; have HO1 := Lib.hid hown1; have HG1 := Lib.hid hg1; clear hown1 hg1 hk1)
              go_roundw
              case rel =>
                have hne2 : (Value.slice (some ⟨w1.heap.size, 0, none⟩) d.next.length d.next.length).ownBlock ≠ u4.ownBlock := fun e => by
                  have := HOK.out
                  rcases this with h | h
                  · rw [h] at e; cases e
                  · exact h e.symm
                have HG2 := Lib.hid (grown_trans (grown_below (below_alloc (wr.setCell ⟨w1.heap.size, q, none⟩ (.int .i64 1)) (.cells #[.int .i64 (q : Int)] 3)) u4.ownBlock) HG1.out)
                refine ⟨j + 1, o2 ++ [q], met.set q (0 + 1), by omega, by go_num, ?_, HST.out.1.keep HG2.out (.inr hne2), Lib.hid ?_, Lib.hid ?_, HLen.out, Lib.hid ?_, HL3, ?_, ?_⟩
                · rw [nl_append, ints_append]; exact HO1.out
                · rw [← HPN.out]; exact HM2.out
                · rw [HTS.out, HQ.out, ← HO2.out, HPN.out]
                · rw [← HPN.out]; exact HN3.out
                · exact below_grown (B := w.heap.size + 1) (HBB.out.setCell (by show w.heap.size + 1 ≤ w1.heap.size; omega) _) (by simp; omega) (show Own _ (w.heap.size + 1) 3 u4 _ from ⟨⟨HOO2.out.1.1, HOO2.out.1.2.imp id fun ⟨g, cap, cur, h1, h2, h3⟩ => ⟨g, cap, cur, h1, by omega, h3⟩⟩, HOO2.out.2⟩) HG2.out
                · have := HG2.out.size; simp at this; omega
              case measure => simp [intOf]; omega
          · go_wp2
            go_roundw
            case rel =>
              have hj' : rn.take j = rn := List.take_of_length_le (by rw [HRL.out]; omega)
              have h2 := HO2.out
              rw [hj'] at h2
              refine ⟨k + 1, o2, met, ?_, by go_num, HOO.out, HOM.out, Lib.hid ?_, HND2, HLT2, ho2, Lib.hid ?_, HBB.out, hsz1⟩
              · have := HSP.out.2.2.1; rw [← h2] at this; omega
              · exact ⟨HMet.out.1, fun x hx => ⟨(HMet.out.2 x hx).1, by have := (HMet.out.2 x hx).2.1; omega, (HMet.out.2 x hx).2.2⟩⟩
              · rw [HG0.out, h2]; congr 1; omega
            case measure => simp [intOf]; omega
      · go_wp2
        go_ret
        have h1 := HRE.out
        rw [reachFrom_done d k out (by omega)] at h1
        refine ⟨_, rfl, ?_, ?_⟩
        · rw [HRI.out, h1]; exact HO.out.sl
        · exact (below_alloc w _).trans (HB.out.mono (by omega))
  · have hrb := rightB_false hv
    have HRI := Lib.hid (reachI_no hv)
    go_enter Try.func15, Try.ntmps15
    go_wp2_with (first | (refine load_dfa rfl _ rfl w.heap.size rfl A HS.out HG.out ?_) | (go_at_call 21; refine (HL.out _ (below_alloc _ _)).mono ?_; rintro e w' ⟨rfl, x, rfl⟩; rw [hrb]))
    go_ret
    refine ⟨_, rfl, ?_, (by repeat (first | exact Below.refl _ _ | assumption | refine b_drewN ?_ _ | refine Below.drew ?_ | refine b_ext' ?_ _ | refine b_alloc' ?_ _))⟩
    rw [HRI.out]
    exact Sl.nil _
end Go.Cm
