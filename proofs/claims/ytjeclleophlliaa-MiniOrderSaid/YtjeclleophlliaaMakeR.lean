/- The walk of the document's Make. Conditions: the argument reads as an automaton. -/
import Derived.Test.YtjeclleophlliaaAlikeR
import Derived.Test.YtjeclleophlliaaColR
import Derived.Test.YtjeclleophlliaaBox
import Derived.Test.YtjeclleophlliaaAlikeP
import Derived.Test.YtjeclleophlliaaRegT
import Derived.Test.YtjeclleophlliaaRunW
namespace Go.Cm
open Go.RowKit Go.Proofs

def RetMake (d : Dfa) (w : World) (e : Ending) (w' : World) : Prop := ∃ v, e = .returned (.tuple #[v, .int .i64 (makeE d)]) ∧ DfaAt w' v (makeI d) ∧ Below w.heap.size w w'
theorem lt_ext2 (w : World) (o o' : Obj) (x : World) : w.heap.size < (ext ((w.alloc o).alloc o') x).heap.size := Nat.lt_of_lt_of_le (by simp; omega) (size_ext _ x)
theorem lt_two (w : World) (o o' : Obj) : w.heap.size < ((w.alloc o).alloc o').heap.size := by simp; omega
theorem le_ext2 (w : World) (o o' : Obj) (x : World) : w.heap.size ≤ (ext ((w.alloc o).alloc o') x).heap.size := Nat.le_of_lt (lt_ext2 w o o' x)
theorem Own.ne_lt {w : World} {B E k : Nat} {v : Value} {xs : List Value} (h : Own w B E v xs) (hk : k < B) : v.ownBlock = none ∨ v.ownBlock ≠ some k := by
  cases hu : v.ownBlock with
  | none => exact .inl rfl
  | some q => exact .inr (fun e => by have := h.lt q hu; injection e with e; omega)
theorem ints_nl_set (l : List Nat) (i x : Nat) : (ints (nl l)).set i (.int .i64 (x : Int)) = ints (nl (l.set i x)) := by simp [ints, nl, List.map_set]
theorem num_next {f : Nat → Nat} {R nm : List Nat} {k s q n : Nat} (hk : k < R.length) (hs : R.getD k 0 = s) (hl : nm.length = n) (hsn : s < n) (hv : ∀ x ∈ R.take k, nm.getD x 0 = place f R x) (hq : place f R s = q) : ∀ x ∈ R.take (k + 1), (nm.set s q).getD x 0 = place f R x := by
  intro x hx
  rw [take_succ_getD' hk hs] at hx
  by_cases hxs : s = x
  · subst hxs; rw [getD_set_self' (by omega), hq]
  · rw [getD_set_ne' hxs]
    rcases List.mem_append.1 hx with h | h
    · exact hv x h
    · simp at h; exact absurd h.symm hxs
theorem Own.ne_blk {w : World} {B E k n c : Nat} {v : Value} {xs : List Value} (h : Own w B E v xs) (hk : k < B) : (Value.slice (some ⟨k, 0, none⟩) n c).ownBlock = none ∨ (Value.slice (some ⟨k, 0, none⟩) n c).ownBlock ≠ v.ownBlock :=
  .inr (fun e => by have := h.lt k e.symm; omega)
section
variable {w : World} {B E E' : Nat} {v v' u u' r : Value} {vs : List Value} {ll : List (List Value)}
theorem OwnM.free_step (h : OwnM w B E E' v vs ll) (hf : OwnM.free v vs u.ownBlock) (hk : ∀ k, u'.ownBlock = some k → u.ownBlock = some k ∨ w.heap.size ≤ k) : OwnM.free v vs u'.ownBlock := by
  cases hu : u'.ownBlock with
  | none => exact OwnM.free_none
  | some k =>
    rcases hk k hu with h1 | h1
    · rw [← h1]; exact hf
    · exact h.free_new h1
theorem OwnM.free_push {xs : List Value} (hf : OwnM.free v vs u.ownBlock) (hu : Own w B E u xs) (hr : ∀ k, r.ownBlock = some k → u.ownBlock ≠ some k) (hk : ∀ k, v'.ownBlock = some k → v.ownBlock = some k ∨ w.heap.size ≤ k) : OwnM.free v' (vs ++ [r]) u.ownBlock := by
  refine ⟨fun k h e => ?_, fun i hi k h e => ?_⟩
  · rcases hk k h with h1 | h1
    · exact hf.1 k h1 e
    · have := hu.lt k e; omega
  · rw [List.length_append, List.length_singleton] at hi
    rcases Nat.lt_succ_iff_lt_or_eq.1 hi with h1 | rfl
    · rw [getD_append_left' h1] at h; exact hf.2 i h1 k h e
    · rw [getD_append_one] at h; exact hr k h e
end
theorem grown_late {w w1 w2 : World} {r row : Option Nat} (h : w.grownBy w1 r) (h' : w1.grownBy w2 row) (hk : ∀ k, row = some k → w.heap.size ≤ k) : w.grownBy w2 r :=
  ⟨h'.os.trans h.os, h'.tape.trans h.tape, h'.output.trans h.output, Nat.le_trans h.size h'.size, fun k hk1 hne => (h'.block k (Nat.lt_of_lt_of_le hk1 h.size) (fun e => by have := hk k e.symm; omega)).trans (h.block k hk1 hne)⟩
theorem zero_at (w : World) : DfaV w zArr zeroD := dfaV_of (cl := List.replicate 256 0) zArr_list List.length_replicate ⟨[], Sl.nil _, rfl, fun i hi => absurd hi (Nat.not_lt_zero i)⟩ (Sl.nil _)

set_option maxRecDepth 100000 in
set_option maxHeartbeats 4000000 in
theorem makeR (v : Value) (d : Dfa) (w : World) (h : DfaAt w v d) : Calls Try.prog 10 #[v] w (RetMake d w) := by
  have hL := fun w' (hb : Below w.heap.size w w') => rightR v d w' (h.up hb)
  have hAp := fun w' (hb : Below w.heap.size w w') hv => apart v d w' (h.up hb) hv
  have hRe := fun w' (hb : Below w.heap.size w w') => reachedR v d w' (h.up hb)
  obtain ⟨A, rfl, hs, hl, hc, ⟨vn, hn, hrw⟩, ⟨vr, hr, hru⟩⟩ := h
  obtain ⟨oa, cap, b, off, rfl, hd, hro⟩ := hrw.open
  obtain ⟨oq, capq, bq, offq, rfl, hdq, hrq⟩ := hru.open
  have HAP := Lib.hid hAp; clear hAp
  have HRE := Lib.hid hRe; clear hRe
  have HRO := Lib.hid hro; clear hro
  have HRQ := Lib.hid hrq; clear hrq
  have HD := Lib.hid hd; clear hd
  have HDQ := Lib.hid hdq; clear hdq
  have HLC := Lib.hid hl
  have HN := Lib.hid hn
  have HR := Lib.hid hr
  have HC := Lib.hid hc
  have HL := Lib.hid hL; clear hL
  have HS := Lib.hid hs; clear hs hc hl hn hr hrw hru
  have HG := Lib.hid (heap_alloc_new w (.cells A 26))
  have hz := zero_dfa
  have hbd := build_dfa
  obtain ⟨Z, hZ⟩ : ∃ Z, Z = zArr := ⟨_, rfl⟩
  rw [← hZ] at hz hbd
  have HZ := Lib.hid hZ; clear hZ
  have HB2 : Hid (BoxD ((w.alloc (.cells A 26)).alloc (.cells Z 26)) (w.heap.size + 1) (.slice none 0 0) (.slice none 0 0) (List.replicate 256 0)) := Lib.hid (by
    have := box_new (w.alloc (.cells A 26))
    rw [← HZ.out] at this
    simpa using this)
  have HG2 : Hid (((w.alloc (.cells A 26)).alloc (.cells Z 26)).heap[w.heap.size]? = some (.cells A 26 (0, 0))) := Lib.hid (by rw [(below_alloc _ _).block _ (by simp)]; exact HG.out)
  by_cases hv : Valid d
  · have hrb := rightB_true hv
    have HI := Lib.hid (makeI_yes hv)
    have HE := Lib.hid (makeE_yes hv)
    have HRI := Lib.hid (reachI_yes hv)
    have hn1 := hv.1
    have hn2 := hv.2.1
    have HRB := Lib.hid (reach_met hv).2.1
    have hrlen := reach_len hv
    have HV := Lib.hid hv; clear hv
    have hmk := run_mk (P := Try.prog) 24 3 (.int .i64 0) 8 d.next.length Try.underlying24 (by kernel_rfl) rfl (by decide) (by omega)
    obtain ⟨Mb, hM⟩ : ∃ M, M = madeCells #[Value.int .i64 0] d.next.length := ⟨_, rfl⟩
    rw [← hM] at hmk
    have HO1 : ∀ W : World, Hid (Own (W.alloc (.cells Mb 3)) W.heap.size 3 (.slice (some ⟨W.heap.size, 0, none⟩) d.next.length d.next.length) (ints (nl (List.replicate d.next.length 0)))) := fun W => Lib.hid (by
      have h1 := own_lit W W.heap.size Mb 3 (by rw [hM, size_madeCells]; omega) (Nat.le_refl _)
      rw [hM, size_madeCells, toList_madeCells_one, ints_replicate, ← hM] at h1
      have e : (List.replicate d.next.length 0 : List Int) = nl (List.replicate d.next.length 0) := by simp [nl]
      rw [e] at h1
      simpa using h1)
    clear hM
    go_enter Try.func10, Try.ntmps10
    go_wp2_with (first | (refine load_dfa rfl _ rfl w.heap.size rfl A HS.out HG2.out ?_) | (refine load_dfa rfl _ rfl w.heap.size rfl A HS.out ((heap_ext _ _ _ (lt_two w _ _)).trans HG2.out) ?_) | (refine load_dfa rfl _ rfl w.heap.size rfl A HS.out HG3.out ?_) | (go_at_call 17; refine (HL.out _ (by repeat (first | exact Below.refl _ _ | assumption | refine b_drewN ?_ _ | refine Below.drew ?_ | refine b_ext' ?_ _ | refine b_alloc' ?_ _))).mono ?_; rintro e w' ⟨rfl, x, rfl⟩; rw [hrb]) | (go_at_call 24; refine (HAP.out _ (by repeat (first | exact Below.refl _ _ | assumption | refine b_drewN ?_ _ | refine Below.drew ?_ | refine b_ext' ?_ _ | refine b_alloc' ?_ _)) HV.out).mono ?_; rintro e w1 ⟨va, M, rfl, hva, hok, hb1⟩; have HB1 := Lib.hid hb1; have HVA := Lib.hid hva; have HOK := Lib.hid hok; have HG3 := Lib.hid ((hb1.block w.heap.size (lt_ext2 w _ _ x)).trans ((heap_ext _ _ _ (lt_two w _ _)).trans HG2.out)); clear hb1 hva hok) | (go_at_call 16; refine (HRE.out _ ((b_ext' (b_alloc' (below_alloc w _) _) x).trans (HB1.out.mono (le_ext2 w _ _ x)))).mono ?_; rintro e w2 ⟨vl, rfl, hir, hb2⟩; have HBL := Lib.hid hb2; rw [HRI.out] at hir; obtain ⟨or, capr, br, offr, rfl, hdr, hrr⟩ := hir.open; rw [nl_length] at hdr hrr ⊢; have HDR := Lib.hid hdr; have HRR := Lib.hid hrr; have HG4 := Lib.hid ((hb2.block w.heap.size (Nat.lt_of_lt_of_le (lt_ext2 w _ _ x) HB1.out.size)).trans HG3.out); have hcN := (cell_of_row w2 w.heap.size 256 A 26 (0, 0) HG4.out).trans HN.out; clear hb2 hir hdr hrr))
    clear hcN
    have hw : Below w.heap.size w w2 := ((b_ext' (b_alloc' (below_alloc w _) _) x).trans (HB1.out.mono (le_ext2 w _ _ x))).trans (HBL.out.mono (Nat.le_trans (le_ext2 w _ _ x) HB1.out.size))
    have HW := Lib.hid hw; clear hw
    have HRES : Hid (BoxD w2 (w.heap.size + 1) (.slice none 0 0) (.slice none 0 0) (List.replicate 256 0)) := Lib.hid (((HB2.out.up (ext_below _ x)).up HB1.out).up HBL.out)
    obtain ⟨ot, ct, bt, ft, rfl, hdt, hrt⟩ := (HVA.out.up HBL.out).open
    have hml : (M.map boolsV).length = d.next.length := by simp [HOK.out.1.len]
    rw [hml] at hdt hrt ⊢
    have HDT := Lib.hid hdt; have HRT := Lib.hid hrt
    clear hdt hrt hml
    have HNUM := HO1 w2
    clear HO1 hmk HB2 HVA HBL HG3
    have hbt := HDT.out.hblk (by omega)
    have hixt := index_any (P := Try.prog) 45 47 Try.underlying45 (by kernel_rfl) HDT.out
    have hixr := index_any (P := Try.prog) 24 3 Try.underlying24 (by kernel_rfl) HDR.out
    generalize hR : reach d = R at *
    have hbel0 : Below w2.heap.size w2 (w2.alloc (.cells Mb 3)) := below_alloc _ _
    have HB0 := Lib.hid hbel0; clear hbel0
    go_loopg [6, 8] (R.length + 1) (fun gk vf i wr => ∃ (k : Nat) (nm : List Nat), k ≤ R.length ∧ i = .int .i64 k ∧ Own wr (w2.heap.size + 1) 3 vf (ints (nl (pickBy (repN d) (R.take k)))) ∧ Own wr w2.heap.size 3 (.slice (some ⟨w2.heap.size, 0, none⟩) d.next.length d.next.length) (ints (nl nm)) ∧ Hid (nm.length = d.next.length) ∧ Hid (∀ s ∈ R.take k, nm.getD s 0 = place (repN d) R s) ∧ Below w2.heap.size w2 wr ∧ gk = R.length + 1 - k)
    case atStart => exact ⟨0, _, Nat.zero_le _, rfl, Own.nil _ _ _, HNUM.out, Lib.hid (by simp), Lib.hid (fun s hs => by simp at hs), HB0.out, rfl⟩
    case round =>
      clear HB0 HNUM
      obtain ⟨k, nm, hk, rfl, how, hnum, HNL, HNV, hbel, rfl⟩ := hrel
      have hsz : w2.heap.size ≤ wr.heap.size := hbel.size
      have HB := Lib.hid hbel; clear hbel
      have HF := Lib.hid how; clear how
      have HN1 := Lib.hid hnum; clear hnum
      by_cases hlt : k < R.length
      · have hsR : R.getD k 0 ∈ R := getD_mem R k 0 hlt
        have hsn := HRB.out _ hsR
        have hck := HRR.out k hlt
        rw [nl_getD] at hck
        generalize hF : pickBy (repN d) (R.take k) = F at *
        obtain ⟨ofi, cfi, gfi, hvf, hdf, -, hcf, -⟩ := HF.out.cases
        subst hvf
        have HF0 := HF
        clear HF
        have HF : Hid (Own wr (w2.heap.size + 1) 3 (.slice ofi F.length cfi) (ints (nl F))) := Lib.hid (by have h := HF0.out; rwa [ints_length, nl_length] at h)
        clear HF0
        rw [ints_length, nl_length] at hdf hcf ⊢
        generalize hs : R.getD k 0 = s at *
        have HCF := Lib.hid hcf; clear hcf
        have HDF := Lib.hid hdf; clear hdf
        have hixf := index_any (P := Try.prog) 24 3 Try.underlying24 (by kernel_rfl) HDF.out
        have HSR := Lib.hid hsR
        have HS' := Lib.hid hs
        have hbr := HDR.out.hblk (by omega)
        clear hsR hs
        have HFL : Hid (∀ q, q < F.length → F.getD q 0 < d.next.length) := Lib.hid (fun q hq => HRB.out _ (List.mem_of_mem_take (mem_pickBy (by rw [hF]; exact getD_mem F q 0 hq))))
        have hfl : F.length ≤ 1000 := by
          have := pickBy_len (repN d) (R.take k)
          rw [hF] at this; simp at this; omega
        have HFE := Lib.hid hF; clear hF
        go_wp2
        obtain ⟨wo, rfl⟩ : ∃ wo : World, wo = wr := ⟨_, rfl⟩
        go_loopg [9] (F.length + 1) (fun gk j wr => ∃ q : Nat, q ≤ F.length ∧ j = .int .i64 q ∧ Hid (∀ a, a < q → repN d (F.getD a 0) ≠ repN d s) ∧ (∃ x, wr = ext wo x) ∧ gk = F.length + 1 - q)
        case atStart => exact ⟨0, Nat.zero_le _, rfl, Lib.hid (fun a ha => absurd ha (Nat.not_lt_zero a)), refl_ext _, rfl⟩
        case round =>
          obtain ⟨q, hq, rfl, HNO, ⟨x1, rfl⟩, rfl⟩ := hrel
          have hgo : ∀ W : World, Below wo.heap.size wo W → Own W (w2.heap.size + 1) 3 (.slice ofi F.length cfi) (ints (nl F)) ∧ Own W w2.heap.size 3 (.slice (some ⟨w2.heap.size, 0, none⟩) d.next.length d.next.length) (ints (nl nm)) ∧ Below w2.heap.size w2 W := fun W hW => ⟨HF.out.up hW, HN1.out.up hW, HB.out.trans (hW.mono hsz)⟩
          have HGO := Lib.hid hgo; clear hgo
          by_cases hqF : q < F.length
          · have hfq := HFL.out q hqF
            have hcq := HCF.out q hqF
            have hgq := HDF.out.hblk (by omega)
            have HE1 : Hid (mrk M (F.getD q 0) s = false ↔ repN d (F.getD q 0) = repN d s) := Lib.hid (by rw [repN_eq]; exact HOK.out.2 _ s hfq hsn)
            obtain ⟨ok, ck, bk, fk, hck1, hdk, hcj, -⟩ := HRT.out _ hfq
            rw [getD_map_bools, boolsV_length, HOK.out.1.row _ hfq] at hck1 hdk hcj
            have hcj1 := hcj s hsn
            rw [boolsV_getD _ _ (by rw [HOK.out.1.row _ hfq]; exact hsn)] at hcj1
            change w2.cell? ⟨bk, fk + s, none⟩ = some (.bool (mrk M (F.getD q 0) s)) at hcj1
            have hbk := hdk.hblk (by omega)
            have hixk := index_any (P := Try.prog) 47 4 Try.underlying47 (by kernel_rfl) hdk
            have hw1 : wo.cell? ⟨br, offr + k, none⟩ = some (.int .i64 (s : Int)) := (HB.out.cell (p := ⟨br, offr + k, none⟩) hbr).trans hck
            have hw3 := (HB.out.cell (p := ⟨bt, ft + F.getD q 0, none⟩) hbt).trans hck1
            have hw4 := (HB.out.cell (p := ⟨bk, fk + s, none⟩) hbk).trans hcj1
            rw [ints_getD _ _ (by rw [nl_length]; exact hqF), nl_getD] at hcq
            have hbr2 : br < wo.heap.size := by omega
            have hbt2 : bt < wo.heap.size := by omega
            have hbk2 : bk < wo.heap.size := by omega
            clear hck hck1 hcj hcj1 hdk
            have HF1 : Hid (∀ a, a < q + 1 → repN d (F.getD q 0) ≠ repN d s → repN d (F.getD a 0) ≠ repN d s) := Lib.hid (fun a ha he => by
              rcases Nat.lt_succ_iff_lt_or_eq.1 ha with h | rfl
              · exact HNO.out a h
              · exact he)
            have HF2 := Lib.hid (fun h2 => place_found (f := repN d) hlt HS'.out HFE.out hqF HNO.out h2)
            generalize F.getD q 0 = f at *
            generalize mrk M f s = mb at *
            cases mb with
            | true =>
              go_wp2
              go_quiet (fail)
              go_wp2
              go_roundg (F.length + 1 - (q + 1))
              case measure => omega
              case rel => exact ⟨q + 1, by omega, by go_num, Lib.hid (fun a ha => HF1.out a ha (fun he => by have := HE1.out.2 he; cases this)), (ex_ext (by repeat (first | exact Below.refl _ _ | assumption | refine b_drewN ?_ _ | refine Below.drew ?_ | refine b_ext' ?_ _ | refine b_alloc' ?_ _))), rfl⟩
            | false =>
              have hp := HF2.out (HE1.out.1 rfl)
              have HP := Lib.hid hp; clear hp
              have hqne : ¬ ((q : Int) = (F.length : Int)) := by omega
              have hcn4 : ∀ x, (ext wo x).cell? ⟨w2.heap.size, s, none⟩ = some (.int .i64 ((nm.getD s 0 : Nat) : Int)) := fun x => by
                rw [(HGO.out _ (ext_below wo x)).2.1.cell (by rw [ints_length, nl_length, HNL.out]; exact hsn), ints_getD _ _ (by rw [nl_length, HNL.out]; exact hsn), nl_getD]
              have hfn4 : ∀ x, (ext wo x).frozen? ⟨w2.heap.size, s, none⟩ = false := fun x => (HGO.out _ (ext_below wo x)).2.1.free s
              generalize nm.getD s 0 = y0 at *
              go_wp2
              go_quiet (fail)
              go_wp2
              go_roundg (R.length + 1 - (k + 1))
              case measure => omega
              case rel =>
                have hW : Below wo.heap.size wo ((ext wo x1).drewN nq) := (by repeat (first | exact Below.refl _ _ | assumption | refine b_drewN ?_ _ | refine Below.drew ?_ | refine b_ext' ?_ _ | refine b_alloc' ?_ _))
                have hst := (HGO.out _ hW).2.1.store s (.int .i64 (q : Nat))
                rw [ints_nl_set] at hst
                refine ⟨k + 1, nm.set s q, by omega, by go_num, ?_, hst.1, Lib.hid (by simp [HNL.out]), Lib.hid (num_next hlt HS'.out HNL.out hsn HNV.out HP.out.2), (HGO.out _ hW).2.2.setCell (Nat.le_refl _) _, rfl⟩
                rw [HP.out.1]
                exact (HGO.out _ hW).1.keep hst.2 ((HGO.out _ hW).1.ne_lt (Nat.lt_succ_self _))
          · have hqF' : q = F.length := by omega
            subst hqF'
            have hp := place_new (f := repN d) hlt HS'.out HFE.out HNO.out
            have HP := Lib.hid hp; clear hp
            have hw1 : wo.cell? ⟨br, offr + k, none⟩ = some (.int .i64 (s : Int)) := (HB.out.cell (p := ⟨br, offr + k, none⟩) hbr).trans hck
            have hbr2 : br < wo.heap.size := by omega
            have hgF : ¬ ((F.length : Int) < (F.length : Int)) := by omega
            have HCK := Lib.hid hck
            clear hck hqF
            go_wp2
            go_quiet (fail)
            go_wp2_with (at_builtin; go_loud (refine wpList_app rfl (.tmp 64) (.tmp 69) 24 rfl (w2.heap.size + 1) 3 (.int .i64 0) 8 Try.underlying24 (by kernel_rfl) rfl (by decide) (.slice ofi F.length cfi) (ints (nl F)) rfl (HGO.out _ (by repeat (first | exact Below.refl _ _ | assumption | refine b_drewN ?_ _ | refine Below.drew ?_ | refine b_ext' ?_ _ | refine b_alloc' ?_ _))).1 (.slice (some ⟨(ext wo x1).heap.size, 0, none⟩) 1 1) (ints (nl [s])) rfl (by simpa [ints, nl] using sl_lit ((ext wo x1).drewN nq) #[.int .i64 (s : Int)] 3 (by simp)) (ints_one _) (by simp; omega) (Nat.le_trans (Nat.succ_le_succ (Nat.le_trans hsz (size_ext wo x1))) (by simp)) ?_; intro v' w3 hown1 hg1 hk1; have HO3 := Lib.hid hown1; have HG5 := Lib.hid hg1; have hnum3 := (HGO.out _ (b_alloc' (b_drewN (ext_below wo x1) nq) (.cells #[.int .i64 (s : Int)] 3))).2.1.keep hg1 (HF.out.ne_blk (Nat.lt_succ_self _)); have HN3 := Lib.hid hnum3; have hcn5 := hnum3.cell (i := s) (by rw [ints_length, nl_length, HNL.out]; exact hsn); rw [ints_getD _ _ (by rw [nl_length, HNL.out]; exact hsn), nl_getD] at hcn5; have hfn5 := hnum3.free s; have HB3 := Lib.hid (below_grown (B := w2.heap.size) (HGO.out _ (b_alloc' (b_drewN (ext_below wo x1) nq) (.cells #[.int .i64 (s : Int)] 3))).2.2 (HGO.out _ (b_alloc' (b_drewN (ext_below wo x1) nq) (.cells #[.int .i64 (s : Int)] 3))).2.2.size ((HGO.out _ (b_alloc' (b_drewN (ext_below wo x1) nq) (.cells #[.int .i64 (s : Int)] 3))).1.mono (Nat.le_succ _)) hg1); have hbr3 := (HB3.out.cell (p := ⟨br, offr + k, none⟩) hbr).trans HCK.out; clear hown1 hg1 hk1 hnum3))
            go_roundg (R.length + 1 - (k + 1))
            case measure => omega
            case rel =>
              have hst := HN3.out.store s (.int .i64 (F.length : Nat))
              rw [ints_nl_set] at hst
              refine ⟨k + 1, nm.set s F.length, by omega, by go_num, ?_, hst.1, Lib.hid (by simp [HNL.out]), Lib.hid (num_next hlt HS'.out HNL.out hsn HNV.out HP.out.2), HB3.out.setCell (Nat.le_refl _) _, rfl⟩
              rw [HP.out.1, nl_append, ints_append]
              exact HO3.out.keep hst.2 (HO3.out.ne_lt (Nat.lt_succ_self _))
      · have hkR : k = R.length := by omega
        subst hkR
        rw [List.take_length] at HF HNV
        obtain ⟨w3, rfl⟩ : ∃ w3 : World, w3 = wr := ⟨_, rfl⟩
        have hpk : pickBy (repN d) R = heads d := by rw [← hR]; rfl
        rw [hpk] at HF
        have HNV2 : Hid (∀ s ∈ reach d, nm.getD s 0 = num d s) := Lib.hid (fun s hs => by
          have := HNV.out s (by rw [← hR]; exact hs)
          rw [this, ← hR]; rfl)
        have hfl : (heads d).length ≤ d.next.length := heads_len HV.out
        have HFR : Hid (∀ q, q < (heads d).length → (heads d).getD q 0 ∈ reach d) := Lib.hid (fun q hq => heads_mem (getD_mem _ q 0 hq))
        have HRD : Hid (∀ q, q < (heads d).length → (rowsD d).getD q [] = nl ((rowN d ((heads d).getD q 0)).map (num d))) := Lib.hid (fun q hq => by
          simp [rowsD, List.getD, hq])
        have hrdl : (rowsD d).length = (heads d).length := by simp [rowsD]
        have HRL := Lib.hid hrdl; clear hrdl HNV hpk
        generalize hF : heads d = F at *
        obtain ⟨of, cf, gf, rfl, hdf, -, hcf, -⟩ := HF.out.cases
        rw [ints_length, nl_length] at hdf hcf ⊢
        have HCF := Lib.hid hcf; clear hcf
        have HDF := Lib.hid hdf; clear hdf
        clear HF HDT HRT hixt hixr HDR HRR hbt HOK
        go_wp2_with (first | (refine store_dfa rfl _ _ rfl w3.heap.size rfl Z rfl (HZ.out ▸ zArr_list) List.length_replicate rfl rfl (HZ.out ▸ box_new _) ?_; intro w4 hb4 hg4; have HB4 := Lib.hid hb4; have HGR := Lib.hid hg4; clear hb4 hg4))
        have HRES3 := Lib.hid (HRES.out.up HB.out)
        have hb34 : Below w3.heap.size w3 w4 := (below_alloc w3 (.cells Z 26)).grown HGR.out (by simp) (fun j hj => by cases hj; exact Nat.le_refl _)
        have hw3 : Below w.heap.size w w3 := HW.out.trans (HB.out.mono HW.out.size)
        have hwlt : w.heap.size < w2.heap.size := by
          have := HRES.out.lt; omega
        have HX : Hid (∀ W, Below w3.heap.size w3 W → W.cell? ⟨w.heap.size, 256, none⟩ = some (.slice oa d.next.length cap) ∧ W.cell? ⟨w.heap.size, 257, none⟩ = some (.slice oq d.rules.length capq) ∧ (∀ q, q < F.length → W.cell? ⟨gf, q, none⟩ = some (.int .i64 ((F.getD q 0 : Nat) : Int))) ∧ (∀ s, s < d.next.length → W.cell? ⟨w2.heap.size, s, none⟩ = some (.int .i64 ((nm.getD s 0 : Nat) : Int))) ∧
            (∀ f, f < d.next.length → ∃ oi ci bi fi, W.cell? ⟨b, off + f, none⟩ = some (.slice oi (d.next.getD f []).length ci) ∧ Hd w oi (d.next.getD f []).length ci bi fi ∧ ∀ j, j < (d.next.getD f []).length → W.cell? ⟨bi, fi + j, none⟩ = some (.int .i64 ((d.next.getD f []).getD j 0))) ∧
            (∀ i, i < d.rules.length → W.cell? ⟨bq, offq + i, none⟩ = some (.int .i64 (d.rules.getD i 0)))) := Lib.hid (by
          intro W hW
          have hA : ∀ i, W.cell? ⟨w.heap.size, i, none⟩ = A[i]? := fun i => by
            rw [hW.cell (p := ⟨w.heap.size, i, none⟩) (show w.heap.size < w3.heap.size by omega), HB.out.cell (p := ⟨w.heap.size, i, none⟩) hwlt]
            exact cell_of_row w2 w.heap.size i A 26 (0, 0) HG4.out
          have hwW : ∀ q i, q < w.heap.size → W.cell? ⟨q, i, none⟩ = w.cell? ⟨q, i, none⟩ := fun q i hq => by
            rw [hW.cell (p := ⟨q, i, none⟩) (show q < w3.heap.size by omega), hw3.cell (p := ⟨q, i, none⟩) hq]
          refine ⟨(hA 256).trans HN.out, (hA 257).trans HR.out, fun q hq => ?_, fun s hs => ?_, fun f hf => ?_, fun i hi => ?_⟩
          · rw [hW.cell (p := ⟨gf, q, none⟩) (HDF.out.hblk (by omega)), HCF.out q hq, ints_getD _ _ (by rw [nl_length]; exact hq), nl_getD]
          · rw [hW.cell (p := ⟨w2.heap.size, s, none⟩) (HN1.out.lt _ rfl).2, HN1.out.cell (by rw [ints_length, nl_length, HNL.out]; exact hs), ints_getD _ _ (by rw [nl_length, HNL.out]; exact hs), nl_getD]
          · obtain ⟨oi, ci, bi, fi, h1, h2, h3, -⟩ := HRO.out f hf
            exact ⟨oi, ci, bi, fi, by rw [hwW _ _ (HD.out.hblk (by omega))]; exact h1, h2, fun j hj => by rw [hwW _ _ (h2.hblk (by omega))]; exact h3 j hj⟩
          · rw [hwW _ _ (HDQ.out.hblk (by omega))]; exact HRQ.out i hi)
        have HXA : Hid (∀ W, Below w3.heap.size w3 W → ∀ i, i < 256 → W.cell? ⟨w.heap.size, i, none⟩ = some (.int .i64 (d.cls.getD i 0))) := Lib.hid (by
          intro W hW i hi
          rw [hW.cell (p := ⟨w.heap.size, i, none⟩) (show w.heap.size < w3.heap.size by omega), HB.out.cell (p := ⟨w.heap.size, i, none⟩) hwlt]
          exact (cell_of_row w2 w.heap.size i A 26 (0, 0) HG4.out).trans (HC.out i hi))
        have HB34 := Lib.hid hb34
        have HW3 := Lib.hid hw3
        have hix := index_any (P := Try.prog) 23 24 Try.underlying23 (by kernel_rfl) HD.out
        have hixq := index_any (P := Try.prog) 24 3 Try.underlying24 (by kernel_rfl) HDQ.out
        have hixf := index_any (P := Try.prog) 24 3 Try.underlying24 (by kernel_rfl) HDF.out
        have hbb := HD.out.hblk (by omega)
        have hbq := HDQ.out.hblk (by rw [HV.out.2.2.1]; omega)
        have HFB := Lib.hid HDF.out.hblk
        have hw23 : w2.heap.size < w3.heap.size := (HN1.out.lt _ rfl).2
        have HQL := Lib.hid HV.out.2.2.1
        clear hb34 hw3 HN1 HNL HCF HG4 HGR HRO HRQ
        go_loopg [10, 12] (F.length + 1) (fun gk vo i wr => ∃ (k : Nat) (vs : List Value) (rv : Value), k ≤ F.length ∧ i = .int .i64 k ∧ OwnM wr (w3.heap.size + 1) 24 3 vo vs (((rowsD d).take k).map ints) ∧ BoxD wr w3.heap.size (.slice none 0 0) rv (List.replicate 256 0) ∧ Own wr (w3.heap.size + 1) 3 rv (ints ((F.take k).map (ruleN d))) ∧ OwnM.free vo vs rv.ownBlock ∧ Below w3.heap.size w3 wr ∧ gk = F.length + 1 - k)
        case atStart => exact ⟨0, [], _, Nat.zero_le _, rfl, OwnM.nil _ _ _ _, HB4.out, Own.nil _ _ _, OwnM.free_none, HB34.out, rfl⟩
        case round =>
          clear HB4 HB34
          obtain ⟨k, vs, rv, hk, rfl, hom, hbox, hrv, hfree, hbel, rfl⟩ := hrel
          have hsz := hbel.size
          have HB := Lib.hid hbel; clear hbel
          have HO := Lib.hid hom; clear hom
          have HBX := Lib.hid hbox; clear hbox
          have HRV := Lib.hid hrv; clear hrv
          have HFR2 := Lib.hid hfree; clear hfree
          by_cases hlt : k < F.length
          · have hfR := HFR.out k hlt
            have hfn : F.getD k 0 < d.next.length := (reach_met HV.out).2.1 _ hfR
            have HR1 := Lib.hid (HRD.out k hlt)
            have hgf := HFB.out (by omega)
            have HTF : Hid ((F.take (k + 1)).map (ruleN d) = (F.take k).map (ruleN d) ++ [ruleN d (F.getD k 0)]) := Lib.hid (by rw [take_succ_getD' hlt rfl, List.map_append]; rfl)
            have HRW : Hid (∀ t ∈ rowN d (F.getD k 0), t < d.next.length ∧ nm.getD t 0 = num d t) := Lib.hid (fun t ht => ⟨rowN_lt HV.out hfn ht, HNV2.out t (reach_step HV.out hfR ht)⟩)
            have HLR : Hid ((rowN d (F.getD k 0)).length = (d.next.getD (F.getD k 0) []).length) := Lib.hid (rowN_length d _)
            have HIR : Hid (∀ j, j < (d.next.getD (F.getD k 0) []).length → (d.next.getD (F.getD k 0) []).getD j 0 = (((rowN d (F.getD k 0)).getD j 0 : Nat) : Int)) := Lib.hid (fun j hj => by
              rw [rowN_getD _ _ _ hj]
              have := valid_mem HV.out hfn _ (getD_mem (d.next.getD (F.getD k 0) []) j 0 hj)
              omega)
            have hll := valid_len HV.out HLC.out hfn
            have HXF := Lib.hid (fun W hW => (HX.out W hW).2.2.2.2.1 (F.getD k 0) hfn)
            have HXC := Lib.hid (fun W hW => (HX.out W hW).2.2.1 k hlt)
            generalize F.getD k 0 = f at *
            generalize d.next.getD f [] = row at *
            go_wp2
            obtain ⟨wo, rfl⟩ : ∃ wo : World, wo = wr := ⟨_, rfl⟩
            have hbw := HB
            go_loopg [13, 14] (row.length + 1) (fun gk vl i wr => ∃ c : Nat, c ≤ row.length ∧ i = .int .i64 c ∧ Own wr wo.heap.size 3 vl (ints (nl (((rowN d f).take c).map (num d)))) ∧ Below wo.heap.size wo wr ∧ gk = row.length + 1 - c)
            case atStart => exact ⟨0, Nat.zero_le _, rfl, Own.nil _ _ _, Below.refl _ _, rfl⟩
            case round =>
              obtain ⟨c, hc, rfl, how, hbel, rfl⟩ := hrel
              have hsz2 := hbel.size
              have hb3 : Below w3.heap.size w3 wr := HB.out.trans (hbel.mono hsz)
              obtain ⟨hA1, -, -, hA4, -, -⟩ := HX.out wr hb3
              have hXC := HXC.out wr hb3
              obtain ⟨oi, ci, bi, fi, hck, hdk, hcj⟩ := HXF.out wr hb3
              have hixk := index_any (P := Try.prog) 24 3 Try.underlying24 (by kernel_rfl) hdk
              have HBB := Lib.hid hbel; clear hbel
              have HOO := Lib.hid how; clear how
              have HA4 := Lib.hid hA4; clear hA4
              have hs1 : w.heap.size < wr.heap.size := by omega
              have hs2 : gf < wr.heap.size := by omega
              have hs3 : b < wr.heap.size := by omega
              have hs4 : w2.heap.size < wr.heap.size := by omega
              by_cases hltc : c < row.length
              · have hcc := hcj c hltc
                have hbi := hdk.hblk (by omega)
                have hs5 : bi < wr.heap.size := by omega
                have hlr : c < (rowN d f).length := by rw [HLR.out]; exact hltc
                obtain ⟨htn, hnt⟩ := HRW.out _ (getD_mem (rowN d f) c 0 hlr)
                have HT : Hid ((rowN d f).take (c + 1) = (rowN d f).take c ++ [(rowN d f).getD c 0]) := Lib.hid (take_succ_getD _ _ _ hlr)
                rw [HIR.out c hltc] at hcc
                have hcn := HA4.out _ htn
                rw [hnt] at hcn
                have HML : Hid ((nl (((rowN d f).take c).map (num d))).length ≤ 1000) := Lib.hid (by simp; omega)
                generalize (rowN d f).getD c 0 = t at *
                generalize hy : num d t = y at *
                have HY := Lib.hid hy; clear hy
                have HDK := Lib.hid hdk
                have HNT := Lib.hid hnt
                have HCK := Lib.hid hck
                have HCC := Lib.hid hcc
                clear hcj hdk hnt
                go_wp2
                go_quiet (fail)
                have hbq1 : Below wr.heap.size wr (wr.drewN nq) := below_drewN wr nq
                have hszq : wr.heap.size = (wr.drewN nq).heap.size := by simp
                generalize wr.drewN nq = wq at *
                clear hcc hcn hXC hA1 hck hs1 hs2 hs3 hs4 hs5
                have hb3q : Below w3.heap.size w3 wq := hb3.trans (hbq1.mono (by omega))
                obtain ⟨hA1, -, -, hA4q, -, -⟩ := HX.out wq hb3q
                have hXC := HXC.out wq hb3q
                have hcn := hA4q _ htn
                have HBQ := Lib.hid hbq1
                have hck := (hbq1.cell (p := ⟨b, off + f, none⟩) (show b < wr.heap.size by omega)).trans HCK.out
                have hcc := (hbq1.cell (p := ⟨bi, fi + c, none⟩) (show bi < wr.heap.size by omega)).trans HCC.out
                rw [HNT.out] at hcn
                have hs1 : w.heap.size < wq.heap.size := by omega
                have hs2 : gf < wq.heap.size := by omega
                have hs3 : b < wq.heap.size := by omega
                have hs4 : w2.heap.size < wq.heap.size := by omega
                have hs5 : bi < wq.heap.size := by omega
                have HOQ := Lib.hid (HOO.out.up hbq1)
                have hsz3 : wo.heap.size ≤ wq.heap.size := by omega
                clear hA4q hbq1 hb3q hszq
                go_wp2
                refine wp_region_tailg [0,1,2,3,4,5,6,7,8,9,10,11,12,13,14] [15] [16,17] (by kernel_rfl) (by kernel_rfl) ?_
                simp only [pick, List.map_cons, List.map_nil, List.getD_cons_zero, List.getD_cons_succ]
                repeat (go_big_quiet_step (fail))
                refine wpQuiet_nil ?_
                (unfold wpAct; go_wp2; refine ⟨(ex_ext (by repeat (first | exact Below.refl _ _ | assumption | refine b_drewN ?_ _ | refine Below.drew ?_ | refine b_ext' ?_ _ | refine b_alloc' ?_ _))), ?_⟩)
                unfold wpAct
                unfold wpAct
                have hx : Sl ((wq.alloc (.cells #[.int .i64 (y : Int)] 3)).drew) (.slice (some ⟨wq.heap.size, 0, none⟩) 1 1) (ints (nl [y])) := by
                  have h1 := (sl_lit wq #[.int .i64 (y : Int)] 3 (by simp)).up (below_drewN _ 1)
                  rw [← World.drew_is_drewN] at h1
                  simpa [ints, nl] using h1
                go_wp2_with (at_builtin; go_loud (refine wpList_app rfl (.tmp 98) (.tmp 113) 24 rfl wo.heap.size 3 (.int .i64 0) 8 Try.underlying24 (by kernel_rfl) rfl (by decide) u13 (ints (nl (((rowN d f).take c).map (num d)))) rfl (HOQ.out.up (by repeat (first | exact Below.refl _ _ | assumption | refine b_drewN ?_ _ | refine Below.drew ?_ | refine b_ext' ?_ _ | refine b_alloc' ?_ _))) (.slice (some ⟨wq.heap.size, 0, none⟩) 1 1) (ints (nl [y])) rfl hx (ints_one _) (by have := HML.out; simp; omega) (Nat.le_trans hsz3 (by simp)) ?_; intro v' w5 hown1 hg1 hk1; have HO1 := Lib.hid hown1; have HG1 := Lib.hid hg1; clear hown1 hg1 hk1))
                refine ⟨trivial, ?_⟩
                unfold wpAct
                go_wp2
                refine ⟨trivial, ?_⟩
                unfold wpAct
                go_wp2
                go_roundg (row.length + 1 - (c + 1))
                case measure => omega
                case rel =>
                  refine ⟨c + 1, by omega, by go_num, ?_, below_grown (B := wo.heap.size) (b_drew1 ((HBB.out.trans (HBQ.out.mono hsz2)).alloc hsz3 _)) (by simp; omega) (HOQ.out.up (by repeat (first | exact Below.refl _ _ | assumption | refine b_drewN ?_ _ | refine Below.drew ?_ | refine b_ext' ?_ _ | refine b_alloc' ?_ _))) HG1.out, rfl⟩
                  rw [HT.out, List.map_append, List.map_cons, List.map_nil, HY.out, nl_append, ints_append]
                  exact HO1.out
              · have hcr : c = row.length := by omega
                subst hcr
                have htk : (rowN d f).take row.length = rowN d f := List.take_of_length_le (by rw [HLR.out]; exact Nat.le_refl _)
                rw [htk] at HOO
                have HDK := Lib.hid hdk
                clear hcj hdk htk
                obtain ⟨ou, cu, gu, rfl, -⟩ := HOO.out.cases
                have hul : (ints (nl ((rowN d f).map (num d)))).length = row.length := by simp [HLR.out]
                rw [hul] at HOO ⊢
                clear hul
                go_wp2
                go_quiet (fail)
                have hbq1 : Below wr.heap.size wr (wr.drewN nq) := below_drewN wr nq
                have hszq : wr.heap.size = (wr.drewN nq).heap.size := by simp
                generalize wr.drewN nq = wq at *
                have HOW : Hid (Own wq wo.heap.size 3 (.slice ou row.length cu) (ints (nl ((rowN d f).map (num d))))) := Lib.hid (HOO.out.up hbq1)
                have hbwq : Below wo.heap.size wo wq := HBB.out.trans (hbq1.mono hsz2)
                have HSP := Lib.hid (HO.out.up hbwq)
                have HRQ2 := Lib.hid (HRV.out.up hbwq)
                have HBQ := Lib.hid (HBX.out.up hbwq)
                have HWQ := Lib.hid hbwq
                have hszz : wo.heap.size ≤ wq.heap.size := by omega
                have hsB : w3.heap.size + 1 ≤ wq.heap.size := by have := HBQ.out.lt; omega
                have hvl : vs.length = k := by have h := HSP.out.len; simp [HRL.out] at h; omega
                clear hA1 hXC hck hs1 hs2 hs3 hs4 hbq1 hszq hbwq HBB HOO hb3 HA4 hixk HDK
                go_wp2_with (at_builtin; go_loud (refine wpList_app rfl (.tmp 115) (.tmp 117) 23 rfl (w3.heap.size + 1) 24 (.slice none 0 0) 24 Try.underlying23 (by kernel_rfl) rfl (by decide) u10 vs rfl (HSP.out.outer.up (below_alloc _ _)) (.slice (some ⟨wq.heap.size, 0, none⟩) 1 1) [.slice ou row.length cu] rfl (sl_lit wq #[_] 24 (by simp)) (by simp; exact own_oneCell HOW.out) (by simp; omega) (Nat.le_trans hsB (by simp)) ?_; intro v' w5 hown1 hg1 hk1; have HO1 := Lib.hid hown1; have HG1 := Lib.hid hg1; have HK1 := Lib.hid hk1; clear hown1 hg1 hk1))
                have hom5 := HSP.out.push (r := .slice ou row.length cu) (HOW.out.mono (show w3.heap.size + 1 ≤ wo.heap.size by have := HBX.out.lt; omega)) (by
                  cases hu : (Value.slice ou row.length cu).ownBlock with
                  | none => exact OwnM.free_none
                  | some q => exact ⟨fun j hj e => by have := (HOW.out.lt q hu).1; have := HO.out.outer.lt j hj; injection e with e; omega, fun a ha j hj e => by have := (HOW.out.lt q hu).1; have := (HO.out.rows a (by rw [← HO.out.len]; exact ha)).lt j hj; injection e with e; omega⟩) (grown_below (below_alloc _ _) none) HO1.out HG1.out HK1.out
                have HOM5 := Lib.hid hom5; clear hom5
                have hg0 : wq.grownBy w5 u10.ownBlock := grown_trans (grown_below (below_alloc _ _) _) HG1.out
                have HRV5 := Lib.hid (HRQ2.out.keep hg0 (ne_of_row fun j hj e => HFR2.out.1 j e hj))
                have HBX5 := Lib.hid (HBQ.out.keep hg0 (fun e => by have := HSP.out.outer.lt _ e; omega))
                have hb5 : Below w3.heap.size w3 w5 := below_grown (B := w3.heap.size) (HB.out.trans (HWQ.out.mono hsz)) (by omega) (HSP.out.outer.mono (Nat.le_succ _)) hg0
                have HB5 := Lib.hid hb5
                have HFR5 := Lib.hid (OwnM.free_push (r := .slice ou row.length cu) (v' := v') HFR2.out HRQ2.out (fun j hj e => by have := (HOW.out.lt j hj).1; have := HRV.out.lt j e; omega) (fun j hj => by
                  rcases HK1.out j hj with h | h
                  · exact .inl h
                  · right; simp at h; omega))
                obtain ⟨-, hA2, -, -, -, hA6⟩ := HX.out w5 hb5
                have hfk := HXC.out w5 hb5
                have hfr : f < d.rules.length := by rw [HQL.out]; exact hfn
                have hrq := hA6 f hfr
                have hcb := HBX5.out.cellR
                have hzz : w3.heap.size < w5.heap.size := HBX5.out.lt
                have hs1 : w.heap.size < w5.heap.size := by omega
                have hs2 : gf < w5.heap.size := by omega
                have hs3 : bq < w5.heap.size := by omega
                have HRF : Hid (d.rules.getD f 0 = ruleN d f) := Lib.hid rfl
                have HZL : Hid ((ints ((F.take k).map (ruleN d))).length ≤ 1000) := Lib.hid (by simp; omega)
                clear hA6 hb5 hg0 HSP HRQ2 HBQ
                generalize d.rules.getD f 0 = y at *
                refine wp_region_tailg [0,1,2,3,4,5,6,7,8,9] [10] [11,12,13] (by kernel_rfl) (by kernel_rfl) ?_
                simp only [pick, List.map_cons, List.map_nil, List.getD_cons_zero, List.getD_cons_succ]
                repeat (go_big_quiet_step (fail))
                refine wpQuiet_nil ?_
                (unfold wpAct; go_wp2; refine ⟨(ex_ext (by repeat (first | exact Below.refl _ _ | assumption | refine b_drewN ?_ _ | refine Below.drew ?_ | refine b_ext' ?_ _ | refine b_alloc' ?_ _))), ?_⟩)
                unfold wpAct
                unfold wpAct
                have hx : Sl ((w5.alloc (.cells #[.int .i64 y] 3)).drew) (.slice (some ⟨w5.heap.size, 0, none⟩) 1 1) (ints [y]) := by
                  have h1 := (sl_lit w5 #[.int .i64 y] 3 (by simp)).up (below_drewN _ 1)
                  rw [← World.drew_is_drewN] at h1
                  simpa [ints] using h1
                go_wp2_with (at_builtin; go_loud (refine wpList_app rfl (.tmp 120) (.tmp 129) 24 rfl (w3.heap.size + 1) 3 (.int .i64 0) 8 Try.underlying24 (by kernel_rfl) rfl (by decide) rv (ints ((F.take k).map (ruleN d))) rfl (HRV5.out.up (by repeat (first | exact Below.refl _ _ | assumption | refine b_drewN ?_ _ | refine Below.drew ?_ | refine b_ext' ?_ _ | refine b_alloc' ?_ _))) (.slice (some ⟨w5.heap.size, 0, none⟩) 1 1) (ints [y]) rfl hx (ints_one _) (by have := HZL.out; simp at this ⊢; omega) (Nat.le_trans (Nat.succ_le_of_lt hzz) (by simp)) ?_; intro v6 w6 hown1 hg1 hk1; obtain ⟨oz, nz, cz, rfl⟩ := own_slice hown1; have HO6 := Lib.hid hown1; have HG6 := Lib.hid hg1; have HK6 := Lib.hid hk1; clear hown1 hg1 hk1))
                refine ⟨trivial, ?_⟩
                unfold wpAct
                go_wp2
                refine ⟨trivial, ?_⟩
                unfold wpAct
                have hg5 : w5.grownBy w6 rv.ownBlock := grown_trans (grown_below (by repeat (first | exact Below.refl _ _ | assumption | refine b_drewN ?_ _ | refine Below.drew ?_ | refine b_ext' ?_ _ | refine b_alloc' ?_ _)) _) HG6.out
                have HBX6 := Lib.hid (HBX5.out.keep hg5 (fun e => by have := HRV5.out.lt _ e; omega))
                have hcb6 := HBX6.out.cellR
                have hfb6 := HBX6.out.free 257
                go_wp2
                refine ⟨trivial, ?_⟩
                unfold wpAct
                go_wp2
                go_roundg (F.length + 1 - (k + 1))
                case measure => omega
                case rel =>
                  have hom6 := HOM5.out.keep' hg5 HFR5.out
                  obtain ⟨hbs, hgs⟩ := HBX6.out.setR (.slice oz nz cz)
                  have hb6 : Below w3.heap.size w3 w6 := below_grown (B := w3.heap.size) HB5.out (by omega) (HRV5.out.mono (Nat.le_succ _)) hg5
                  have hk6 : ∀ j, (Value.slice oz nz cz).ownBlock = some j → rv.ownBlock = some j ∨ w5.heap.size ≤ j := fun j hj => by
                    rcases HK6.out j hj with h | h
                    · exact .inl h
                    · right; simp at h; omega
                  refine ⟨k + 1, vs ++ [.slice ou row.length cu], .slice oz nz cz, by omega, by go_num, ?_, hbs, ?_, HOM5.out.free_step HFR5.out hk6, hb6.setCell (Nat.le_refl _) _, rfl⟩
                  · rw [take_succ_getD' (z := []) (by rw [HRL.out]; exact hlt) HR1.out, List.map_append]
                    exact hom6.keep' hgs (hom6.free_below (Nat.lt_succ_self _))
                  · rw [HTF.out, ints_append, ← HRF.out]
                    exact HO6.out.keep hgs (HO6.out.ne_lt (Nat.lt_succ_self _))
          · have hkF : k = F.length := by omega
            subst hkF
            have htr : (rowsD d).take F.length = rowsD d := List.take_of_length_le (by rw [HRL.out]; exact Nat.le_refl _)
            rw [htr] at HO
            rw [List.take_length] at HRV
            obtain ⟨w7, rfl⟩ : ∃ w7 : World, w7 = wr := ⟨_, rfl⟩
            clear htr
            have HRA : Hid (∀ W, w7.grownBy W (some w3.heap.size) → RowsAt W u10 (rowsD d)) := Lib.hid (fun W hW => (HO.out.keep' hW (HO.out.free_below (Nat.lt_succ_self _))).rowsG.ints)
            have HRK : Hid (∀ c, c < 256 → 0 ≤ d.cls.getD c 0 ∧ ∀ j, j < (rowsD d).length → d.cls.getD c 0 < ((rowsD d).getD j []).length) := Lib.hid (fun c hc => by
              obtain ⟨k0, hk0, -⟩ := cls_lt HV.out HLC.out (i := 0) (by omega) hc
              refine ⟨by omega, fun j hj => ?_⟩
              have hj' : j < F.length := by rw [← HRL.out]; exact hj
              have hfn := (reach_met HV.out).2.1 _ (HFR.out j hj')
              obtain ⟨k1, hk1, hk2⟩ := cls_lt HV.out HLC.out hfn hc
              rw [HRD.out j hj', nl_length, List.length_map, rowN_length]
              omega)
            have HCOL : Hid (∀ W, w7.grownBy W (some w3.heap.size) → ∀ a b', a ∈ d.cls → b' < 256 → Calls Try.prog 25 #[u10, .int .i64 a, .int .i64 (d.cls.getD b' 0)] W fun e w' => e = .returned (.bool (decide (colI (rowsD d) a = colI (rowsD d) (d.cls.getD b' 0)))) ∧ ∃ x, w' = ext W x) := Lib.hid (fun W hW a b' ha hb' => by
              obtain ⟨i, hi, rfl⟩ := List.mem_iff_getElem.1 ha
              have e : d.cls[i] = d.cls.getD i 0 := by simp [List.getD, hi]
              rw [e]
              have h1 := HRK.out i (by rw [← HLC.out]; exact hi)
              have h2 := HRK.out b' hb'
              exact column u10 (rowsD d) _ _ W (HRA.out W hW) h1.1 h2.1 fun j hj => ⟨h1.2 j hj, h2.2 j hj⟩)
            have HBX0 := HBX
            go_wp2
            go_loopg [15, 16] 257 (fun gk vc i wr => ∃ (c : Nat) (cl : List Int), c ≤ 256 ∧ i = .int .i64 c ∧ Own wr w7.heap.size 3 vc (ints (pickBy (colI (rowsD d)) (d.cls.take c))) ∧ BoxD wr w3.heap.size (.slice none 0 0) rv cl ∧ Hid (∀ i, i < c → cl.getD i 0 = (place (colI (rowsD d)) d.cls (d.cls.getD i 0) : Nat)) ∧ w7.grownBy wr (some w3.heap.size) ∧ gk = 257 - c)
            case atStart => exact ⟨0, _, Nat.zero_le _, rfl, Own.nil _ _ _, HBX.out, Lib.hid (fun i hi => absurd hi (Nat.not_lt_zero i)), grown_refl _ _, rfl⟩
            case round =>
              obtain ⟨c, cl, hc, rfl, how, hbox, HCL, hgr, rfl⟩ := hrel
              have HOC := Lib.hid how; clear how
              have HBC := Lib.hid hbox; clear hbox
              have HGC := Lib.hid hgr; clear hgr
              by_cases hlt : c < 256
              · have hlc : c < d.cls.length := by rw [HLC.out]; exact hlt
                obtain ⟨ol, cl0, gl, hvl, hdl, -, hcl, -⟩ := HOC.out.cases
                subst hvl
                generalize hL : pickBy (colI (rowsD d)) (d.cls.take c) = L at *
                rw [ints_length] at HOC hdl hcl ⊢
                have HPL := Lib.hid hL; clear hL
                have HLM : Hid (∀ q, q < L.length → L.getD q 0 ∈ d.cls) := Lib.hid (fun q hq => List.mem_of_mem_take (mem_pickBy (by rw [HPL.out]; exact getD_mem L q 0 hq)))
                have hll : L.length ≤ 256 := by
                  have := pickBy_len (colI (rowsD d)) (d.cls.take c)
                  rw [HPL.out] at this; simp at this; omega
                have hixl := index_any (P := Try.prog) 24 3 Try.underlying24 (by kernel_rfl) hdl
                have HDL := Lib.hid hdl; clear hdl
                have HCL2 := Lib.hid hcl; clear hcl
                go_wp2
                obtain ⟨wo, rfl⟩ : ∃ wo : World, wo = wr := ⟨_, rfl⟩
                have hb3 : Below w3.heap.size w3 wo := HB.out.trans ⟨HGC.out.os, HGC.out.tape, HGC.out.output, HGC.out.size, fun j hj => HGC.out.block j (by have := HB.out.size; omega) (by intro e; injection e with e; omega)⟩
                have hAc := HXA.out wo hb3 c hlt
                have hs1 : w.heap.size < wo.heap.size := by have := hb3.size; omega
                have HCO := Lib.hid (fun W (hW : Below wo.heap.size wo W) a ha => HCOL.out W (grown_trans HGC.out (grown_below hW _)) a c ha hlt)
                have HAC := Lib.hid hAc; clear hAc
                go_loopg [17] (L.length + 1) (fun gk j wr => ∃ q : Nat, q ≤ L.length ∧ j = .int .i64 q ∧ Hid (∀ a, a < q → colI (rowsD d) (L.getD a 0) ≠ colI (rowsD d) (d.cls.getD c 0)) ∧ Below wo.heap.size wo wr ∧ gk = L.length + 1 - q)
                case atStart => exact ⟨0, Nat.zero_le _, rfl, Lib.hid (fun a ha => absurd ha (Nat.not_lt_zero a)), Below.refl _ _, rfl⟩
                case round =>
                  obtain ⟨q, hq, rfl, HNO, hbi, rfl⟩ := hrel
                  have hszi := hbi.size
                  have HBI := Lib.hid hbi; clear hbi
                  have hAc := (HBI.out.cell (p := ⟨w.heap.size, c, none⟩) hs1).trans HAC.out
                  have hs2 : w.heap.size < wr.heap.size := by omega
                  by_cases hqL : q < L.length
                  · have hgl0 := HDL.out.hblk (by omega)
                    have hcq := (HBI.out.cell (p := ⟨gl, q, none⟩) hgl0).trans (HCL2.out q hqL)
                    rw [ints_getD _ _ hqL] at hcq
                    have hgl : gl < wr.heap.size := by omega
                    have HCA := Lib.hid (fun x => HCO.out (ext wr x) (b_ext HBI.out hszi x) _ (HLM.out q hqL))
                    have HF1 : Hid (∀ a, a < q + 1 → colI (rowsD d) (L.getD q 0) ≠ colI (rowsD d) (d.cls.getD c 0) → colI (rowsD d) (L.getD a 0) ≠ colI (rowsD d) (d.cls.getD c 0)) := Lib.hid (fun a ha he => by
                      rcases Nat.lt_succ_iff_lt_or_eq.1 ha with h | rfl
                      · exact HNO.out a h
                      · exact he)
                    have HF2 := Lib.hid (fun h2 => place_found (f := colI (rowsD d)) hlc rfl HPL.out hqL HNO.out h2)
                    generalize L.getD q 0 = a at *
                    by_cases he : colI (rowsD d) a = colI (rowsD d) (d.cls.getD c 0)
                    · have hp := HF2.out he
                      have hdt : decide (colI (rowsD d) a = colI (rowsD d) (d.cls.getD c 0)) = true := by simpa using he
                      rw [hdt] at HCA
                      have HP := Lib.hid hp
                      clear hp he hdt
                      have HKP : Hid (place (colI (rowsD d)) d.cls (d.cls.getD c 0) = q) := Lib.hid HP.out.2
                      generalize hkap : d.cls.getD c 0 = kap at *
                      have HKA := Lib.hid hkap; clear hkap
                      go_wp2
                      refine wp_region_ext (by kernel_rfl) (by kernel_rfl) ?_
                      repeat (go_big_quiet_step ((go_at_call 25; exact calls_in (HCA.out _))))
                      refine wpQuiet_nil ?_
                      rintro w' ⟨x2, rfl⟩
                      have hbq : Below wo.heap.size wo (ext wr x2) := b_ext HBI.out hszi x2
                      generalize ext wr x2 = wq at *
                      have HBQ := Lib.hid (HBC.out.up hbq)
                      have hcb := HBQ.out.cellC hlt
                      have hfb := HBQ.out.free c
                      have hqne : ¬ ((q : Int) = (L.length : Int)) := by omega
                      have HBW := Lib.hid hbq
                      generalize cl.getD c 0 = y0 at hcb
                      clear hbq hcq hAc
                      go_wp2
                      go_roundg (257 - (c + 1))
                      case measure => omega
                      case rel =>
                        obtain ⟨hbs, hgs⟩ := HBQ.out.setC hlt (q : Nat)
                        refine ⟨c + 1, cl.set c (q : Nat), by omega, by go_num, ?_, hbs, Lib.hid (fun i hi => ?_), grown_trans HGC.out (grown_trans (grown_below HBW.out _) hgs), rfl⟩
                        · rw [HP.out.1]; exact (HOC.out.up HBW.out).keep hgs ((HOC.out.up HBW.out).ne_lt HBX0.out.lt)
                        · rcases Nat.lt_succ_iff_lt_or_eq.1 hi with h | rfl
                          · rw [getD_set_ne' (by omega)]; exact HCL.out i h
                          · rw [getD_set_self' (by rw [HBC.out.len]; exact hlt), HKA.out, HKP.out]
                    · have hdt : decide (colI (rowsD d) a = colI (rowsD d) (d.cls.getD c 0)) = false := by simpa using he
                      rw [hdt] at HCA
                      have HNE := Lib.hid (HF1.out · · he)
                      clear he hdt HF2
                      generalize hkap : d.cls.getD c 0 = kap at *
                      have HKA := Lib.hid hkap; clear hkap
                      go_wp2
                      refine wp_region_ext (by kernel_rfl) (by kernel_rfl) ?_
                      repeat (go_big_quiet_step ((go_at_call 25; exact calls_in (HCA.out _))))
                      refine wpQuiet_nil ?_
                      rintro w' ⟨x2, rfl⟩
                      have HBW := Lib.hid (b_ext HBI.out hszi x2)
                      go_wp2
                      go_roundg (L.length + 1 - (q + 1))
                      case measure => omega
                      case rel => exact ⟨q + 1, by omega, by go_num, Lib.hid HNE.out, HBW.out, rfl⟩
                  · have hqF' : q = L.length := by omega
                    subst hqF'
                    have hp := place_new (f := colI (rowsD d)) hlc rfl HPL.out HNO.out
                    have HP := Lib.hid hp; clear hp
                    have hgF : ¬ ((L.length : Int) < (L.length : Int)) := by omega
                    generalize hkap : d.cls.getD c 0 = kap at *
                    have HKA := Lib.hid hkap; clear hkap
                    clear hqL
                    go_wp2
                    refine wp_region_ext (by kernel_rfl) (by kernel_rfl) ?_
                    repeat (go_big_quiet_step (fail))
                    refine wpQuiet_nil ?_
                    rintro w' ⟨x2, rfl⟩
                    have hbq : Below wo.heap.size wo (ext wr x2) := b_ext HBI.out hszi x2
                    generalize ext wr x2 = wq at *
                    have hszq := hbq.size
                    have HBQ := Lib.hid (HBC.out.up hbq)
                    have HOQ := Lib.hid (HOC.out.up hbq)
                    have HBW := Lib.hid hbq
                    have hAq := (hbq.cell (p := ⟨w.heap.size, c, none⟩) hs1).trans HAC.out
                    have hs3 : w.heap.size < wq.heap.size := by omega
                    have hw7 : w7.heap.size ≤ wq.heap.size := Nat.le_trans HGC.out.size hszq
                    clear hbq hAc
                    go_wp2_with (at_builtin; go_loud (refine wpList_app rfl (.tmp 159) (.tmp 164) 24 rfl w7.heap.size 3 (.int .i64 0) 8 Try.underlying24 (by kernel_rfl) rfl (by decide) (.slice ol L.length cl0) (ints L) rfl (HOQ.out.up (below_alloc _ _)) (.slice (some ⟨wq.heap.size, 0, none⟩) 1 1) (ints [kap]) rfl (by simpa [ints] using sl_lit wq #[.int .i64 kap] 3 (by simp)) (ints_one _) (by simp; omega) (Nat.le_trans hw7 (by simp)) ?_; intro v' w8 hown1 hg1 hk1; have HO8 := Lib.hid hown1; have hg8 := grown_trans (grown_below (below_alloc wq (.cells #[.int .i64 kap] 3)) _) hg1; have HG8 := Lib.hid hg8; have HB8 := Lib.hid (HBQ.out.keep hg8 (fun e => by have := HOQ.out.lt _ e; have := HBX0.out.lt; omega)); have hcb := HB8.out.cellC hlt; have hfb := HB8.out.free c; clear hown1 hg1 hk1 hg8))
                    go_roundg (257 - (c + 1))
                    case measure => omega
                    case rel =>
                      obtain ⟨hbs, hgs⟩ := HB8.out.setC hlt (L.length : Nat)
                      refine ⟨c + 1, cl.set c (L.length : Nat), by omega, by go_num, ?_, hbs, Lib.hid (fun i hi => ?_), grown_trans (grown_late (grown_trans HGC.out (grown_below HBW.out _)) HG8.out (fun k hk => (HOQ.out.lt k hk).1)) hgs, rfl⟩
                      · rw [HP.out.1, ints_append]; exact HO8.out.keep hgs (HO8.out.ne_lt HBX0.out.lt)
                      · rcases Nat.lt_succ_iff_lt_or_eq.1 hi with h | rfl
                        · rw [getD_set_ne' (by omega)]; exact HCL.out i h
                        · rw [getD_set_self' (by rw [HBC.out.len]; exact hlt), HKA.out, HP.out.2]
              · have hc6 : c = 256 := by omega
                subst hc6
                have hct : d.cls.take 256 = d.cls := List.take_of_length_le (by rw [HLC.out]; exact Nat.le_refl _)
                rw [hct] at HOC
                have HCE : Hid (cl = clsI (rowsD d) d.cls) := Lib.hid (ext_getD (by rw [HBC.out.len]; simp [clsI, HLC.out]) (fun i hi => by
                  have hi' : i < d.cls.length := by rw [HLC.out, ← HBC.out.len]; exact hi
                  rw [HCL.out i (by rw [← HBC.out.len]; exact hi), clsI, nl_getD]
                  simp [List.getD, hi']))
                clear hct HCL
                obtain ⟨w9, rfl⟩ : ∃ w9 : World, w9 = wr := ⟨_, rfl⟩
                have HRV9 := Lib.hid (HRV.out.keep HGC.out (HRV.out.ne_lt (Nat.lt_succ_self _)))
                have HRS : Hid (∀ W, w9.grownBy W (some w3.heap.size) → RowsAt W u10 (rowsD d)) := Lib.hid (fun W hW => HRA.out W (grown_trans HGC.out hW))
                have HLS : Hid (∀ W, w9.grownBy W (some w3.heap.size) → IntsAt W u15 (leftI (rowsD d) d.cls)) := Lib.hid (fun W hW => (HOC.out.keep hW (HOC.out.ne_lt HBX0.out.lt)).sl)
                obtain ⟨o9, cap9, -, -, hu10, -, -⟩ := (HRS.out w9 (grown_refl _ _)).open
                obtain ⟨ol9, cl9, -, -, hu15, -, -⟩ := (HLS.out w9 (grown_refl _ _)).open
                subst hu10
                subst hu15
                have hrl9 : (rowsD d).length = F.length := HRL.out
                rw [hrl9] at HRS ⊢
                clear hrl9
                have HNL9 : Hid ((nextI (rowsD d) (leftI (rowsD d) d.cls)).length = F.length) := Lib.hid (by simp [nextI, HRL.out])
                have HBX9 := HBC
                rw [HCE.out] at HBX9
                generalize hlf : leftI (rowsD d) d.cls = lf at *
                go_wp2
                go_loopg [18] (F.length + 1) (fun gk i wr => ∃ (k : Nat) (vs : List Value) (nv : Value), k ≤ F.length ∧ i = .int .i64 k ∧ BoxD wr w3.heap.size nv rv (clsI (rowsD d) d.cls) ∧ OwnM wr w9.heap.size 24 3 nv vs (((nextI (rowsD d) lf).take k).map ints) ∧ w9.grownBy wr (some w3.heap.size) ∧ gk = F.length + 1 - k)
                case atStart => exact ⟨0, [], _, Nat.zero_le _, rfl, HBX9.out, OwnM.nil _ _ _ _, grown_refl _ _, rfl⟩
                case round =>
                  obtain ⟨k, vs, nv, hk, rfl, hbox, hom, hgr, rfl⟩ := hrel
                  have HBN := Lib.hid hbox; clear hbox
                  have HON := Lib.hid hom; clear hom
                  have HGN := Lib.hid hgr; clear hgr
                  obtain ⟨oz, cz, bz, fz, hez, hdz, hrz⟩ := (HRS.out wr HGN.out).open
                  obtain ⟨oy, cy, by_, fy, hey, hdy, hry⟩ := (HLS.out wr HGN.out).open
                  have hzl : (rowsD d).length = F.length := HRL.out
                  rw [hzl] at hez hdz hrz
                  cases hez
                  cases hey
                  by_cases hlt : k < F.length
                  · obtain ⟨oi, ci, bi, fi, hck, hdk, hcj, -⟩ := hrz k hlt
                    have HLV : Hid (∀ j, j < lf.length → 0 ≤ lf.getD j 0 ∧ lf.getD j 0 < ((rowsD d).getD k []).length) := Lib.hid (fun j hj => by
                      have hm : lf.getD j 0 ∈ d.cls := mem_pickBy (f := colI (rowsD d)) (by rw [show pickBy (colI (rowsD d)) d.cls = lf from hlf]; exact getD_mem lf j 0 hj)
                      obtain ⟨a, ha, hae⟩ := List.mem_iff_getElem.1 hm
                      have h1 := HRK.out a (by rw [← HLC.out]; exact ha)
                      have e : d.cls.getD a 0 = lf.getD j 0 := by rw [← hae]; simp [List.getD, ha]
                      rw [e] at h1
                      exact ⟨h1.1, h1.2 k (by rw [HRL.out]; exact hlt)⟩)
                    have HNR : Hid ((nextI (rowsD d) lf).getD k [] = lf.map fun kap => ((rowsD d).getD k []).getD kap.toNat 0) := Lib.hid (by
                      have : k < (rowsD d).length := by rw [HRL.out]; exact hlt
                      simp [nextI, List.getD, this])
                    generalize (rowsD d).getD k [] = row at *
                    have hszw : w9.heap.size ≤ wr.heap.size := HGN.out.size
                    have hlfl : lf.length ≤ 256 := by
                      have := pickBy_len (colI (rowsD d)) d.cls
                      rw [show pickBy (colI (rowsD d)) d.cls = lf from hlf, HLC.out] at this; exact this
                    have HCK := Lib.hid hck
                    have HCJ := Lib.hid hcj
                    have HRY := Lib.hid hry
                    have HDY := Lib.hid hdy
                    have HDZ := Lib.hid hdz
                    have HDK := Lib.hid hdk
                    have hbz := hdz.hblk (by omega)
                    have hix9 := index_any (P := Try.prog) 23 24 Try.underlying23 (by kernel_rfl) hdz
                    have hixl9 := index_any (P := Try.prog) 24 3 Try.underlying24 (by kernel_rfl) hdy
                    have hixk := index_any (P := Try.prog) 24 3 Try.underlying24 (by kernel_rfl) hdk
                    clear hck hcj hry hdy hdz hdk hrz
                    obtain ⟨cn, hcn⟩ : ∃ l : List Int, l = lf.map fun kap => row.getD kap.toNat 0 := ⟨_, rfl⟩
                    have hcnl : cn.length = lf.length := by rw [hcn]; simp
                    have HCN : Hid (∀ j, j < lf.length → cn.getD j 0 = row.getD (lf.getD j 0).toNat 0) := Lib.hid (fun j hj => by rw [hcn]; simp [List.getD, hj])
                    rw [← hcn] at HNR
                    have HCNL := Lib.hid hcnl
                    clear hcn hcnl
                    go_wp2
                    obtain ⟨wo, rfl⟩ : ∃ wo : World, wo = wr := ⟨_, rfl⟩
                    go_loopg [19, 20] (lf.length + 1) (fun gk vl i wr => ∃ c : Nat, c ≤ lf.length ∧ i = .int .i64 c ∧ Own wr wo.heap.size 3 vl (ints (cn.take c)) ∧ Below wo.heap.size wo wr ∧ gk = lf.length + 1 - c)
                    case atStart => exact ⟨0, Nat.zero_le _, rfl, Own.nil _ _ _, Below.refl _ _, rfl⟩
                    case round =>
                      obtain ⟨c, hc, rfl, how, hbel, rfl⟩ := hrel
                      have hsz2 := hbel.size
                      have HBB := Lib.hid hbel; clear hbel
                      have HOO := Lib.hid how; clear how
                      by_cases hltc : c < lf.length
                      · have hv9 := HLV.out c hltc
                        have hw1 := (HBB.out.cell (p := ⟨bz, fz + k, none⟩) hbz).trans HCK.out
                        have hby := HDY.out.hblk (by omega)
                        have hw2 := (HBB.out.cell (p := ⟨by_, fy + c, none⟩) hby).trans (HRY.out c hltc)
                        have hbi := HDK.out.hblk (by omega)
                        have hw3 := (HBB.out.cell (p := ⟨bi, fi + (lf.getD c 0).toNat, none⟩) hbi).trans (HCJ.out (lf.getD c 0).toNat (by omega))
                        rw [← HCN.out c hltc] at hw3
                        have HT : Hid (cn.take (c + 1) = cn.take c ++ [cn.getD c 0]) := Lib.hid (take_succ_getD _ _ _ (by rw [HCNL.out]; exact hltc))
                        have hs1 : bz < wr.heap.size := by omega
                        have hs2 : by_ < wr.heap.size := by omega
                        have hs3 : bi < wr.heap.size := by omega
                        generalize lf.getD c 0 = kap at *
                        generalize cn.getD c 0 = y at *
                        go_wp2
                        refine wp_region_tailg [0,1,2,3,4,5,6,7,8,9,10] [11] [12,13] (by kernel_rfl) (by kernel_rfl) ?_
                        simp only [pick, List.map_cons, List.map_nil, List.getD_cons_zero, List.getD_cons_succ]
                        repeat (go_big_quiet_step (fail))
                        refine wpQuiet_nil ?_
                        (unfold wpAct; go_wp2; refine ⟨(ex_ext (by repeat (first | exact Below.refl _ _ | assumption | refine b_drewN ?_ _ | refine Below.drew ?_ | refine b_ext' ?_ _ | refine b_alloc' ?_ _))), ?_⟩)
                        unfold wpAct
                        unfold wpAct
                        have hx : Sl ((wr.alloc (.cells #[.int .i64 y] 3)).drew) (.slice (some ⟨wr.heap.size, 0, none⟩) 1 1) (ints [y]) := by
                          have h1 := (sl_lit wr #[.int .i64 y] 3 (by simp)).up (below_drewN _ 1)
                          rw [← World.drew_is_drewN] at h1
                          simpa [ints] using h1
                        have HCT : Hid ((ints (cn.take c)).length ≤ 256) := Lib.hid (by simp; omega)
                        go_wp2_with (at_builtin; go_loud (refine wpList_app rfl (.tmp 182) (.tmp 193) 24 rfl wo.heap.size 3 (.int .i64 0) 8 Try.underlying24 (by kernel_rfl) rfl (by decide) u19 (ints (cn.take c)) rfl (HOO.out.up (by repeat (first | exact Below.refl _ _ | assumption | refine b_drewN ?_ _ | refine Below.drew ?_ | refine b_ext' ?_ _ | refine b_alloc' ?_ _))) (.slice (some ⟨wr.heap.size, 0, none⟩) 1 1) (ints [y]) rfl hx (ints_one _) (by have := HCT.out; simp at this ⊢; omega) (Nat.le_trans hsz2 (by simp)) ?_; intro v' w10 hown1 hg1 hk1; have HO1 := Lib.hid hown1; have HG1 := Lib.hid hg1; clear hown1 hg1 hk1))
                        refine ⟨trivial, ?_⟩
                        unfold wpAct
                        go_wp2
                        refine ⟨trivial, ?_⟩
                        unfold wpAct
                        go_wp2
                        go_roundg (lf.length + 1 - (c + 1))
                        case measure => omega
                        case rel =>
                          refine ⟨c + 1, by omega, by go_num, ?_, below_grown (B := wo.heap.size) (b_drew1 (HBB.out.alloc hsz2 _)) (by simp; omega) (HOO.out.up (by repeat (first | exact Below.refl _ _ | assumption | refine b_drewN ?_ _ | refine Below.drew ?_ | refine b_ext' ?_ _ | refine b_alloc' ?_ _))) HG1.out, rfl⟩
                          rw [HT.out, ints_append]
                          exact HO1.out
                      · have hcl9 : c = lf.length := by omega
                        subst hcl9
                        have hct : cn.take lf.length = cn := List.take_of_length_le (by rw [HCNL.out]; exact Nat.le_refl _)
                        rw [hct] at HOO
                        clear hct
                        obtain ⟨ou, cu, gu, rfl, -⟩ := HOO.out.cases
                        have hul : (ints cn).length = lf.length := by rw [ints_length, HCNL.out]
                        rw [hul] at HOO ⊢
                        clear hul
                        have HBN1 := Lib.hid (HBN.out.up HBB.out)
                        have HON1 := Lib.hid (HON.out.up HBB.out)
                        have hcb := HBN1.out.cellN
                        have hbl := HBN1.out.lt
                        have hvl : vs.length = k := by have h := HON1.out.len; simp [HNL9.out] at h; omega
                        have hsz9 : w9.heap.size ≤ wr.heap.size := Nat.le_trans hszw hsz2
                        go_wp2_with (at_builtin; go_loud (refine wpList_app rfl (.tmp 196) (.tmp 198) 23 rfl w9.heap.size 24 (.slice none 0 0) 24 Try.underlying23 (by kernel_rfl) rfl (by decide) nv vs rfl (HON1.out.outer.up (below_alloc _ _)) (.slice (some ⟨wr.heap.size, 0, none⟩) 1 1) [.slice ou lf.length cu] rfl (sl_lit wr #[_] 24 (by simp)) (by simp; exact own_oneCell HOO.out) (by simp; omega) (Nat.le_trans hsz9 (by simp)) ?_; intro v' w11 hown1 hg1 hk1; obtain ⟨oq1, nq1, cq1, rfl⟩ := own_slice hown1; have HO1 := Lib.hid hown1; have hg11 := grown_trans (grown_below (below_alloc wr (.cells #[.slice ou lf.length cu] 24)) _) hg1; have HG1 := Lib.hid hg1; have HG11 := Lib.hid hg11; have HK1 := Lib.hid hk1; have HB11 := Lib.hid (HBN1.out.keep hg11 (fun e => by have := HON1.out.outer.lt _ e; have := HBX9.out.lt; omega)); have hcb1 := HB11.out.cellN; have hfb1 := HB11.out.free 256; clear hown1 hg1 hk1 hg11))
                        go_roundg (F.length + 1 - (k + 1))
                        case measure => omega
                        case rel =>
                          obtain ⟨hbs, hgs⟩ := HB11.out.setN (.slice oq1 nq1 cq1)
                          have hp := HON1.out.push (r := .slice ou lf.length cu) (HOO.out.mono hszw) (by
                            cases hu : (Value.slice ou lf.length cu).ownBlock with
                            | none => exact OwnM.free_none
                            | some q => exact HON.out.free_new (HOO.out.lt q hu).1) (grown_below (below_alloc _ _) none) HO1.out HG1.out HK1.out
                          refine ⟨k + 1, vs ++ [.slice ou lf.length cu], .slice oq1 nq1 cq1, by omega, by go_num, hbs, ?_, grown_trans (grown_late (grown_trans HGN.out (grown_below HBB.out _)) HG11.out (fun j hj => (HON1.out.outer.lt j hj).1)) hgs, rfl⟩
                          rw [take_succ_getD' (z := []) (by rw [HNL9.out]; exact hlt) HNR.out, List.map_append]
                          exact hp.keep' hgs (hp.free_below HBX9.out.lt)
                  · have hkF9 : k = F.length := by omega
                    subst hkF9
                    have htn : (nextI (rowsD d) lf).take F.length = nextI (rowsD d) lf := List.take_of_length_le (by rw [HNL9.out]; exact Nat.le_refl _)
                    rw [htn] at HON
                    clear htn
                    have hg7 : w7.grownBy wr (some w3.heap.size) := grown_trans HGC.out HGN.out
                    have hr3 := HRES3.out.lt
                    have HRS9 : Hid (BoxD wr (w.heap.size + 1) (.slice none 0 0) (.slice none 0 0) (List.replicate 256 0)) := Lib.hid ((HRES3.out.up HB.out).keep hg7 (fun e => by injection e with e; omega))
                    have HRR9 := Lib.hid (HRV9.out.keep HGN.out (HRV9.out.ne_lt (Nat.lt_succ_self _)))
                    have HWF := Lib.hid (HW3.out.trans (HB.out.mono HW3.out.size))
                    obtain ⟨A9, hA9, hs9, hl9⟩ := HBN.out.open
                    have HA9 := Lib.hid hA9
                    have HS9 := Lib.hid hs9
                    have HL9 := Lib.hid hl9
                    have hn1c : nv.oneCell' = true := own_oneCell HON.out.outer
                    have hr1c : rv.oneCell' = true := own_oneCell HRV9.out
                    clear hA9 hs9 hl9 hrz hry hdz hdy
                    go_wp2_with (first | (refine load_dfa rfl _ rfl w3.heap.size rfl A9 HS9.out HA9.out ?_) | (refine store_dfa rfl _ _ rfl (w.heap.size + 1) rfl A9 rfl HL9.out HBN.out.len hn1c hr1c HRS9.out ?_; intro w12 hb12 hg12; have HB12 := Lib.hid hb12; have HG12 := Lib.hid hg12; clear hb12 hg12))
                    have hg9 : wr.grownBy w12 (some (w.heap.size + 1)) := HG12.out
                    have hs79 := HGC.out.size
                    have hs7r := hg7.size
                    have hnv9 : RowsAt w12 nv (nextI (rowsD d) lf) := (HON.out.keep' hg9 (HON.out.free_below (by omega))).rowsG.ints
                    have hrv9 : IntsAt w12 rv (F.map (ruleN d)) := (HRR9.out.keep hg9 (HRR9.out.ne_lt (by omega))).sl
                    refine ret_dfa rfl rfl rfl rfl HB12.out hnv9 hrv9 fun v hv => ⟨v, by rw [HE.out]; rfl, ?_, ?_⟩
                    · rw [HI.out, makeD, hF, hlf]; exact hv
                    · have hb1 : Below w.heap.size w wr := Below.grown (B := w.heap.size) HWF.out hg7 (by omega) (fun j hj => by cases hj; omega)
                      exact hb1.grown hg9 (by omega) (fun j hj => by cases hj; exact Nat.le_succ _)
  · have hrb := rightB_false hv
    have HI := Lib.hid (makeI_no hv)
    have HE := Lib.hid (makeE_no hv)
    clear hv
    go_enter Try.func10, Try.ntmps10
    go_wp2_with (first | (refine load_dfa rfl _ rfl w.heap.size rfl A HS.out HG2.out ?_) | (go_at_call 17; refine (HL.out _ (by repeat (first | exact Below.refl _ _ | assumption | refine b_drewN ?_ _ | refine Below.drew ?_ | refine b_ext' ?_ _ | refine b_alloc' ?_ _))).mono ?_; rintro e w' ⟨rfl, x, rfl⟩; rw [hrb]) | (refine store_dfa rfl _ _ rfl (w.heap.size + 1) rfl Z rfl (HZ.out ▸ zArr_list) List.length_replicate rfl rfl (HB2.out.up (ext_below _ _)) ?_; intro w1 hb1 hg1; have HB1 := Lib.hid hb1; have HGR := Lib.hid hg1; clear hb1 hg1))
    refine ret_dfa rfl rfl rfl rfl HB1.out (rows_nil _) (rules := []) (Sl.nil _) fun v hv => ⟨v, by rw [HE.out]; rfl, by rw [HI.out]; exact hv, ?_⟩
    exact Below.grown (B := w.heap.size) (by repeat (first | exact Below.refl _ _ | assumption | refine b_drewN ?_ _ | refine Below.drew ?_ | refine b_ext' ?_ _ | refine b_alloc' ?_ _)) HGR.out (Nat.le_trans (by simp; omega) (size_ext _ _)) (fun j hj => by cases hj; exact Nat.le_succ _)
end Go.Cm
