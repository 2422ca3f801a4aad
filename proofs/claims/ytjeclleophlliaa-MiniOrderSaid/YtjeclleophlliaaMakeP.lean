/- The walk of mini.Make. Conditions: the argument reads as an automaton. -/
import Derived.Test.YtjeclleophlliaaColP
import Derived.Test.YtjeclleophlliaaMakeR
import Derived.Test.YtjeclleophlliaaParts
import Derived.Test.YtjeclleophlliaaMakeJ
namespace Go.Cm
open Go.RowKit Go.Proofs Go.Maps

theorem firsts_idx {d : Dfa} {f k n : Nat} (hf : f ∈ firsts d k) (hk : k ≤ n) : idx (firsts d n) f = idx (firsts d k) f := by
  obtain ⟨l, hl⟩ := firsts_take d k (n - k)
  rw [show k + (n - k) = n by omega] at hl
  rw [hl, idxOf_append_left hf]
theorem firsts_mem_up {d : Dfa} {f k n : Nat} (hf : f ∈ firsts d k) (hk : k ≤ n) : f ∈ firsts d n := by
  have := mem_firsts.1 hf
  exact mem_firsts.2 ⟨by omega, this.2⟩
theorem PartOk.eq {d : Dfa} {part : List Int} (h : PartOk d part) {i j : Nat} (hi : i < d.next.length) (hj : j < d.next.length) : part.getD i 0 = part.getD j 0 ↔ Eqv d i j := by
  obtain ⟨f, hf, he, hp⟩ := h.2 i hi
  obtain ⟨g, hg, he', hp'⟩ := h.2 j hj
  rw [hp, hp', ← firsts_idx (n := d.next.length) hf hi, ← firsts_idx (n := d.next.length) hg hj]
  constructor
  · intro hq
    have := idxOf_inj (firsts_mem_up hf hi) (firsts_mem_up hg hj) (by omega)
    subst this
    exact he.trans he'.symm
  · intro hq
    have := first_unique hf hg (he.symm.trans (hq.trans he'))
    rw [this]
theorem PartOk.range {d : Dfa} {part : List Int} (h : PartOk d part) {i : Nat} (hi : i < d.next.length) : ∃ q : Nat, part.getD i 0 = q ∧ q < d.next.length := by
  obtain ⟨f, hf, he, hp⟩ := h.2 i hi
  have h1 := idxOf_lt hf
  have h2 := firsts_len d (i + 1)
  exact ⟨_, hp, by omega⟩
theorem key_int {q : Nat} (h : q ≤ 4294967296) : keyOf Try.prog 3 (.int .i64 (q : Int)) = some (.int .i64 (q : Int)) := keyOf_int_mk Try.underlying3 (wf64 q h)
theorem keyed_int : Keyed Try.prog 3 := int_keyed Try.underlying3
theorem map_no_cell {w : World} {g i : Nat} {o : Obj} (hg : w.heap[g]? = some o) (hn : ∀ c t f, o ≠ .cells c t f) : w.cell? ⟨g, i, none⟩ = none := by
  unfold World.cell?
  rw [hg]
  cases o <;> first | rfl | exact absurd rfl (hn _ _ _)

theorem store_arr {ops : Array Oper} {rest : List Oper} {o : Oper} {a : Act} {w : World} {Q : Exit → Act → World → Prop} (hgd : o.guard = none) (x y : Operand) (ho : o.op = .store 22 x y)
    (g : Nat) (hx : a.eval x = .pointer (some ⟨g, 0, none⟩)) (C : Array Value) (hy : a.eval y = .agg C) {cl cl' : List Int} (hC : C.toList = ints cl') (hl : cl'.length = 256) (hB : BoxC w g cl)
    (h : ∀ w', BoxC w' g cl' → w.grownBy w' (some g) → wpList Try.prog ops Q rest (a.put o.dst undef) w') : wpList Try.prog ops Q (o :: rest) a w := by
  have hs : C.size = 256 := by rw [← Array.length_toList, hC, ints_length, hl]
  have hx256 : (ints cl).length = 256 := by rw [ints_length, hB.len]
  refine wpList_store_agg hgd 22 x y ho g 22 g 256 256 hx C hy (by rw [hs]; kernel_rfl) (ints cl) hB.own (by rw [hs, hx256]; exact Nat.le_refl _) (by rw [hC]; exact ints_one _) fun w' hw hg => h w' ⟨?_, hl⟩ hg
  rw [hs, List.drop_of_length_le (by rw [hx256]; exact Nat.le_refl _), List.append_nil, hC] at hw
  exact hw
theorem store_cls {ops : Array Oper} {rest : List Oper} {o : Oper} {a : Act} {w : World} {Q : Exit → Act → World → Prop} (hgd : o.guard = none) (x y : Operand) (ho : o.op = .store 22 x y)
    (g : Nat) (hx : a.eval x = .pointer (some ⟨g, 0, none⟩)) (C : Array Value) (hy : a.eval y = .agg C) {nv rv : Value} {cl cl' : List Int} (hC : C.toList = ints cl') (hl : cl'.length = 256) (hB : BoxD w g nv rv cl)
    (h : ∀ w', BoxD w' g nv rv cl' → w.grownBy w' (some g) → wpList Try.prog ops Q rest (a.put o.dst undef) w') : wpList Try.prog ops Q (o :: rest) a w := by
  have hs : C.size = 256 := by rw [← Array.length_toList, hC, ints_length, hl]
  have hx256 : (ints cl).length = 256 := by rw [ints_length, hB.len]
  refine wpList_store_agg hgd 22 x y ho g 26 g 258 258 hx C hy (by rw [hs]; kernel_rfl) (ints cl ++ [nv, rv]) hB.own (by rw [hs, List.length_append, hx256]; exact Nat.le_add_right _ _) (by rw [hC]; exact ints_one _) fun w' hw hg => h w' ⟨?_, hl⟩ hg
  rw [hs, List.drop_append_of_le_length (by rw [hx256]; exact Nat.le_refl _), List.drop_of_length_le (by rw [hx256]; exact Nat.le_refl _), List.nil_append, hC] at hw
  exact hw
theorem rowsD_small {d : Dfa} (hv : Valid d) {j : Nat} (hj : j < (rowsD d).length) (i : Nat) : 0 ≤ ((rowsD d).getD j []).getD i 0 ∧ ((rowsD d).getD j []).getD i 0 < 65536 := by
  rw [rowsD_length] at hj
  have h1 := heads_len hv
  have h2 := hv.2.1
  by_cases hi : i < kN d
  · rw [rowsD_cell hv hj hi]
    have := head_step hv hj hi
    omega
  · have hl : ((rowsD d).getD j []).length ≤ i := by
      rw [rowsD_getD d hj, nl_length, List.length_map, rowN_len hv (reach_lt hv (head_mem hj))]; omega
    rw [List.getD_eq_getElem?_getD, List.getElem?_eq_none hl]
    simp

set_option maxRecDepth 100000 in
set_option maxHeartbeats 4000000 in
theorem makeP (v : Value) (d : Dfa) (w : World) (h : DfaAt w v d) : Calls Try.prog 9 #[v] w (RetMake d w) := by
  have hL := fun w' (hb : Below w.heap.size w w') => rightP v d w' (h.up hb)
  have hAp := fun w' (hb : Below w.heap.size w w') hv => parts v d w' (h.up hb) hv
  have hRe := fun w' (hb : Below w.heap.size w w') => reachedP v d w' (h.up hb)
  have hCo := fun w' (hb : Below w.heap.size w w') (u : Value) (rows : List (List Int)) hu hk hx hn => columnsP v u d rows w' (h.up hb) hu hk hx hn
  obtain ⟨A, rfl, hs, hl, hc, ⟨vn, hn, hrw⟩, ⟨vr, hr, hru⟩⟩ := h
  obtain ⟨oa, cap, b, off, rfl, hd, hro⟩ := hrw.open
  obtain ⟨oq, capq, bq, offq, rfl, hdq, hrq⟩ := hru.open
  have HAP := Lib.hid hAp; clear hAp
  have HRE := Lib.hid hRe; clear hRe
  have HCO := Lib.hid hCo; clear hCo
  have HRO := Lib.hid hro; clear hro
  have HRQ := Lib.hid hrq; clear hrq
  have HD := Lib.hid hd; clear hd
  have HDQ := Lib.hid hdq; clear hdq
  have HLC := Lib.hid hl
  have HN := Lib.hid hn
  have HR := Lib.hid hr
  have HL := Lib.hid hL; clear hL
  have HS := Lib.hid hs; clear hs hc hl hn hr hrw hru
  have HG := Lib.hid (heap_alloc_new w (.cells A 26))
  have hz := zero_dfa
  have hbd := build_dfa
  have hmm := @run_makeMap Try.prog
  obtain ⟨Z, hZ⟩ : ∃ Z, Z = zArr := ⟨_, rfl⟩
  rw [← hZ] at hz hbd
  have HZ := Lib.hid hZ; clear hZ
  have HB2 : Hid (BoxD ((w.alloc (.cells A 26)).alloc (.cells Z 26)) (w.heap.size + 1) (.slice none 0 0) (.slice none 0 0) (List.replicate 256 0)) := Lib.hid (by
    have := box_new (w.alloc (.cells A 26))
    rw [← HZ.out] at this
    simpa using this)
  have HG2 : Hid (((w.alloc (.cells A 26)).alloc (.cells Z 26)).heap[w.heap.size]? = some (.cells A 26 (0, 0))) := Lib.hid (by rw [(below_alloc _ _).block _ (by simp)]; exact HG.out)
  by_cases hv : Valid d
  · have hrb := rightB_true hv
    have HI := Lib.hid (makeI_yes hv)
    have HE := Lib.hid (makeE_yes hv)
    have HRI := Lib.hid (reachI_yes hv)
    have hn1 := hv.1
    have hn2 := hv.2.1
    have HRB := Lib.hid (reach_met hv).2.1
    have hrlen := reach_len hv
    have HV := Lib.hid hv; clear hv
    go_enter Try.func9, Try.ntmps9
    go_wp2_with (first | (refine load_dfa rfl _ rfl w.heap.size rfl A HS.out HG2.out ?_) | (refine load_dfa rfl _ rfl w.heap.size rfl A HS.out ((heap_ext _ _ _ (lt_two w _ _)).trans HG2.out) ?_) | (refine load_dfa rfl _ rfl w.heap.size rfl A HS.out HG3.out ?_) | (go_at_call 21; refine (HL.out _ (by repeat (first | exact Below.refl _ _ | assumption | refine b_drewN ?_ _ | refine Below.drew ?_ | refine b_ext' ?_ _ | refine b_alloc' ?_ _))).mono ?_; rintro e w' ⟨rfl, x, rfl⟩; rw [hrb]) | (go_at_call 22; refine (HAP.out _ (by repeat (first | exact Below.refl _ _ | assumption | refine b_drewN ?_ _ | refine Below.drew ?_ | refine b_ext' ?_ _ | refine b_alloc' ?_ _)) HV.out).mono ?_; rintro e w1 ⟨va, part, rfl, hva, hok, hb1⟩; have HB1 := Lib.hid hb1; have HVA := Lib.hid hva; have HOK := Lib.hid hok; have HG3 : Hid ((w1.alloc (.map #[] 0)).heap[w.heap.size]? = some (.cells A 26 (0, 0))) := Lib.hid (((below_alloc w1 (.map #[] 0)).block w.heap.size (Nat.lt_of_lt_of_le (lt_ext2 w _ _ x) hb1.size)).trans ((hb1.block w.heap.size (lt_ext2 w _ _ x)).trans ((heap_ext _ _ _ (lt_two w _ _)).trans HG2.out))); clear hb1 hva hok) | (go_at_call 15; refine (HRE.out _ (((b_ext' (b_alloc' (below_alloc w _) _) x).trans (HB1.out.mono (le_ext2 w _ _ x))).alloc (Nat.le_trans (le_ext2 w _ _ x) HB1.out.size) _)).mono ?_; rintro e w2 ⟨vl, rfl, hir, hb2⟩; have HBL := Lib.hid hb2; rw [HRI.out] at hir; obtain ⟨or, capr, br, offr, rfl, hdr, hrr⟩ := hir.open; rw [nl_length] at hdr hrr ⊢; have HDR := Lib.hid hdr; have HRR := Lib.hid hrr; clear hb2 hir hdr hrr))
    have hw1 : Below w.heap.size w w1 := (b_ext' (b_alloc' (below_alloc w _) _) x).trans (HB1.out.mono (le_ext2 w _ _ x))
    have hws1 : w.heap.size + 2 ≤ w1.heap.size := Nat.le_trans (size_ext ((w.alloc (.cells A 26)).alloc (.cells Z 26)) x |> fun h => by simpa using h) HB1.out.size
    have hs12 : w1.heap.size < w2.heap.size := by have := HBL.out.size; simp at this; omega
    have HBL' : Hid (Below w1.heap.size w1 w2) := Lib.hid ((below_alloc w1 (.map #[] 0)).trans (HBL.out.mono (by simp)))
    have hw : Below w.heap.size w w2 := hw1.trans (HBL'.out.mono (by omega))
    have HW := Lib.hid hw; clear hw
    have HG4 : Hid (w2.heap[w.heap.size]? = some (.cells A 26 (0, 0))) := Lib.hid ((HBL.out.block w.heap.size (by simp; omega)).trans HG3.out)
    have HRES : Hid (BoxD w2 (w.heap.size + 1) (.slice none 0 0) (.slice none 0 0) (List.replicate 256 0)) := Lib.hid (((HB2.out.up (ext_below _ x)).up HB1.out).up HBL'.out)
    have hbm : 0 < (reach d).length → br ≠ w1.heap.size := fun h0 he => by
      have h1 := HRR.out 0 h0
      subst he
      rw [map_no_cell (o := .map #[] 0) ((HBL.out.block w1.heap.size (by simp)).trans (MapKept.heap_alloc w1 _).1) (fun _ _ _ h => by cases h)] at h1
      cases h1
    obtain ⟨ot, ct, bt, ft, rfl, hdt, hrt⟩ := HVA.out.open
    have hml : part.length = d.next.length := HOK.out.1
    rw [hml] at hdt hrt ⊢
    have hixt := index_any (P := Try.prog) 24 3 Try.underlying24 (by kernel_rfl) hdt
    have HDT := Lib.hid hdt; have HRT := Lib.hid hrt
    clear hdt hrt hml
    have HMP : Hid (OwnMap Try.prog 3 3 (fun n : Int => Lit.int .i64 n) w2 w1.heap.size []) := Lib.hid ((OwnMap.made (P := Try.prog) (K := 3) (E := 3) w1 (fun n : Int => Lit.int .i64 n)).up HBL.out)
    clear HB2 HVA HG3 hmm HG
    have hbt := HDT.out.hblk (by omega)
    have hixr := index_any (P := Try.prog) 24 3 Try.underlying24 (by kernel_rfl) HDR.out
    generalize hR : reach d = R at *
    obtain ⟨pf, hpf⟩ : ∃ pf : Nat → Int, ∀ s, pf s = part.getD s 0 := ⟨fun s => part.getD s 0, fun _ => rfl⟩
    have HPR : Hid (∀ s, s ∈ R → ∃ q : Nat, pf s = q ∧ q < d.next.length) := Lib.hid (fun s hs => by rw [hpf]; exact HOK.out.range (HRB.out s hs))
    have HPC : Hid (∀ a ∈ R, ∀ b ∈ R, pf a = pf b ↔ repN d a = repN d b) := Lib.hid (fun a ha b hb => by rw [hpf, hpf, repN_eq]; exact HOK.out.eq (HRB.out a ha) (HRB.out b hb))
    have HPF : Hid (∀ s, s ∈ R → w1.cell? ⟨bt, ft + s, none⟩ = some (.int .i64 (pf s))) := Lib.hid (fun s hs => by rw [hpf]; exact HRT.out s (HRB.out s hs))
    clear hpf HRT HOK
    go_loopg [6, 35] (R.length + 1) (fun gk vf i wr => ∃ k : Nat, k ≤ R.length ∧ i = .int .i64 k ∧ Own wr w2.heap.size 3 vf (ints (nl (pickBy pf (R.take k)))) ∧ OwnMap Try.prog 3 3 (fun n : Int => Lit.int .i64 n) wr w1.heap.size (uniq ((R.take k).map pf)) ∧ w2.grownBy wr (some w1.heap.size) ∧ gk = R.length + 1 - k)
    case atStart => exact ⟨0, Nat.zero_le _, rfl, Own.nil _ _ _, HMP.out, grown_refl _ _, rfl⟩
    case round =>
      clear HMP
      obtain ⟨k, hk, rfl, how, hmap, hgr, rfl⟩ := hrel
      have hsz : w2.heap.size ≤ wr.heap.size := hgr.size
      have HGR := Lib.hid hgr; clear hgr
      have HF := Lib.hid how; clear how
      have HMP := Lib.hid hmap; clear hmap
      by_cases hlt : k < R.length
      · have hsR : R.getD k 0 ∈ R := getD_mem R k 0 hlt
        have hsn := HRB.out _ hsR
        have hck := HRR.out k hlt
        rw [nl_getD] at hck
        have hbr := HDR.out.hblk (by omega)
        have HTM : Hid ((R.take (k + 1)).map pf = (R.take k).map pf ++ [pf (R.getD k 0)]) := Lib.hid (by rw [take_succ_getD' hlt rfl, List.map_append]; rfl)
        have HPM := Lib.hid (pickBy_map pf (R.take k))
        have HPY : Hid (pf (R.getD k 0) ∈ uniq ((R.take k).map pf) → pickBy pf (R.take (k + 1)) = pickBy pf (R.take k)) := Lib.hid (fun h => by rw [take_succ_getD' hlt rfl, pickBy_snoc, if_pos]; rwa [pickBy_map])
        have HPN : Hid (pf (R.getD k 0) ∉ uniq ((R.take k).map pf) → pickBy pf (R.take (k + 1)) = pickBy pf (R.take k) ++ [R.getD k 0]) := Lib.hid (fun h => by rw [take_succ_getD' hlt rfl, pickBy_snoc, if_neg]; rwa [pickBy_map])
        have HPL : Hid ((pickBy pf (R.take k)).length ≤ 1000) := Lib.hid (by have := pickBy_len pf (R.take k); simp at this; omega)
        have HUS : Hid (uniq ((R.take (k + 1)).map pf) = addNew (uniq ((R.take k).map pf)) (pf (R.getD k 0))) := Lib.hid (by rw [HTM.out, uniq_snoc])
        have hcp := (HGR.out.block bt (by omega) (fun e => by injection e with e; omega))
        have hw1 : wr.cell? ⟨br, offr + k, none⟩ = some (.int .i64 ((R.getD k 0 : Nat) : Int)) := (World.cell?_of_block (HGR.out.block br hbr (fun e => by injection e with e; exact hbm (by omega) e))).trans hck
        have hw2 : wr.cell? ⟨bt, ft + R.getD k 0, none⟩ = some (.int .i64 (pf (R.getD k 0))) := (World.cell?_of_block hcp).trans ((HBL'.out.cell (p := ⟨bt, ft + R.getD k 0, none⟩) hbt).trans (HPF.out _ hsR))
        obtain ⟨q, hq, hqn⟩ := HPR.out _ hsR
        clear hck hcp
        have hs1 : br < wr.heap.size := by omega
        have hs2 : bt < wr.heap.size := by omega
        generalize hF : pickBy pf (R.take k) = F at *
        generalize uniq ((R.take k).map pf) = ks at *
        generalize hs : R.getD k 0 = s at *
        obtain ⟨ofi, cfi, gfi, hvf, -⟩ := HF.out.cases
        subst hvf
        rw [ints_length, nl_length] at HF ⊢
        have HKL : Hid (ks.length = F.length) := Lib.hid (by rw [← HPM.out, List.length_map])
        obtain ⟨D, hD, hM⟩ := HMP.out
        rw [HKL.out] at hD
        have HM := Lib.hid hM; clear hM
        have HDM := Lib.hid hD; clear hD
        clear HMP
        have HSR := Lib.hid hsR; clear hsR
        have HS' := Lib.hid hs; clear hs
        rw [hq] at HPY HPN HUS hw2
        have HKEY := Lib.hid (key_int (q := q) (by omega))
        clear HPM
        by_cases hmem : (q : Int) ∈ ks
        · have HHAS : Hid (Maps.has D (.int .i64 (q : Int)) = true) := Lib.hid (by rw [HM.out.2.2.1 (q : Int)]; simpa using hmem)
          have HMEM := Lib.hid hmem; clear hmem
          go_wp2_with (at_lookup; refine wpList_lookup_own_ok_int _ rfl _ _ 41 rfl 3 3 .i64 keyed_int Try.underlying41 Try.underlying3 (zero_int _) w1.heap.size _ D rfl HDM.out _ _ rfl HKEY.out ?_; intro c hat hwc; rw [HHAS.out]; clear hat hwc)
          go_roundg (R.length + 1 - (k + 1))
          case measure => omega
          case rel =>
            refine ⟨k + 1, by omega, by go_num, ?_, ?_, HGR.out, rfl⟩
            · rw [HPY.out HMEM.out]; exact HF.out
            · rw [HUS.out, addNew, if_pos HMEM.out]
              exact ⟨D, by rw [HKL.out]; exact HDM.out, HM.out⟩
        · have HHAS : Hid (Maps.has D (.int .i64 (q : Int)) = false) := Lib.hid (by rw [HM.out.2.2.1 (q : Int)]; simpa using hmem)
          have HMEM := Lib.hid hmem; clear hmem
          have hms := HM.out.snoc litInt HMEM.out
          rw [HKL.out] at hms
          have HMS := Lib.hid hms; clear hms
          have HLN : Hid ((ints (nl F)).length + (ints (nl [s])).length ≤ 4294967296) := Lib.hid (by have := HPL.out; simp; omega)
          go_wp2_with (first | (at_lookup; refine wpList_lookup_own_ok_int _ rfl _ _ 41 rfl 3 3 .i64 keyed_int Try.underlying41 Try.underlying3 (zero_int _) w1.heap.size _ D rfl HDM.out _ _ rfl HKEY.out ?_; intro c hat hwc; rw [HHAS.out]; clear hat hwc) | (at_mapUpdate; go_loud (refine wpList_mapUpdate_own _ rfl _ _ _ 41 rfl 3 3 keyed_int Try.underlying41 _ w1.heap.size _ D rfl HDM.out (by have := HPL.out; unfold maxLen; omega) _ _ _ rfl rfl HKEY.out _ [] (plainElem_int Try.underlying3 (wf64 _ (by have := HPL.out; omega))) ?_; intro w3 hown1 hg1; have HD1 := Lib.hid hown1; have HG1 := Lib.hid hg1; have hs3 := hg1.size; have HO1 := Lib.hid (HF.out.keep hg1 (HF.out.off (by omega))); clear hown1 hg1)) | (at_builtin; go_loud (refine wpList_app rfl (.tmp 57) (.tmp 59) 24 rfl w2.heap.size 3 (.int .i64 0) 8 Try.underlying24 (by kernel_rfl) rfl (by decide) (.slice ofi F.length cfi) (ints (nl F)) rfl (HO1.out.up (below_alloc _ _)) (.slice (some ⟨w3.heap.size, 0, none⟩) 1 1) (ints (nl [s])) rfl (by simpa [ints, nl] using sl_lit w3 #[.int .i64 (s : Int)] 3 (by simp)) (ints_one _) HLN.out (Nat.le_trans hsz (Nat.le_trans hs3 (by simp))) ?_; intro v' w4 hown2 hg2 hk2; have HO2 := Lib.hid hown2; have HG2' := Lib.hid (grown_trans (grown_below (below_alloc w3 (.cells #[.int .i64 (s : Int)] 3)) _) hg2); have HD2 := Lib.hid (HD1.out.kept HG2'.out (HO1.out.ne_of (by omega))); clear hown2 hg2 hk2)))
          go_roundg (R.length + 1 - (k + 1))
          case measure => omega
          case rel =>
            refine ⟨k + 1, by omega, by go_num, ?_, ?_, ?_, rfl⟩
            · rw [HPN.out HMEM.out, nl_append, ints_append]
              exact HO2.out
            · rw [HUS.out, addNew, if_neg HMEM.out]
              exact ⟨_, by rw [List.length_append, List.length_singleton, HKL.out]; exact HD2.out, HMS.out⟩
            · exact grown_late (grown_trans HGR.out HG1.out) HG2'.out (fun j hj => (HO1.out.lt j hj).1)
      · have hkR : k = R.length := by omega
        subst hkR
        rw [List.take_length] at HF HMP
        obtain ⟨w3, rfl⟩ : ∃ w3 : World, w3 = wr := ⟨_, rfl⟩
        have hpp := pickBy_congr HPC.out
        have hpk : pickBy pf R = heads d := hpp.1.trans (by rw [← hR]; rfl)
        have HNV : Hid (∀ s ∈ reach d, idx (uniq (R.map pf)) (pf s) = num d s) := Lib.hid (fun s hs => by
          rw [hR] at hs
          rw [← pickBy_map]
          have h2 := hpp.2 s hs
          rw [← hR] at h2 ⊢
          exact h2)
        have HRM : Hid (∀ s ∈ reach d, s ∈ R) := Lib.hid (fun s hs => by rw [hR] at hs; exact hs)
        have HMK : Hid (∀ s ∈ R, pf s ∈ uniq (R.map pf)) := Lib.hid (fun s hs => (mem_uniq _ _).2 (List.mem_map_of_mem hs))
        rw [hpk] at HF
        have hfl : (heads d).length ≤ d.next.length := heads_len HV.out
        have HFR : Hid (∀ q, q < (heads d).length → (heads d).getD q 0 ∈ reach d) := Lib.hid (fun q hq => heads_mem (getD_mem _ q 0 hq))
        have HRD : Hid (∀ q, q < (heads d).length → (rowsD d).getD q [] = nl ((rowN d ((heads d).getD q 0)).map (num d))) := Lib.hid (fun q hq => rowsD_getD d hq)
        have HRL : Hid ((rowsD d).length = (heads d).length) := Lib.hid (rowsD_length d)
        have HMK2 : Hid (makeD d = ⟨clsI (rowsD d) d.cls, nextI (rowsD d) (leftI (rowsD d) d.cls), (heads d).map (ruleN d)⟩) := Lib.hid rfl
        clear hpp hpk
        generalize uniq (R.map pf) = ks at *
        generalize hF : heads d = F at *
        obtain ⟨of, cf, gf, rfl, hdf, -, hcf, -⟩ := HF.out.cases
        rw [ints_length, nl_length] at hdf hcf ⊢
        have HCF := Lib.hid hcf; clear hcf
        have HDF := Lib.hid hdf; clear hdf
        clear HF HDR HRR hbm hixr
        go_wp2_with (first | (refine store_dfa rfl _ _ rfl w3.heap.size rfl Z rfl (HZ.out ▸ zArr_list) List.length_replicate rfl rfl (HZ.out ▸ box_new _) ?_; intro w4 hb4 hg4; have HB4 := Lib.hid hb4; have HG5 := Lib.hid hg4; clear hb4 hg4))
        have HRES3 := Lib.hid (HRES.out.keep HGR.out (fun e => by injection e with e; omega))
        have hb34 : Below w3.heap.size w3 w4 := (below_alloc w3 (.cells Z 26)).grown HG5.out (by simp) (fun j hj => by cases hj; exact Nat.le_refl _)
        have hw3 : Below w.heap.size w w3 := HW.out.grown HGR.out (by omega) (fun j hj => by cases hj; omega)
        have HX : Hid (∀ W, Below w3.heap.size w3 W → W.cell? ⟨w.heap.size, 256, none⟩ = some (.slice oa d.next.length cap) ∧ W.cell? ⟨w.heap.size, 257, none⟩ = some (.slice oq d.rules.length capq) ∧ (∀ q, q < F.length → W.cell? ⟨gf, q, none⟩ = some (.int .i64 ((F.getD q 0 : Nat) : Int))) ∧ (∀ s, s ∈ R → W.cell? ⟨bt, ft + s, none⟩ = some (.int .i64 (pf s))) ∧
            (∀ f, f < d.next.length → ∃ oi ci bi fi, W.cell? ⟨b, off + f, none⟩ = some (.slice oi (d.next.getD f []).length ci) ∧ Hd w oi (d.next.getD f []).length ci bi fi ∧ ∀ j, j < (d.next.getD f []).length → W.cell? ⟨bi, fi + j, none⟩ = some (.int .i64 ((d.next.getD f []).getD j 0))) ∧
            (∀ i, i < d.rules.length → W.cell? ⟨bq, offq + i, none⟩ = some (.int .i64 (d.rules.getD i 0)))) := Lib.hid (by
          intro W hW
          have h23 : ∀ q i, q < w2.heap.size → q ≠ w1.heap.size → W.cell? ⟨q, i, none⟩ = w2.cell? ⟨q, i, none⟩ := fun q i h1 h2 => by
            rw [hW.cell (p := ⟨q, i, none⟩) (show q < w3.heap.size by omega)]
            exact World.cell?_of_block (HGR.out.block q h1 (fun e => by injection e with e; omega))
          have hA : ∀ i, W.cell? ⟨w.heap.size, i, none⟩ = A[i]? := fun i => by
            rw [h23 _ _ (by omega) (by omega)]
            exact cell_of_row w2 w.heap.size i A 26 (0, 0) HG4.out
          have hwW : ∀ q i, q < w.heap.size → W.cell? ⟨q, i, none⟩ = w.cell? ⟨q, i, none⟩ := fun q i hq => by
            rw [hW.cell (p := ⟨q, i, none⟩) (show q < w3.heap.size by omega), hw3.cell (p := ⟨q, i, none⟩) hq]
          refine ⟨(hA 256).trans HN.out, (hA 257).trans HR.out, fun q hq => ?_, fun s hs => ?_, fun f hf => ?_, fun i hi => ?_⟩
          · rw [hW.cell (p := ⟨gf, q, none⟩) (HDF.out.hblk (by omega)), HCF.out q hq, ints_getD _ _ (by rw [nl_length]; exact hq), nl_getD]
          · rw [h23 _ _ (by omega) (by omega), HBL'.out.cell (p := ⟨bt, ft + s, none⟩) hbt]; exact HPF.out s hs
          · obtain ⟨oi, ci, bi, fi, h1, h2, h3, -⟩ := HRO.out f hf
            exact ⟨oi, ci, bi, fi, by rw [hwW _ _ (HD.out.hblk (by omega))]; exact h1, h2, fun j hj => by rw [hwW _ _ (h2.hblk (by omega))]; exact h3 j hj⟩
          · rw [hwW _ _ (HDQ.out.hblk (by omega))]; exact HRQ.out i hi)
        have HXM : Hid (∀ W, Below w3.heap.size w3 W → OwnMap Try.prog 3 3 (fun n : Int => Lit.int .i64 n) W w1.heap.size ks) := Lib.hid (fun W hW => HMP.out.up hW)
        have HXA : Hid (∀ W, Below w3.heap.size w3 W → W.heap[w.heap.size]? = some (.cells A 26 (0, 0))) := Lib.hid (fun W hW => by
          rw [hW.block _ (by omega), HGR.out.block _ (by omega) (fun e => by injection e with e; omega)]; exact HG4.out)
        have HB34 := Lib.hid hb34
        have HW3 := Lib.hid hw3
        have hix := index_any (P := Try.prog) 23 24 Try.underlying23 (by kernel_rfl) HD.out
        have hixq := index_any (P := Try.prog) 24 3 Try.underlying24 (by kernel_rfl) HDQ.out
        have hixf := index_any (P := Try.prog) 24 3 Try.underlying24 (by kernel_rfl) HDF.out
        have hbb := HD.out.hblk (by omega)
        have hbq := HDQ.out.hblk (by have := HV.out.2.2.1; omega)
        have HFB := Lib.hid HDF.out.hblk
        have HQL := Lib.hid HV.out.2.2.1
        clear hb34 hw3 HCF HG4 HG5 HRO HRQ HMP
        go_loopg [12, 65] (F.length + 1) (fun gk vo i wr => ∃ (k : Nat) (vs : List Value) (rv : Value), k ≤ F.length ∧ i = .int .i64 k ∧ OwnM wr (w3.heap.size + 1) 24 3 vo vs (((rowsD d).take k).map ints) ∧ BoxD wr w3.heap.size (.slice none 0 0) rv (List.replicate 256 0) ∧ Own wr (w3.heap.size + 1) 3 rv (ints ((F.take k).map (ruleN d))) ∧ OwnM.free vo vs rv.ownBlock ∧ Below w3.heap.size w3 wr ∧ gk = F.length + 1 - k)
        case atStart => exact ⟨0, [], _, Nat.zero_le _, rfl, OwnM.nil _ _ _ _, HB4.out, Own.nil _ _ _, OwnM.free_none, HB34.out, rfl⟩
        case round =>
          clear HB4 HB34
          obtain ⟨k, vs, rv, hk, rfl, hom, hbox, hrv, hfree, hbel, rfl⟩ := hrel
          have hsz := hbel.size
          have HB := Lib.hid hbel; clear hbel
          have HO := Lib.hid hom; clear hom
          have HBX := Lib.hid hbox; clear hbox
          have HRV := Lib.hid hrv; clear hrv
          have HFR2 := Lib.hid hfree; clear hfree
          by_cases hlt : k < F.length
          · have hfR := HFR.out k hlt
            have hfn : F.getD k 0 < d.next.length := (reach_met HV.out).2.1 _ hfR
            have HR1 := Lib.hid (HRD.out k hlt)
            have hgf := HFB.out (by omega)
            have HTF : Hid ((F.take (k + 1)).map (ruleN d) = (F.take k).map (ruleN d) ++ [ruleN d (F.getD k 0)]) := Lib.hid (by rw [take_succ_getD' hlt rfl, List.map_append]; rfl)
            have HRW : Hid (∀ t ∈ rowN d (F.getD k 0), t ∈ R ∧ idx ks (pf t) = num d t) := Lib.hid (fun t ht => ⟨HRM.out t (reach_step HV.out hfR ht), HNV.out t (reach_step HV.out hfR ht)⟩)
            have HLR : Hid ((rowN d (F.getD k 0)).length = (d.next.getD (F.getD k 0) []).length) := Lib.hid (rowN_length d _)
            have HIR : Hid (∀ j, j < (d.next.getD (F.getD k 0) []).length → (d.next.getD (F.getD k 0) []).getD j 0 = (((rowN d (F.getD k 0)).getD j 0 : Nat) : Int)) := Lib.hid (fun j hj => by
              rw [rowN_getD _ _ _ hj]
              have := valid_mem HV.out hfn _ (getD_mem (d.next.getD (F.getD k 0) []) j 0 hj)
              omega)
            have hll := valid_len HV.out HLC.out hfn
            have HXF := Lib.hid (fun W hW => (HX.out W hW).2.2.2.2.1 (F.getD k 0) hfn)
            have hXC0 := (HX.out wr HB.out).2.2.1 k hlt
            have hA10 := (HX.out wr HB.out).1
            obtain ⟨oi, ci, bi, fi, hck, hdk, hcj⟩ := HXF.out wr HB.out
            have hs1 : w.heap.size < wr.heap.size := by omega
            have hs2 : gf < wr.heap.size := by omega
            have hs3 : b < wr.heap.size := by omega
            generalize F.getD k 0 = f at *
            generalize d.next.getD f [] = row at *
            have HFW : Hid (∀ W, Below w3.heap.size w3 W → W.cell? ⟨gf, k, none⟩ = some (.int .i64 (f : Int))) := Lib.hid (by
              intro W hW
              rw [hW.cell (p := ⟨gf, k, none⟩) hgf, ← HB.out.cell (p := ⟨gf, k, none⟩) hgf]; exact hXC0)
            have HCJ := Lib.hid hcj; clear hcj
            have HDK := Lib.hid hdk; clear hdk
            have hixk := index_any (P := Try.prog) 24 3 Try.underlying24 (by kernel_rfl) HDK.out
            go_wp2
            obtain ⟨wo, rfl⟩ : ∃ wo : World, wo = wr := ⟨_, rfl⟩
            go_loopg [15, 75] (row.length + 1) (fun gk vl i wr => ∃ c : Nat, c ≤ row.length ∧ i = .int .i64 c ∧ Own wr wo.heap.size 3 vl (ints (nl (((rowN d f).take c).map (num d)))) ∧ Below wo.heap.size wo wr ∧ gk = row.length + 1 - c)
            case atStart => exact ⟨0, Nat.zero_le _, rfl, Own.nil _ _ _, Below.refl _ _, rfl⟩
            case round =>
              obtain ⟨c, hc, rfl, how, hbel, rfl⟩ := hrel
              have hsz2 := hbel.size
              have hb3 : Below w3.heap.size w3 wr := HB.out.trans (hbel.mono hsz)
              have HBB := Lib.hid hbel; clear hbel
              have HOO := Lib.hid how; clear how
              by_cases hltc : c < row.length
              · have hbi := HDK.out.hblk (by omega)
                have hs5 : bi < wr.heap.size := by omega
                have hcc := (HBB.out.cell (p := ⟨bi, fi + c, none⟩) (show bi < wo.heap.size by omega)).trans (HCJ.out c hltc)
                have hlr : c < (rowN d f).length := by rw [HLR.out]; exact hltc
                obtain ⟨htn, hnt⟩ := HRW.out _ (getD_mem (rowN d f) c 0 hlr)
                have HT : Hid ((rowN d f).take (c + 1) = (rowN d f).take c ++ [(rowN d f).getD c 0]) := Lib.hid (take_succ_getD _ _ _ hlr)
                rw [HIR.out c hltc] at hcc
                have hcn := (HX.out wr hb3).2.2.2.1 _ htn
                have hkm := HMK.out _ htn
                obtain ⟨q, hq, hqn⟩ := HPR.out _ htn
                have htl := HRB.out _ htn
                generalize (rowN d f).getD c 0 = t at *
                rw [hq] at hcn hkm hnt
                have HKEY := Lib.hid (key_int (q := q) (by omega))
                obtain ⟨D, hD, hM⟩ := HXM.out wr hb3
                have HDM := Lib.hid hD; clear hD
                have HM := Lib.hid hM; clear hM
                have HKM := Lib.hid hkm; clear hkm
                have hs4 : bt < wr.heap.size := by omega
                have HNT := Lib.hid hnt; clear hnt hq
                generalize hy : num d t = y at *
                have HY := Lib.hid hy; clear hy
                have HLN : Hid ((ints (nl (((rowN d f).take c).map (num d)))).length + (ints (nl [y])).length ≤ 4294967296) := Lib.hid (by simp; omega)
                go_wp2_with (first | (at_lookup; go_loud (refine wpList_lookup_own_int _ rfl _ _ 41 rfl 3 3 .i64 keyed_int Try.underlying41 Try.underlying3 (zero_int _) w1.heap.size _ D rfl HDM.out _ _ rfl HKEY.out ?_; intro c0 hat hwc; have hce := (HM.out.at_eq HKM.out hat).trans (congrArg Int.ofNat HNT.out); subst hce; clear hat hwc)) | (at_builtin; go_loud (refine wpList_app rfl (.tmp 79) (.tmp 86) 24 rfl wo.heap.size 3 (.int .i64 0) 8 Try.underlying24 (by kernel_rfl) rfl (by decide) u15 (ints (nl (((rowN d f).take c).map (num d)))) rfl (HOO.out.up (below_alloc _ _)) (.slice (some ⟨wr.heap.size, 0, none⟩) 1 1) (ints (nl [y])) rfl (by simpa [ints, nl] using sl_lit wr #[.int .i64 (y : Int)] 3 (by simp)) (ints_one _) HLN.out (Nat.le_trans hsz2 (by simp)) ?_; intro v' w5 hown1 hg1 hk1; have HO1 := Lib.hid hown1; have HG1 := Lib.hid hg1; clear hown1 hg1 hk1)))
                go_roundg (row.length + 1 - (c + 1))
                case measure => omega
                case rel =>
                  refine ⟨c + 1, by omega, by go_num, ?_, below_grown (B := wo.heap.size) (HBB.out.alloc hsz2 _) (by simp; omega) (HOO.out.up (by repeat (first | exact Below.refl _ _ | assumption | refine b_drewN ?_ _ | refine Below.drew ?_ | refine b_ext' ?_ _ | refine b_alloc' ?_ _))) HG1.out, rfl⟩
                  rw [HT.out, List.map_append, List.map_cons, List.map_nil, HY.out, nl_append, ints_append]
                  exact HO1.out
              · have hcr : c = row.length := by omega
                subst hcr
                have htk : (rowN d f).take row.length = rowN d f := List.take_of_length_le (by rw [HLR.out]; exact Nat.le_refl _)
                rw [htk] at HOO
                obtain ⟨ou, cu, gu, rfl, -⟩ := HOO.out.cases
                have hul : (ints (nl ((rowN d f).map (num d)))).length = row.length := by simp [HLR.out]
                rw [hul] at HOO ⊢
                clear hul htk
                have HSP := Lib.hid (HO.out.up HBB.out)
                have HRQ2 := Lib.hid (HRV.out.up HBB.out)
                have HBQ := Lib.hid (HBX.out.up HBB.out)
                have hsB : w3.heap.size + 1 ≤ wr.heap.size := by have := HBQ.out.lt; omega
                have hvl : vs.length = k := by have h := HSP.out.len; simp [HRL.out] at h; omega
                clear hck hA10 hXC0 hs1 hs2 hs3
                go_wp2_with (at_builtin; go_loud (refine wpList_app rfl (.tmp 89) (.tmp 91) 23 rfl (w3.heap.size + 1) 24 (.slice none 0 0) 24 Try.underlying23 (by kernel_rfl) rfl (by decide) u12 vs rfl (HSP.out.outer.up (below_alloc _ _)) (.slice (some ⟨wr.heap.size, 0, none⟩) 1 1) [.slice ou row.length cu] rfl (sl_lit wr #[_] 24 (by simp)) (by simp; exact own_oneCell HOO.out) (by simp; omega) (Nat.le_trans hsB (by simp)) ?_; intro v' w5 hown1 hg1 hk1; have HO1 := Lib.hid hown1; have HG1 := Lib.hid hg1; have HK1 := Lib.hid hk1; clear hown1 hg1 hk1))
                have hom5 := HSP.out.push (r := .slice ou row.length cu) (HOO.out.mono (show w3.heap.size + 1 ≤ wo.heap.size by have := HBX.out.lt; omega)) (by
                  cases hu : (Value.slice ou row.length cu).ownBlock with
                  | none => exact OwnM.free_none
                  | some q => exact ⟨fun j hj e => by have := (HOO.out.lt q hu).1; have := HO.out.outer.lt j hj; injection e with e; omega, fun a ha j hj e => by have := (HOO.out.lt q hu).1; have := (HO.out.rows a (by rw [← HO.out.len]; exact ha)).lt j hj; injection e with e; omega⟩) (grown_below (below_alloc _ _) none) HO1.out HG1.out HK1.out
                have HOM5 := Lib.hid hom5; clear hom5
                have hg0 : wr.grownBy w5 u12.ownBlock := grown_trans (grown_below (below_alloc _ _) _) HG1.out
                have HRV5 := Lib.hid (HRQ2.out.keep hg0 (ne_of_row fun j hj e => HFR2.out.1 j e hj))
                have HBX5 := Lib.hid (HBQ.out.keep hg0 (fun e => by have := HSP.out.outer.lt _ e; omega))
                have hb5 : Below w3.heap.size w3 w5 := below_grown (B := w3.heap.size) hb3 (by omega) (HSP.out.outer.mono (Nat.le_succ _)) hg0
                have HB5 := Lib.hid hb5
                have HFR5 := Lib.hid (OwnM.free_push (r := .slice ou row.length cu) (v' := v') HFR2.out HRQ2.out (fun j hj e => by have := (HOO.out.lt j hj).1; have := HRV.out.lt j e; omega) (fun j hj => by
                  rcases HK1.out j hj with h | h
                  · exact .inl h
                  · right; simp at h; omega))
                obtain ⟨-, hA2, -, -, -, hA6⟩ := HX.out w5 hb5
                have hfk := HFW.out w5 hb5
                have hfr : f < d.rules.length := by rw [HQL.out]; exact hfn
                have hrq := hA6 f hfr
                have hcb := HBX5.out.cellR
                have hzz : w3.heap.size < w5.heap.size := HBX5.out.lt
                have hs1 : w.heap.size < w5.heap.size := by omega
                have hs2 : gf < w5.heap.size := by omega
                have hs3 : bq < w5.heap.size := by omega
                have HRF : Hid (d.rules.getD f 0 = ruleN d f) := Lib.hid rfl
                have HZL : Hid ((ints ((F.take k).map (ruleN d))).length ≤ 1000) := Lib.hid (by simp; omega)
                clear hA6 hb5 hg0 HSP HRQ2 HBQ
                generalize d.rules.getD f 0 = y at *
                refine wp_region_tailg [0,1,2,3,4,5,6] [7] [8,9,10] (by kernel_rfl) (by kernel_rfl) ?_
                simp only [pick, List.map_cons, List.map_nil, List.getD_cons_zero, List.getD_cons_succ]
                repeat (go_big_quiet_step (fail))
                refine wpQuiet_nil ?_
                (unfold wpAct; go_wp2; refine ⟨(ex_ext (by repeat (first | exact Below.refl _ _ | assumption | refine b_drewN ?_ _ | refine Below.drew ?_ | refine b_ext' ?_ _ | refine b_alloc' ?_ _))), ?_⟩)
                unfold wpAct
                unfold wpAct
                have hx : Sl ((w5.alloc (.cells #[.int .i64 y] 3)).drew) (.slice (some ⟨w5.heap.size, 0, none⟩) 1 1) (ints [y]) := by
                  have h1 := (sl_lit w5 #[.int .i64 y] 3 (by simp)).up (below_drewN _ 1)
                  rw [← World.drew_is_drewN] at h1
                  simpa [ints] using h1
                go_wp2_with (at_builtin; go_loud (refine wpList_app rfl (.tmp 94) (.tmp 100) 24 rfl (w3.heap.size + 1) 3 (.int .i64 0) 8 Try.underlying24 (by kernel_rfl) rfl (by decide) rv (ints ((F.take k).map (ruleN d))) rfl (HRV5.out.up (by repeat (first | exact Below.refl _ _ | assumption | refine b_drewN ?_ _ | refine Below.drew ?_ | refine b_ext' ?_ _ | refine b_alloc' ?_ _))) (.slice (some ⟨w5.heap.size, 0, none⟩) 1 1) (ints [y]) rfl hx (ints_one _) (by have := HZL.out; simp at this ⊢; omega) (Nat.le_trans (Nat.succ_le_of_lt hzz) (by simp)) ?_; intro v6 w6 hown1 hg1 hk1; obtain ⟨oz, nz, cz, rfl⟩ := own_slice hown1; have HO6 := Lib.hid hown1; have HG6 := Lib.hid hg1; have HK6 := Lib.hid hk1; clear hown1 hg1 hk1))
                refine ⟨trivial, ?_⟩
                unfold wpAct
                go_wp2
                refine ⟨trivial, ?_⟩
                unfold wpAct
                have hg5 : w5.grownBy w6 rv.ownBlock := grown_trans (grown_below (by repeat (first | exact Below.refl _ _ | assumption | refine b_drewN ?_ _ | refine Below.drew ?_ | refine b_ext' ?_ _ | refine b_alloc' ?_ _)) _) HG6.out
                have HBX6 := Lib.hid (HBX5.out.keep hg5 (fun e => by have := HRV5.out.lt _ e; omega))
                have hcb6 := HBX6.out.cellR
                have hfb6 := HBX6.out.free 257
                go_wp2
                refine ⟨trivial, ?_⟩
                unfold wpAct
                go_wp2
                go_roundg (F.length + 1 - (k + 1))
                case measure => omega
                case rel =>
                  have hom6 := HOM5.out.keep' hg5 HFR5.out
                  obtain ⟨hbs, hgs⟩ := HBX6.out.setR (.slice oz nz cz)
                  have hb6 : Below w3.heap.size w3 w6 := below_grown (B := w3.heap.size) HB5.out (by omega) (HRV5.out.mono (Nat.le_succ _)) hg5
                  have hk6 : ∀ j, (Value.slice oz nz cz).ownBlock = some j → rv.ownBlock = some j ∨ w5.heap.size ≤ j := fun j hj => by
                    rcases HK6.out j hj with h | h
                    · exact .inl h
                    · right; simp at h; omega
                  refine ⟨k + 1, vs ++ [.slice ou row.length cu], .slice oz nz cz, by omega, by go_num, ?_, hbs, ?_, HOM5.out.free_step HFR5.out hk6, hb6.setCell (Nat.le_refl _) _, rfl⟩
                  · rw [take_succ_getD' (z := []) (by rw [HRL.out]; exact hlt) HR1.out, List.map_append]
                    exact hom6.keep' hgs (hom6.free_below (Nat.lt_succ_self _))
                  · rw [HTF.out, ints_append, ← HRF.out]
                    exact HO6.out.keep hgs (HO6.out.ne_lt (Nat.lt_succ_self _))
          · have hkF : k = F.length := by omega
            subst hkF
            have htr : (rowsD d).take F.length = rowsD d := List.take_of_length_le (by rw [HRL.out]; exact Nat.le_refl _)
            rw [htr] at HO
            rw [List.take_length] at HRV
            obtain ⟨w7, rfl⟩ : ∃ w7 : World, w7 = wr := ⟨_, rfl⟩
            clear htr
            have HRA : Hid (∀ W, w7.grownBy W (some w3.heap.size) → RowsAt W u12 (rowsD d)) := Lib.hid (fun W hW => (HO.out.keep' hW (HO.out.free_below (Nat.lt_succ_self _))).rowsG.ints)
            obtain ⟨o9, cap9, b9, f9, hu12, -, -⟩ := (HRA.out w7 (grown_refl _ _)).open
            subst hu12
            have hrl9 : (rowsD d).length = F.length := HRL.out
            rw [hrl9] at HRA ⊢
            clear hrl9 HO
            have HRK : Hid (∀ c, c < 256 → 0 ≤ d.cls.getD c 0 ∧ ∀ j, j < (rowsD d).length → d.cls.getD c 0 < ((rowsD d).getD j []).length) := Lib.hid (fun c hc => by
              obtain ⟨k0, hk0, -⟩ := cls_lt HV.out HLC.out (i := 0) (by omega) hc
              refine ⟨by omega, fun j hj => ?_⟩
              have hj' : j < F.length := by rw [← HRL.out]; exact hj
              have hfn := (reach_met HV.out).2.1 _ (HFR.out j hj')
              obtain ⟨k1, hk1, hk2⟩ := cls_lt HV.out HLC.out hfn hc
              rw [HRD.out j hj', nl_length, List.length_map, rowN_length]
              omega)
            have HXS : Hid (∀ j, j < (rowsD d).length → ∀ i, 0 ≤ ((rowsD d).getD j []).getD i 0 ∧ ((rowsD d).getD j []).getD i 0 < 65536) := Lib.hid (fun j hj i => rowsD_small HV.out hj i)
            have hwb : Below w.heap.size w w7 := HW3.out.trans (HB.out.mono HW3.out.size)
            have hcall := HCO.out w7 hwb (.slice o9 F.length cap9) (rowsD d) (HRA.out w7 (grown_refl _ _)) HRK.out HXS.out (by rw [HRL.out]; omega)
            have HCALL := Lib.hid hcall; clear hcall hwb
            have hGA := HXA.out w7 HB.out
            have HGA := Lib.hid hGA; clear hGA
            have hz2 := zero_cls
            obtain ⟨Z2, hZ2⟩ : ∃ Z2, Z2 = zCls := ⟨_, rfl⟩
            rw [← hZ2] at hz2
            have HNC : ∀ W : World, Hid (BoxC (W.alloc (.cells Z2 22)) W.heap.size (List.replicate 256 0)) := fun W => Lib.hid (by rw [hZ2]; exact boxC_new W)
            clear hZ2
            have HCLL : Hid ((clsI (rowsD d) d.cls).length = 256) := Lib.hid (by simp [clsI, HLC.out])
            have hwlt7 : w3.heap.size < w7.heap.size := HBX.out.lt
            have hw37 : w.heap.size + 1 < w3.heap.size := HRES3.out.lt
            go_wp2_with (first | (refine load_dfa rfl _ rfl w.heap.size rfl A HS.out HGA.out ?_) | (go_at_call 23; refine HCALL.out.mono ?_; rintro e w8 ⟨vl, B, rfl, hol, hBl, hb8⟩; obtain ⟨ol9, cl9, gl9, rfl, -⟩ := hol.cases; rw [ints_length] at hol ⊢; have HOL := Lib.hid hol; have HBL8 := Lib.hid hBl; have HB8 := Lib.hid hb8; have hs78 := hb8.size; clear hol hBl hb8) | (refine store_arr rfl _ _ rfl w8.heap.size rfl B rfl HBL8.out HCLL.out (HNC w8).out ?_; intro w85 hb85 hg85; have HB85 := Lib.hid hb85; obtain ⟨C9, hC9, hC9s, hC9l⟩ := hb85.open; have HC9 := Lib.hid hC9; have HC9S := Lib.hid hC9s; have HC9L := Lib.hid hC9l; have HG85 := Lib.hid hg85; have HBX85 := Lib.hid (((HBX.out.up HB8.out).up (below_alloc w8 (.cells Z2 22))).keep hg85 (fun e => by injection e with e; omega)); clear hb85 hg85 hC9 hC9s hC9l) | (refine load_arr rfl _ rfl w8.heap.size rfl C9 HC9S.out HC9.out ?_) | (refine store_cls rfl _ _ rfl w3.heap.size rfl C9 rfl HC9L.out HCLL.out HBX85.out ?_; intro w9 hb9 hg9; have HBX9 := Lib.hid hb9; have HG9 := Lib.hid hg9; clear hb9 hg9))
            have hg79 : w7.grownBy w9 (some w3.heap.size) := by
              have h1 : Below w7.heap.size w7 w85 := ((HB8.out.alloc (by omega) _)).grown HG85.out (by simp; omega) (fun j hj => by cases hj; omega)
              exact grown_trans (grown_below h1 _) HG9.out
            have HGC := Lib.hid hg79; clear hg79
            have HRV9 := Lib.hid (HRV.out.keep HGC.out (HRV.out.ne_lt (Nat.lt_succ_self _)))
            have HRS : Hid (∀ W, w9.grownBy W (some w3.heap.size) → RowsAt W (.slice o9 F.length cap9) (rowsD d)) := Lib.hid (fun W hW => HRA.out W (grown_trans HGC.out hW))
            have HLS : Hid (∀ W, w9.grownBy W (some w3.heap.size) → IntsAt W (.slice ol9 (leftI (rowsD d) d.cls).length cl9) (leftI (rowsD d) d.cls)) := Lib.hid (fun W hW => by
              have h1 := (HOL.out.up (below_alloc w8 (.cells Z2 22))).keep HG85.out (.inr (fun e => by have := (HOL.out.lt _ e).2; omega))
              exact ((h1.keep HG9.out (h1.off hwlt7)).keep hW (h1.off hwlt7)).sl)
            have HNL9 : Hid ((nextI (rowsD d) (leftI (rowsD d) d.cls)).length = F.length) := Lib.hid (by simp [nextI, HRL.out])
            generalize hlf : leftI (rowsD d) d.cls = lf at *
            go_wp2
            go_loopg [114] (F.length + 1) (fun gk i wr => ∃ (k : Nat) (vs : List Value) (nv : Value), k ≤ F.length ∧ i = .int .i64 k ∧ BoxD wr w3.heap.size nv rv (clsI (rowsD d) d.cls) ∧ OwnM wr w9.heap.size 24 3 nv vs (((nextI (rowsD d) lf).take k).map ints) ∧ w9.grownBy wr (some w3.heap.size) ∧ gk = F.length + 1 - k)
            case atStart => exact ⟨0, [], _, Nat.zero_le _, rfl, HBX9.out, OwnM.nil _ _ _ _, grown_refl _ _, rfl⟩
            case round =>
              obtain ⟨k, vs, nv, hk, rfl, hbox, hom, hgr, rfl⟩ := hrel
              have HBN := Lib.hid hbox; clear hbox
              have HON := Lib.hid hom; clear hom
              have HGN := Lib.hid hgr; clear hgr
              obtain ⟨oz, cz, bz, fz, hez, hdz, hrz⟩ := (HRS.out wr HGN.out).open
              obtain ⟨oy, cy, by_, fy, hey, hdy, hry⟩ := (HLS.out wr HGN.out).open
              have hzl : (rowsD d).length = F.length := HRL.out
              rw [hzl] at hez hdz hrz
              cases hez
              cases hey
              by_cases hlt : k < F.length
              · obtain ⟨oi, ci, bi, fi, hck, hdk, hcj, -⟩ := hrz k hlt
                have HLV : Hid (∀ j, j < lf.length → 0 ≤ lf.getD j 0 ∧ lf.getD j 0 < ((rowsD d).getD k []).length) := Lib.hid (fun j hj => by
                  have hm : lf.getD j 0 ∈ d.cls := mem_pickBy (f := colI (rowsD d)) (by rw [show pickBy (colI (rowsD d)) d.cls = lf from hlf]; exact getD_mem lf j 0 hj)
                  obtain ⟨a, ha, hae⟩ := List.mem_iff_getElem.1 hm
                  have h1 := HRK.out a (by rw [← HLC.out]; exact ha)
                  have e : d.cls.getD a 0 = lf.getD j 0 := by rw [← hae]; simp [List.getD, ha]
                  rw [e] at h1
                  exact ⟨h1.1, h1.2 k (by rw [HRL.out]; exact hlt)⟩)
                have HNR : Hid ((nextI (rowsD d) lf).getD k [] = lf.map fun kap => ((rowsD d).getD k []).getD kap.toNat 0) := Lib.hid (by
                  have : k < (rowsD d).length := by rw [HRL.out]; exact hlt
                  simp [nextI, List.getD, this])
                generalize (rowsD d).getD k [] = row at *
                have hszw : w9.heap.size ≤ wr.heap.size := HGN.out.size
                have hlfl : lf.length ≤ 256 := by
                  have := pickBy_len (colI (rowsD d)) d.cls
                  rw [show pickBy (colI (rowsD d)) d.cls = lf from hlf, HLC.out] at this; exact this
                have HCK := Lib.hid hck
                have HCJ := Lib.hid hcj
                have HRY := Lib.hid hry
                have HDY := Lib.hid hdy
                have HDZ := Lib.hid hdz
                have HDK := Lib.hid hdk
                have hbz := hdz.hblk (by omega)
                have hix9 := index_any (P := Try.prog) 23 24 Try.underlying23 (by kernel_rfl) hdz
                have hixl9 := index_any (P := Try.prog) 24 3 Try.underlying24 (by kernel_rfl) hdy
                have hixk := index_any (P := Try.prog) 24 3 Try.underlying24 (by kernel_rfl) hdk
                clear hck hcj hry hdy hdz hdk hrz
                obtain ⟨cn, hcn⟩ : ∃ l : List Int, l = lf.map fun kap => row.getD kap.toNat 0 := ⟨_, rfl⟩
                have hcnl : cn.length = lf.length := by rw [hcn]; simp
                have HCN : Hid (∀ j, j < lf.length → cn.getD j 0 = row.getD (lf.getD j 0).toNat 0) := Lib.hid (fun j hj => by rw [hcn]; simp [List.getD, hj])
                rw [← hcn] at HNR
                have HCNL := Lib.hid hcnl
                clear hcn hcnl
                have hck := HCK.out
                go_wp2
                clear hck
                obtain ⟨wo, rfl⟩ : ∃ wo : World, wo = wr := ⟨_, rfl⟩
                go_loopg [22, 120] (lf.length + 1) (fun gk vl i wr => ∃ c : Nat, c ≤ lf.length ∧ i = .int .i64 c ∧ Own wr wo.heap.size 3 vl (ints (cn.take c)) ∧ Below wo.heap.size wo wr ∧ gk = lf.length + 1 - c)
                case atStart => exact ⟨0, Nat.zero_le _, rfl, Own.nil _ _ _, Below.refl _ _, rfl⟩
                case round =>
                  obtain ⟨c, hc, rfl, how, hbel, rfl⟩ := hrel
                  have hsz2 := hbel.size
                  have HBB := Lib.hid hbel; clear hbel
                  have HOO := Lib.hid how; clear how
                  by_cases hltc : c < lf.length
                  · have hv9 := HLV.out c hltc
                    have hw1 := (HBB.out.cell (p := ⟨bz, fz + k, none⟩) hbz).trans HCK.out
                    have hby := HDY.out.hblk (by omega)
                    have hw2 := (HBB.out.cell (p := ⟨by_, fy + c, none⟩) hby).trans (HRY.out c hltc)
                    have hbi := HDK.out.hblk (by omega)
                    have hw3 := (HBB.out.cell (p := ⟨bi, fi + (lf.getD c 0).toNat, none⟩) hbi).trans (HCJ.out (lf.getD c 0).toNat (by omega))
                    rw [← HCN.out c hltc] at hw3
                    have HT : Hid (cn.take (c + 1) = cn.take c ++ [cn.getD c 0]) := Lib.hid (take_succ_getD _ _ _ (by rw [HCNL.out]; exact hltc))
                    have hs1 : bz < wr.heap.size := by omega
                    have hs2 : by_ < wr.heap.size := by omega
                    have hs3 : bi < wr.heap.size := by omega
                    generalize lf.getD c 0 = kap at *
                    generalize cn.getD c 0 = y at *
                    have HLN : Hid ((ints (cn.take c)).length + (ints [y]).length ≤ 4294967296) := Lib.hid (by simp; omega)
                    go_wp2_with (at_builtin; go_loud (refine wpList_app rfl (.tmp 124) (.tmp 129) 24 rfl wo.heap.size 3 (.int .i64 0) 8 Try.underlying24 (by kernel_rfl) rfl (by decide) u22 (ints (cn.take c)) rfl (HOO.out.up (below_alloc _ _)) (.slice (some ⟨wr.heap.size, 0, none⟩) 1 1) (ints [y]) rfl (by simpa [ints] using sl_lit wr #[.int .i64 y] 3 (by simp)) (ints_one _) HLN.out (Nat.le_trans hsz2 (by simp)) ?_; intro v' w10 hown1 hg1 hk1; have HO1 := Lib.hid hown1; have HG1 := Lib.hid hg1; clear hown1 hg1 hk1))
                    go_roundg (lf.length + 1 - (c + 1))
                    case measure => omega
                    case rel =>
                      refine ⟨c + 1, by omega, by go_num, ?_, below_grown (B := wo.heap.size) (HBB.out.alloc hsz2 _) (by simp; omega) (HOO.out.up (by repeat (first | exact Below.refl _ _ | assumption | refine b_drewN ?_ _ | refine Below.drew ?_ | refine b_ext' ?_ _ | refine b_alloc' ?_ _))) HG1.out, rfl⟩
                      rw [HT.out, ints_append]
                      exact HO1.out
                  · have hcl9 : c = lf.length := by omega
                    subst hcl9
                    have hct : cn.take lf.length = cn := List.take_of_length_le (by rw [HCNL.out]; exact Nat.le_refl _)
                    rw [hct] at HOO
                    clear hct
                    obtain ⟨ou, cu, gu, rfl, -⟩ := HOO.out.cases
                    have hul : (ints cn).length = lf.length := by rw [ints_length, HCNL.out]
                    rw [hul] at HOO ⊢
                    clear hul
                    have HBN1 := Lib.hid (HBN.out.up HBB.out)
                    have HON1 := Lib.hid (HON.out.up HBB.out)
                    have hcb := HBN1.out.cellN
                    have hbl := HBN1.out.lt
                    have hvl : vs.length = k := by have h := HON1.out.len; simp [HNL9.out] at h; omega
                    have hsz9 : w9.heap.size ≤ wr.heap.size := Nat.le_trans hszw hsz2
                    go_wp2_with (at_builtin; go_loud (refine wpList_app rfl (.tmp 133) (.tmp 135) 23 rfl w9.heap.size 24 (.slice none 0 0) 24 Try.underlying23 (by kernel_rfl) rfl (by decide) nv vs rfl (HON1.out.outer.up (below_alloc _ _)) (.slice (some ⟨wr.heap.size, 0, none⟩) 1 1) [.slice ou lf.length cu] rfl (sl_lit wr #[_] 24 (by simp)) (by simp; exact own_oneCell HOO.out) (by simp; omega) (Nat.le_trans hsz9 (by simp)) ?_; intro v' w11 hown1 hg1 hk1; obtain ⟨oq1, nq1, cq1, rfl⟩ := own_slice hown1; have HO1 := Lib.hid hown1; have hg11 := grown_trans (grown_below (below_alloc wr (.cells #[.slice ou lf.length cu] 24)) _) hg1; have HG1 := Lib.hid hg1; have HG11 := Lib.hid hg11; have HK1 := Lib.hid hk1; have HB11 := Lib.hid (HBN1.out.keep hg11 (fun e => by have := HON1.out.outer.lt _ e; have := HBX9.out.lt; omega)); have hcb1 := HB11.out.cellN; have hfb1 := HB11.out.free 256; clear hown1 hg1 hk1 hg11))
                    go_roundg (F.length + 1 - (k + 1))
                    case measure => omega
                    case rel =>
                      obtain ⟨hbs, hgs⟩ := HB11.out.setN (.slice oq1 nq1 cq1)
                      have hp := HON1.out.push (r := .slice ou lf.length cu) (HOO.out.mono hszw) (by
                        cases hu : (Value.slice ou lf.length cu).ownBlock with
                        | none => exact OwnM.free_none
                        | some q => exact HON.out.free_new (HOO.out.lt q hu).1) (grown_below (below_alloc _ _) none) HO1.out HG1.out HK1.out
                      refine ⟨k + 1, vs ++ [.slice ou lf.length cu], .slice oq1 nq1 cq1, by omega, by go_num, hbs, ?_, grown_trans (grown_late (grown_trans HGN.out (grown_below HBB.out _)) HG11.out (fun j hj => (HON1.out.outer.lt j hj).1)) hgs, rfl⟩
                      rw [take_succ_getD' (z := []) (by rw [HNL9.out]; exact hlt) HNR.out, List.map_append]
                      exact hp.keep' hgs (hp.free_below HBX9.out.lt)
              · have hkF9 : k = F.length := by omega
                subst hkF9
                have htn : (nextI (rowsD d) lf).take F.length = nextI (rowsD d) lf := List.take_of_length_le (by rw [HNL9.out]; exact Nat.le_refl _)
                rw [htn] at HON
                clear htn
                have hg7 : w7.grownBy wr (some w3.heap.size) := grown_trans HGC.out HGN.out
                have hr3 := HRES3.out.lt
                have HRS9 : Hid (BoxD wr (w.heap.size + 1) (.slice none 0 0) (.slice none 0 0) (List.replicate 256 0)) := Lib.hid ((HRES3.out.up HB.out).keep hg7 (fun e => by injection e with e; omega))
                have HRR9 := Lib.hid (HRV9.out.keep HGN.out (HRV9.out.ne_lt (Nat.lt_succ_self _)))
                have HWF := Lib.hid (HW3.out.trans (HB.out.mono HW3.out.size))
                obtain ⟨A9, hA9, hs9, hl9⟩ := HBN.out.open
                have HA9 := Lib.hid hA9
                have HS9 := Lib.hid hs9
                have HL9 := Lib.hid hl9
                have hn1c : nv.oneCell' = true := own_oneCell HON.out.outer
                have hr1c : rv.oneCell' = true := own_oneCell HRV9.out
                clear hA9 hs9 hl9 hrz hry hdz hdy
                go_wp2_with (first | (refine load_dfa rfl _ rfl w3.heap.size rfl A9 HS9.out HA9.out ?_) | (refine store_dfa rfl _ _ rfl (w.heap.size + 1) rfl A9 rfl HL9.out HBN.out.len hn1c hr1c HRS9.out ?_; intro w12 hb12 hg12; have HB12 := Lib.hid hb12; have HG12 := Lib.hid hg12; clear hb12 hg12))
                have hg9 : wr.grownBy w12 (some (w.heap.size + 1)) := HG12.out
                have hs79 := HGC.out.size
                have hs7r := hg7.size
                have hnv9 : RowsAt w12 nv (nextI (rowsD d) lf) := (HON.out.keep' hg9 (HON.out.free_below (by omega))).rowsG.ints
                have hrv9 : IntsAt w12 rv (F.map (ruleN d)) := (HRR9.out.keep hg9 (HRR9.out.ne_lt (by omega))).sl
                refine ret_dfa rfl rfl rfl rfl HB12.out hnv9 hrv9 fun v hv => ⟨v, by rw [HE.out]; rfl, ?_, ?_⟩
                · rw [HI.out, makeD, hF, hlf]; exact hv
                · have hb1 : Below w.heap.size w wr := Below.grown (B := w.heap.size) HWF.out hg7 (by omega) (fun j hj => by cases hj; omega)
                  exact hb1.grown hg9 (by omega) (fun j hj => by cases hj; exact Nat.le_succ _)
  · have hrb := rightB_false hv
    have HI := Lib.hid (makeI_no hv)
    have HE := Lib.hid (makeE_no hv)
    clear hv
    go_enter Try.func9, Try.ntmps9
    go_wp2_with (first | (refine load_dfa rfl _ rfl w.heap.size rfl A HS.out HG2.out ?_) | (go_at_call 21; refine (HL.out _ (by repeat (first | exact Below.refl _ _ | assumption | refine b_drewN ?_ _ | refine Below.drew ?_ | refine b_ext' ?_ _ | refine b_alloc' ?_ _))).mono ?_; rintro e w' ⟨rfl, x, rfl⟩; rw [hrb]) | (refine store_dfa rfl _ _ rfl (w.heap.size + 1) rfl Z rfl (HZ.out ▸ zArr_list) List.length_replicate rfl rfl (HB2.out.up (ext_below _ _)) ?_; intro w1 hb1 hg1; have HB1 := Lib.hid hb1; have HGR := Lib.hid hg1; clear hb1 hg1))
    refine ret_dfa rfl rfl rfl rfl HB1.out (rows_nil _) (rules := []) (Sl.nil _) fun v hv => ⟨v, by rw [HE.out]; rfl, by rw [HI.out]; exact hv, ?_⟩
    exact Below.grown (B := w.heap.size) (by repeat (first | exact Below.refl _ _ | assumption | refine b_drewN ?_ _ | refine Below.drew ?_ | refine b_ext' ?_ _ | refine b_alloc' ?_ _)) HGR.out (Nat.le_trans (by simp; omega) (size_ext _ _)) (fun j hj => by cases hj; exact Nat.le_succ _)
end Go.Cm
