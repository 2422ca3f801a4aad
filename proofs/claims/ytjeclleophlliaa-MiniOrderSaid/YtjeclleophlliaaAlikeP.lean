/- The walk of mini.Alike. Conditions: the argument reads as an automaton. -/
import Derived.Test.YtjeclleophlliaaParts
import Derived.Test.YtjeclleophlliaaAlikeR
import Derived.Test.YtjeclleophlliaaDfaX
namespace Go.Cm
open Go.RowKit Go.Proofs

theorem members_self_nil {d : Dfa} {k : Nat} (h : ∀ j, j < k → ¬ Eqv d k j) : members d k k = [] := by
  unfold members
  rw [List.filter_eq_nil_iff]
  intro j hj
  have hj' : j < k := by simpa using hj
  simpa using h j hj'
theorem members_succ_first {d : Dfa} {k f g : Nat} (hf : f ∈ firsts d k) (hg : g ∈ firsts d k) (he : Eqv d k f) : members d g (k + 1) = if g = f then members d f k ++ [k] else members d g k := by
  by_cases h : g = f
  · subst h; rw [if_pos rfl]; exact members_succ_yes he.symm
  · rw [if_neg h]
    exact members_succ_no fun e => h (first_unique hg hf (e.trans he))
theorem own_slice {w : World} {B E : Nat} {v : Value} {xs : List Value} (h : Own w B E v xs) : ∃ oz nz cz, v = .slice oz nz cz := by
  obtain ⟨oz, cz, _, h, -⟩ := h.cases
  exact ⟨oz, _, cz, h⟩
/-- an empty row is appended -/
theorem OwnM.new {w w' : World} {B E E' : Nat} {v : Value} {vs : List Value} {ll : List (List Value)} (h : OwnM w B E E' v vs ll) {v' : Value} {o : Obj} (ho : Own w' B E v' (vs ++ [.slice none 0 0])) (hg : (w.alloc o).grownBy w' v.ownBlock) (hk : ∀ k, v'.ownBlock = some k → v.ownBlock = some k ∨ (w.alloc o).heap.size ≤ k) :
    ∃ g c, v' = .slice (some ⟨g, 0, none⟩) (vs.length + 1) c ∧ Hd w' (some ⟨g, 0, none⟩) (vs.length + 1) c g 0 ∧ OwnM w' B E E' (.slice (some ⟨g, 0, none⟩) (vs.length + 1) c) (vs ++ [.slice none 0 0]) (ll ++ [[]]) ∧ w'.cell? ⟨g, vs.length, none⟩ = some (.slice none 0 0) := by
  have hp := h.push (r := .slice none 0 0) (xs := []) (Own.nil _ _ _) ⟨fun k hk e => by simp [Value.ownBlock] at e, fun i _ k hk e => by simp [Value.ownBlock] at e⟩ (grown_below (below_alloc w o) none) ho hg hk
  obtain ⟨oa, c, g, he, hd, -, hc, -⟩ := ho.cases
  rw [List.length_append] at he hd hc
  have h1 := hd.hat (by simp)
  subst h1
  subst he
  refine ⟨g, c, rfl, hd, hp, ?_⟩
  rw [hc _ (by simp), getD_append_one]
theorem set_append_one {α : Type} (l : List α) (x y : α) : (l ++ [x]).set l.length y = l ++ [y] := by simp
theorem firsts_nodup (d : Dfa) (k : Nat) : (firsts d k).Nodup := List.nodup_range.sublist (List.filter_sublist)
theorem alike_old {d : Dfa} {k f : Nat} (hf : f ∈ firsts d k) (he : Eqv d k f) :
    alikeUpto d (k + 1) (k + 1) = (alikeUpto d k k).set (idx (firsts d k) f) (members d f k ++ [k]) ∧ firsts d (k + 1) = firsts d k ∧ (alikeUpto d k k).getD (idx (firsts d k) f) [] = members d f k := by
  have h1 : firsts d (k + 1) = firsts d k := firsts_succ_no fun h => h f (mem_firsts.1 hf).1 he
  refine ⟨?_, h1, ?_⟩
  · unfold alikeUpto
    rw [h1]
    apply List.ext_getElem
    · simp
    · intro i hi hj
      have hi' : i < (firsts d k).length := by simpa using hi
      simp only [List.getElem_map, List.getElem_set]
      rw [members_succ_first hf (List.getElem_mem hi') he]
      have hx : (firsts d k)[idx (firsts d k) f]'(idxOf_lt hf) = f := getElem_idx hf
      by_cases h : idx (firsts d k) f = i
      · subst h; rw [if_pos hx, if_pos rfl]
      · rw [if_neg h, if_neg]
        intro e
        exact h ((List.getElem_inj (firsts_nodup d k)).1 (hx.trans e.symm))
  · unfold alikeUpto
    rw [List.getD_eq_getElem?_getD, List.getElem?_map, List.getElem?_eq_getElem (idxOf_lt hf), getElem_idx hf]; rfl
theorem alike_new {d : Dfa} {k : Nat} (h : ∀ j, j < k → ¬ Eqv d k j) : alikeUpto d (k + 1) (k + 1) = alikeUpto d k k ++ [[k]] := by
  unfold alikeUpto
  rw [firsts_succ_yes h, List.map_append, List.map_cons, List.map_nil, members_succ_yes (Eqv.refl d k), members_self_nil h]
  congr 1
  apply List.map_congr_left
  intro g hg
  exact members_succ_no fun e => h g (mem_firsts.1 hg).1 e.symm

set_option maxRecDepth 100000 in
set_option maxHeartbeats 4000000 in
theorem alikeP (v : Value) (d : Dfa) (w : World) (h : DfaAt w v d) : Calls Try.prog 11 #[v] w (RetRows (alikeI d) w) := by
  have hL := fun w' (hb : Below w.heap.size w w') => rightP v d w' (h.up hb)
  have hPt := fun w' (hb : Below w.heap.size w w') hv => parts v d w' (h.up hb) hv
  obtain ⟨A, rfl, hs, hl, hc, -, -⟩ := h
  have HL := Lib.hid hL; clear hL
  have HPT := Lib.hid hPt; clear hPt
  have HS := Lib.hid hs; clear hs hc hl
  have HG := Lib.hid (heap_alloc_new w (.cells A 26))
  by_cases hv : Valid d
  · have hrb := rightB_true hv
    have HAI := Lib.hid (alikeI_yes hv)
    have hn1 := hv.1
    have hn2 := hv.2.1
    have HV := Lib.hid hv; clear hv
    go_enter Try.func11, Try.ntmps11
    go_wp2_with (first | (refine load_dfa rfl _ rfl w.heap.size rfl A HS.out HG.out ?_) | (refine load_dfa rfl _ rfl w.heap.size rfl A HS.out ((heap_ext _ _ _ (by simp)).trans HG.out) ?_) | (go_at_call 21; refine (HL.out _ (below_alloc _ _)).mono ?_; rintro e w' ⟨rfl, x, rfl⟩; rw [hrb]) | (go_at_call 22; refine (HPT.out _ (by repeat (first | exact Below.refl _ _ | assumption | refine b_drewN ?_ _ | refine Below.drew ?_ | refine b_ext' ?_ _ | refine b_alloc' ?_ _)) HV.out).mono ?_; rintro e w1 ⟨vp, part, rfl, hia, hok, hbe⟩; obtain ⟨oa, cap, b, off, rfl, hd, hro⟩ := hia.open; have HOK := Lib.hid hok; have HB1 := Lib.hid hbe; have HRO := Lib.hid hro; clear hok hbe hro hia; have hpl := HOK.out.1; rw [hpl] at hd ⊢))
    have hb0 : Below w.heap.size w w1 := (b_ext' (below_alloc w _) _).trans (HB1.out.mono (by have := size_ext (w.alloc (.cells A 26)) x; simp at this; omega))
    have HB0 := Lib.hid hb0; clear hb0 HB1
    have hix := index_any (P := Try.prog) 24 3 Try.underlying24 (by kernel_rfl) hd
    have hb := hd.hblk (by omega)
    have hpl1 : part.length ≤ 1000 := by omega
    have HD := Lib.hid hd; clear hd hpl
    go_loopg [3, 12] (d.next.length + 1) (fun gk vo i wr => ∃ (k : Nat) (vs : List Value), k ≤ d.next.length ∧ i = .int .i64 k ∧ OwnM wr w1.heap.size 24 3 vo vs ((alikeUpto d k k).map fun l => ints (nl l)) ∧ Below w1.heap.size w1 wr ∧ gk = d.next.length + 1 - k)
    case atStart => exact ⟨0, [], Nat.zero_le _, rfl, OwnM.nil _ _ _ _, Below.refl _ _, rfl⟩
    case round =>
      obtain ⟨k, vs, hk, rfl, hom, hbel, rfl⟩ := hrel
      have hsz : w1.heap.size ≤ wr.heap.size := hbel.size
      have HB := Lib.hid hbel; clear hbel
      have HO := Lib.hid hom; clear hom
      by_cases hlt : k < d.next.length
      · have hcp := HRO.out k (by rw [HOK.out.1]; exact hlt)
        have hcw : wr.cell? ⟨b, off + k, none⟩ = some (.int .i64 (part.getD k 0)) := (HB.out.cell (p := ⟨b, off + k, none⟩) hb).trans hcp
        have hb2 : b < wr.heap.size := by omega
        obtain ⟨f, hf, hef, hpk⟩ := HOK.out.2 k hlt
        have hfl : (firsts d k).length ≤ k := firsts_len d k
        have hvl : vs.length = (firsts d k).length := by rw [HO.out.len]; simp [alikeUpto]
        have hlk : k < part.length := by rw [HOK.out.1]; exact hlt
        generalize part.getD k 0 = y at *
        obtain ⟨og, cg, gg, hvo, hdg, -, hcg, hfg, -⟩ := HO.out.outer.cases
        subst hvo
        have HVL := Lib.hid hvl; clear hvl
        have HFL := Lib.hid hfl; clear hfl
        clear hcp
        by_cases hnew : ∀ j, j < k → ¬ Eqv d k j
        · obtain rfl : f = k := by
            rcases Nat.lt_or_ge f k with h1 | h1
            · exact absurd hef (hnew f h1)
            · have := (mem_firsts.1 hf).1; omega
          have H1 := Lib.hid (alike_new hnew)
          have e1 : idx (firsts d (f + 1)) f = vs.length := by
            rw [firsts_succ_yes hnew, idxOf_append_new (fun h => by have := (mem_firsts.1 h).1; omega), HVL.out]
          rw [e1] at hpk
          subst hpk
          clear e1 hnew hf hef hcg hfg
          have hvk : vs.length ≤ f := by rw [HVL.out]; exact HFL.out
          have hq : vs.length < vs.length + 1 := Nat.lt_succ_self _
          go_wp2_with (at_builtin; first | (refine wpList_app rfl (.tmp 21) (.tmp 22) 23 rfl w1.heap.size 24 (.slice none 0 0) 24 Try.underlying23 (by kernel_rfl) rfl (by decide) (.slice og vs.length cg) vs rfl (HO.out.outer.up (below_alloc _ _)) (.slice (some ⟨wr.heap.size, 0, none⟩) 1 1) [.slice none 0 0] rfl (sl_lit wr #[_] 24 (by simp)) (by simp [Value.oneCell']) (by simp; omega) (Nat.le_trans hsz (by simp)) ?_; intro v' w2 hown1 hg1 hk1; obtain ⟨g2, c2, rfl, hdg2, ho2, hcn2⟩ := HO.out.new hown1 hg1 hk1; have hixg := index_any (P := Try.prog) 23 24 Try.underlying23 (by kernel_rfl) hdg2; have HO2 := Lib.hid ho2; have HG1 := Lib.hid hg1; clear hown1 hk1 hdg2 ho2 hg1) | (refine wpList_app rfl (.tmp 29) (.tmp 31) 24 rfl w1.heap.size 3 (.int .i64 0) 8 Try.underlying24 (by kernel_rfl) rfl (by decide) (.slice none 0 0) [] rfl (Own.nil _ _ _) (.slice (some ⟨w2.heap.size, 0, none⟩) 1 1) (ints (nl [f])) rfl (by simpa [ints, nl] using sl_lit w2 #[.int .i64 (f : Int)] 3 (by simp)) (ints_one _) (by simp) (Nat.le_trans hsz (Nat.le_trans (by simp) (Nat.le_trans HG1.out.size (by simp)))) ?_; intro v3 w3 hown3 hg3 hk3; obtain ⟨oz, nz, cz, rfl⟩ := own_slice hown3; have HO3 := Lib.hid hown3; have HG3 := Lib.hid hg3; have HK3 := Lib.hid hk3; have hoo := Lib.hid ((HO2.out.outer.up (below_alloc _ (.cells #[.int .i64 (f : Int)] 3))).keep hg3 (.inr (by simp [Value.ownBlock]))); have hcn5 := hoo.out.cell (i := vs.length) (by simp); have hfn5 := hoo.out.free vs.length; clear hown3 hg3 hk3))
          go_roundg (d.next.length + 1 - (f + 1))
          case measure => omega
          case rel =>
            have hst := (HO2.out.up (below_alloc _ (.cells #[.int .i64 (f : Int)] 3))).setRow (i := vs.length) (by rw [List.length_append, ← HO.out.len]; simp) HO3.out (by rw [getD_append_one]; exact HG3.out) (by rw [getD_append_one]; exact HK3.out)
            refine ⟨f + 1, (vs ++ [Value.slice none 0 0]).set vs.length (Value.slice oz nz cz), by omega, by go_num, ?_, ?_, rfl⟩
            · have h1 := hst.1
              rw [H1.out, List.map_append, List.map_cons, List.map_nil]
              have e : (((alikeUpto d f f).map fun l => ints (nl l)) ++ [[]]).set vs.length ([] ++ ints (nl [f])) = ((alikeUpto d f f).map fun l => ints (nl l)) ++ [ints (nl [f])] := by rw [HO.out.len, set_append_one]; rfl
              rw [e] at h1
              exact h1
            · have hb0 := below_grown (B := w1.heap.size) (HB.out.alloc hsz _) (by simp; omega) (HO.out.outer.up (below_alloc _ _)) HG1.out
              have hb1 := below_grown (B := w1.heap.size) (hb0.alloc hb0.size _) (by simp; have := hb0.size; omega) (Own.nil _ _ 3) HG3.out
              exact below_grown (B := w1.heap.size) hb1 hb1.size hoo.out hst.2
        · have hfk : firsts d (k + 1) = firsts d k := firsts_succ_no hnew
          rw [hfk] at hf hpk
          obtain ⟨a1, a2, a3⟩ := alike_old hf hef
          have hq := idxOf_lt hf
          have H1 := Lib.hid a1
          have H3 := Lib.hid a3
          clear a1 a2 a3 hfk hnew
          generalize idx (firsts d k) f = q at *
          subst hpk
          have hqv : q < vs.length := by rw [HVL.out]; exact hq
          have hne : ¬ ((q : Int) = (vs.length : Int)) := by omega
          have hog := hdg.hat (by omega)
          subst hog
          have hixg := index_any (P := Try.prog) 23 24 Try.underlying23 (by kernel_rfl) hdg
          have hcq := hcg q hqv
          have hfq := hfg q hqv
          have HRW := Lib.hid (HO.out.rows q (by rw [← HO.out.len]; exact hqv))
          have HOF := Lib.hid (HO.out.off q (by rw [← HO.out.len]; exact hqv))
          have e1 : ((alikeUpto d k k).map fun l => ints (nl l)).getD q [] = ints (nl (members d f k)) := by
            rw [← H3.out]
            simp only [List.getD_eq_getElem?_getD, List.getElem?_map]
            cases (alikeUpto d k k)[q]? <;> rfl
          rw [e1] at HRW
          clear e1
          have HML := Lib.hid (members_len d f k)
          generalize hr0 : vs.getD q undef = r0 at *
          have HR0 := Lib.hid hr0
          clear hcg hfg hr0 hf hef hq hdg
          go_wp2_with (at_builtin; (refine wpList_app rfl (.tmp 29) (.tmp 31) 24 rfl w1.heap.size 3 (.int .i64 0) 8 Try.underlying24 (by kernel_rfl) rfl (by decide) r0 (ints (nl (members d f k))) rfl (HRW.out.up (by repeat (first | exact Below.refl _ _ | assumption | refine b_drewN ?_ _ | refine Below.drew ?_ | refine b_ext' ?_ _ | refine b_alloc' ?_ _))) (.slice (some ⟨wr.heap.size, 0, none⟩) 1 1) (ints (nl [k])) rfl (by simpa [ints, nl] using sl_lit wr #[.int .i64 (k : Int)] 3 (by simp)) (ints_one _) (by have := HML.out; simp; omega) (Nat.le_trans hsz (by simp)) ?_; intro v' w2 hown1 hg1 hk1; obtain ⟨oz, nz, cz, rfl⟩ := own_slice hown1; have HO1 := Lib.hid hown1; have HG1 := Lib.hid hg1; have HK1 := Lib.hid hk1; have hoo := Lib.hid ((HO.out.outer.up (below_alloc _ (.cells #[.int .i64 (k : Int)] 3))).keep hg1 (ne_of_row fun k hk e => HOF.out k e hk)); have hcn5 := hoo.out.cell hqv; have hfn5 := hoo.out.free q; clear hown1 hg1 hk1))
          go_roundg (d.next.length + 1 - (k + 1))
          case measure => omega
          case rel =>
            have hst := (HO.out.up (below_alloc _ (.cells #[.int .i64 (k : Int)] 3))).setRow (i := q) (by rw [← HO.out.len]; exact hqv) HO1.out (by rw [HR0.out]; exact HG1.out) (by rw [HR0.out]; exact HK1.out)
            refine ⟨k + 1, vs.set q (Value.slice oz nz cz), by omega, by go_num, ?_, ?_, rfl⟩
            · have := hst.1
              rw [H1.out, List.map_set, nl_append, ints_append]
              exact this
            · have hb1 := below_grown (B := w1.heap.size) (HB.out.alloc hsz _) (by simp; omega) (HRW.out.up (below_alloc _ _)) HG1.out
              exact below_grown (B := w1.heap.size) hb1 hb1.size hoo.out hst.2
      · go_wp2
        go_ret
        refine ⟨_, rfl, ?_, HB0.out.trans (HB.out.mono HB0.out.size)⟩
        have hkn : k = d.next.length := by omega
        rw [HAI.out, ← hkn]
        exact RowsG.ints (by rw [map_ints_nl]; exact HO.out.rowsG)
  · have hrb := rightB_false hv
    have HRI := Lib.hid (alikeI_no hv)
    clear hv
    go_enter Try.func11, Try.ntmps11
    go_wp2_with (first | (refine load_dfa rfl _ rfl w.heap.size rfl A HS.out HG.out ?_) | (go_at_call 21; refine (HL.out _ (below_alloc _ _)).mono ?_; rintro e w' ⟨rfl, x, rfl⟩; rw [hrb]))
    go_ret
    refine ⟨_, rfl, ?_, (by repeat (first | exact Below.refl _ _ | assumption | refine b_drewN ?_ _ | refine Below.drew ?_ | refine b_ext' ?_ _ | refine b_alloc' ?_ _))⟩
    rw [HRI.out]
    exact ⟨[], Sl.nil _, rfl, fun i hi => absurd hi (Nat.not_lt_zero i)⟩
end Go.Cm
