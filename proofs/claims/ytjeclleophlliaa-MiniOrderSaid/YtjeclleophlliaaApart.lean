/- The walk of the document's table of states that are told apart. Conditions: the automaton is one. -/
import Derived.Test.YtjeclleophlliaaOwnM
import Derived.Test.YtjeclleophlliaaMiniE
import Derived.Test.YtjeclleophlliaaReachR
import Derived.Deep.LoopGhost
namespace Go.Cm
open Go.RowKit Go.Proofs

def boolsV (l : List Bool) : List Value := l.map Value.bool
theorem boolsV_length (l : List Bool) : (boolsV l).length = l.length := by simp [boolsV]
theorem boolsV_getD (l : List Bool) (j : Nat) (h : j < l.length) : (boolsV l).getD j undef = .bool (l.getD j false) := by simp [boolsV, List.getD, h]
theorem boolsV_set (l : List Bool) (j : Nat) (b : Bool) : (boolsV l).set j (.bool b) = boolsV (l.set j b) := by simp [boolsV, List.map_set]
theorem getD_map_bools (M : List (List Bool)) (i : Nat) : (M.map boolsV).getD i [] = boolsV (M.getD i []) := by
  simp only [List.getD_eq_getElem?_getD, List.getElem?_map]
  cases M[i]? <;> simp [boolsV]
theorem map_bools_set (M : List (List Bool)) (i j : Nat) : (M.map boolsV).set i (boolsV ((M.getD i []).set j true)) = (setM M i j).map boolsV := by simp [setM, List.map_set]

/-- a row of a table that the call owns -/
theorem OwnM.at {w : World} {B E E' n : Nat} {v : Value} {vs : List Value} {M : List (List Bool)} (h : OwnM w B E E' v vs (M.map boolsV)) (ht : Tab n M) {a : Nat} (ha : a < n) :
    ∃ oi ci gi, vs.getD a undef = .slice oi n ci ∧ Hd w oi n ci gi 0 ∧ (0 < n → (vs.getD a undef).ownBlock = some gi ∧ B ≤ gi) ∧ (∀ b, b < n → w.cell? ⟨gi, b, none⟩ = some (.bool (mrk M a b))) ∧ (∀ b, b < n → w.frozen? ⟨gi, b, none⟩ = false) ∧
      ∀ b, b < n → OwnM (w.setCell ⟨gi, b, none⟩ (.bool true)) B E E' v vs ((setM M a b).map boolsV) ∧ w.grownBy (w.setCell ⟨gi, b, none⟩ (.bool true)) (some gi) := by
  have hal : a < (M.map boolsV).length := by simp [ht.len, ha]
  have hr := h.rows a hal
  rw [getD_map_bools] at hr
  obtain ⟨oi, ci, gi, he, hd, hb, hc, hf, hs⟩ := hr.cases
  simp only [boolsV_length, ht.row a ha] at he hd hb hc hf hs
  refine ⟨oi, ci, gi, he, hd, hb, fun b hb' => ?_, hf, fun b hb' => ?_⟩
  · rw [hc b hb', boolsV_getD _ _ (by rw [ht.row a ha]; exact hb')]; rfl
  · obtain ⟨h1, h2⟩ := hs b (.bool true) hb'
    rw [boolsV_set] at h1
    have h3 := h.writeRow hal h1 (by rw [(hb (by omega)).1]; exact h2)
    rw [map_bools_set] at h3
    exact ⟨h3, h2⟩

theorem Own.some_ {w : World} {B E : Nat} {v : Value} {xs : List Value} (h : Own w B E v xs) (hx : 0 < xs.length) : ∃ g cap, v = .slice (some ⟨g, 0, none⟩) xs.length cap := by
  rcases h.1.2 with ⟨_, h0⟩ | ⟨g, cap, cur, rfl, _⟩
  · omega
  · exact ⟨g, cap, rfl⟩
theorem step_int {d : Dfa} (h : Valid d) {i : Nat} (hi : i < d.next.length) {c : Nat} (hc : c < kN d) : (d.next.getD i []).getD c 0 = ((stepN d i c : Nat) : Int) := by
  have hl := row_len h hi
  obtain ⟨h1, h2, h3, k, hk, hr⟩ := h
  have h0 := (hr i hi).2.2.2 c (by omega)
  have e : stepN d i c = ((d.next.getD i []).getD c 0).toNat := by
    unfold stepN; exact rowN_getD d i c (by omega)
  rw [e]; omega

/-- a pass over the table: 'done' tells which places it has been at -/
structure Pass (d : Dfa) (c0 : Nat) (M : List (List Bool)) (ag : Bool) (done : Nat → Nat → Nat → Prop) : Prop where
  marks : Marks d M
  le : open_ M ≤ c0
  lt : ag = true → open_ M < c0
  closed : ag = false → ∀ i j c, i < d.next.length → j < d.next.length → c < kN d → done i j c → ClosedAt d M i j c
theorem Pass.mono {d : Dfa} {c0 : Nat} {M : List (List Bool)} {ag : Bool} {p q : Nat → Nat → Nat → Prop} (h : Pass d c0 M ag p) (hq : ∀ i j c, i < d.next.length → j < d.next.length → c < kN d → q i j c → p i j c) : Pass d c0 M ag q :=
  ⟨h.marks, h.le, h.lt, fun e i j c hi hj hc hh => h.closed e i j c hi hj hc (hq i j c hi hj hc hh)⟩
theorem Pass.skip {d : Dfa} {c0 : Nat} {M : List (List Bool)} {ag : Bool} {p : Nat → Nat → Nat → Prop} {i j c : Nat} (h : Pass d c0 M ag p) (hcl : ClosedAt d M i j c) : Pass d c0 M ag (fun a b e => p a b e ∨ (a = i ∧ b = j ∧ e = c)) :=
  ⟨h.marks, h.le, h.lt, fun e a b f ha hb hf hh => by
    rcases hh with hh | ⟨rfl, rfl, rfl⟩
    · exact h.closed e a b f ha hb hf hh
    · exact hcl⟩
theorem Pass.mark {d : Dfa} {c0 : Nat} {M : List (List Bool)} {ag : Bool} {p q : Nat → Nat → Nat → Prop} {i j c : Nat} (h : Pass d c0 M ag p) (hv : Valid d) (hi : i < d.next.length) (hj : j < d.next.length) (hc : c < kN d) (h1 : mrk M i j = false) (h2 : mrk M (stepN d i c) (stepN d j c) = true) : Pass d c0 (setM M i j) true q := by
  have h3 := open_setM h.marks.tab hi hj h1
  have h4 := h.le
  exact ⟨h.marks.set hi hj hc hv h2, by omega, fun _ => by omega, fun e => by cases e⟩

/-- the call hands back a table of bools -/
def RetTab (d : Dfa) (w : World) (e : Ending) (w' : World) : Prop := ∃ r M, e = .returned r ∧ RowsG w' r (M.map boolsV) ∧ ApartOk d M ∧ Below w.heap.size w w'

set_option maxRecDepth 100000 in
set_option maxHeartbeats 4000000 in
theorem apart (v : Value) (d : Dfa) (w : World) (h : DfaAt w v d) (hv : Valid d) : Calls Try.prog 24 #[v] w (RetTab d w) := by
  obtain ⟨A, rfl, hs, hl, hc, ⟨vn, hn, hrow⟩, ⟨vr, hr, hru⟩⟩ := h
  obtain ⟨oa, cap, b, off, rfl, hd, hro⟩ := hrow.open
  obtain ⟨oq, capq, bq, offq, rfl, hdq, hrq⟩ := hru.open
  have hix := index_any (P := Try.prog) 23 24 Try.underlying23 (by kernel_rfl) hd
  have hixq := index_any (P := Try.prog) 24 3 Try.underlying24 (by kernel_rfl) hdq
  have hm := hd.len
  clear hs hc
  have HR := Lib.hid hro; clear hro
  have HQ := Lib.hid hrq; clear hrq
  have HLC := Lib.hid hl; clear hl
  have hn1 := hv.1
  have hn2 := hv.2.1
  have hrl := hv.2.2.1
  have HV := Lib.hid hv; clear hv
  have hb := hd.hblk (by omega)
  have hbq := hdq.hblk (by omega)
  have HRL := Lib.hid hrl
  have hrlt : ∀ i, i < d.next.length → i < d.rules.length := fun i hi => by omega
  have HRLT := Lib.hid hrlt; clear hrlt hrl
  have hmk := run_mk (P := Try.prog) 47 4 (.bool false) 1 d.next.length Try.underlying47 (by kernel_rfl) rfl (by decide) (by omega)
  obtain ⟨Mb, hM⟩ : ∃ M, M = madeCells #[Value.bool false] d.next.length := ⟨_, rfl⟩
  rw [← hM] at hmk
  have HM : Hid (Mb.toList = List.replicate d.next.length (.bool false)) := Lib.hid (by rw [hM, toList_madeCells_one])
  have HMS : Hid (Mb.size = d.next.length) := Lib.hid (by rw [hM, size_madeCells])
  clear hM
  go_enter Try.func24, Try.ntmps24
  go_wp2
  go_loopg [4, 5] (d.next.length + 1) (fun gk vo i wr => ∃ (k : Nat) (vs : List Value) (M : List (List Bool)), k ≤ d.next.length ∧ i = .int .i64 k ∧ OwnM wr (w.heap.size + 1) 47 4 vo vs (M.map boolsV) ∧ Hid (M.length = k) ∧ Hid (∀ a, a < k → (M.getD a []).length = d.next.length ∧ ∀ b, b < d.next.length → mrk M a b = (d.rules.getD a 0 != d.rules.getD b 0)) ∧ Below (w.heap.size + 1) (w.alloc (.cells A 26)) wr ∧ gk = d.next.length + 1 - k)
  case atStart => exact ⟨0, [], [], Nat.zero_le _, rfl, OwnM.nil _ _ _ _, Lib.hid rfl, Lib.hid (fun a ha => absurd ha (Nat.not_lt_zero a)), Below.refl _ _, rfl⟩
  case round =>
    obtain ⟨k, vs, M, hk, rfl, hom, HML, HMR, hbel, rfl⟩ := hrel
    have hsz : w.heap.size + 1 ≤ wr.heap.size := by have := hbel.size; simpa using this
    have HB := Lib.hid hbel; clear hbel
    have HO := Lib.hid hom; clear hom
    by_cases hlt : k < d.next.length
    · have HO1 : Hid (Own (wr.alloc (.cells Mb 4)) (w.heap.size + 1) 4 (.slice (some ⟨wr.heap.size, 0, none⟩) d.next.length d.next.length) (boolsV (List.replicate d.next.length false))) := Lib.hid (by
        have h1 := own_lit wr (w.heap.size + 1) Mb 4 (by rw [HMS.out]; omega) hsz
        rw [HM.out, HMS.out] at h1
        simpa [boolsV] using h1)
      have HB1 : Hid (Below (w.heap.size + 1) (w.alloc (.cells A 26)) (wr.alloc (.cells Mb 4))) := Lib.hid (HB.out.alloc hsz _)
      go_wp2
      obtain ⟨wo, rfl⟩ : ∃ wo : World, wo = wr := ⟨_, rfl⟩
      go_loopg [7] (d.next.length + 1) (fun gk i wr => ∃ (j : Nat) (r : List Bool), j ≤ d.next.length ∧ i = .int .i64 j ∧ Own wr (w.heap.size + 1) 4 (.slice (some ⟨wo.heap.size, 0, none⟩) d.next.length d.next.length) (boolsV r) ∧ Hid (r.length = d.next.length) ∧ Hid (∀ b, b < j → r.getD b false = (d.rules.getD k 0 != d.rules.getD b 0)) ∧ wo.grownBy wr (some wo.heap.size) ∧ Below (w.heap.size + 1) (w.alloc (.cells A 26)) wr ∧ gk = d.next.length + 1 - j)
      case atStart => exact ⟨0, _, Nat.zero_le _, rfl, HO1.out, Lib.hid (by simp), Lib.hid (fun b hb => absurd hb (Nat.not_lt_zero b)), grown_below (below_alloc _ _) _, HB1.out, rfl⟩
      case round =>
        clear HO1 HB1
        obtain ⟨j, r, hj, rfl, how, HRl, HRv, hgr, hbel, rfl⟩ := hrel
        have hsz2 : wo.heap.size + 1 ≤ wr.heap.size := by have := how.blk; omega
        have HBB := Lib.hid hbel; clear hbel
        have HOO := Lib.hid how; clear how
        have HGR := Lib.hid hgr; clear hgr
        by_cases hltj : j < d.next.length
        · have hq1 := HQ.out k (HRLT.out k hlt)
          have hq2 := HQ.out j (HRLT.out j hltj)
          have hlr1 := HRLT.out k hlt
          have hlr2 := HRLT.out j hltj
          have hbq2 : bq < wr.heap.size := by omega
          have hc1 : wr.cell? ⟨bq, offq + k, none⟩ = _ := (HBB.out.cell (p := ⟨bq, offq + k, none⟩) (Nat.lt_succ_of_lt hbq)).trans ((World.cell?_alloc_past _ _ _ hbq).trans hq1)
          have hc2 : wr.cell? ⟨bq, offq + j, none⟩ = _ := (HBB.out.cell (p := ⟨bq, offq + j, none⟩) (Nat.lt_succ_of_lt hbq)).trans ((World.cell?_alloc_past _ _ _ hbq).trans hq2)
          have hc3 : wr.cell? ⟨w.heap.size, 257, none⟩ = some (.slice oq d.rules.length capq) := by
            rw [HBB.out.cell (p := ⟨w.heap.size, 257, none⟩) (Nat.lt_succ_self _), World.cell?_alloc_new]; exact hr
          have hc4 : wr.cell? ⟨wo.heap.size, j, none⟩ = some (.bool (r.getD j false)) := by
            rw [HOO.out.cell (by rw [boolsV_length, HRl.out]; exact hltj), boolsV_getD r j (by rw [HRl.out]; exact hltj)]
          have hf4 : wr.frozen? ⟨wo.heap.size, j, none⟩ = false := HOO.out.free j
          have hne1 : some bq ≠ some wo.heap.size := fun e => by injection e with e; omega
          have hne2 : some w.heap.size ≠ some wo.heap.size := fun e => by injection e with e; omega
          have hs0 : w.heap.size < wr.heap.size := by omega
          have HST := Lib.hid (HOO.out.store j (.bool (d.rules.getD k 0 != d.rules.getD j 0)))
          rw [boolsV_set] at HST
          have HNV : Hid (∀ b, b < j + 1 → (r.set j (d.rules.getD k 0 != d.rules.getD j 0)).getD b false = (d.rules.getD k 0 != d.rules.getD b 0)) := Lib.hid (fun b hb => by
            rw [getD_set_gen]
            rcases Nat.lt_succ_iff_lt_or_eq.1 hb with h1 | rfl
            · rw [if_neg (by omega)]; exact HRv.out b h1
            · rw [if_pos ⟨rfl, by rw [HRl.out]; exact hltj⟩])
          generalize r.getD j false = r0 at *
          generalize d.rules.getD k 0 = y1 at *
          generalize d.rules.getD j 0 = y2 at *
          clear hq1 hq2
          go_wp2
          refine wp_region_row (some wo.heap.size) [0,1,2,3,4,5,6,7,8,9,10,11,12,13] [14] (by kernel_rfl) (by kernel_rfl) ?_
          simp only [pick, List.map_cons, List.map_nil, List.getD_cons_zero, List.getD_cons_succ]
          repeat (go_big_quiet_step (fail))
          refine wpQuiet_nil ?_
          unfold wpAct
          go_wp2
          refine ⟨ex_chg (grown_trans HST.out.2 (grown_drew _ _)), ?_⟩
          unfold wpAct
          intro hz; clear hz
          go_wp2
          go_roundg (d.next.length + 1 - (j + 1))
          case measure => omega
          case rel => exact ⟨j + 1, _, by omega, by go_num, HST.out.1.up (below_drewN _ 1), Lib.hid (by simp [HRl.out]), Lib.hid HNV.out, grown_trans HGR.out (grown_trans HST.out.2 (grown_drew _ _)), b_drew1 (HBB.out.setCell (by show w.heap.size + 1 ≤ wo.heap.size; omega) _), rfl⟩
        · have HSP : Hid (OwnM (wr.alloc (.cells #[.slice (some ⟨wo.heap.size, 0, none⟩) d.next.length d.next.length] 47)) (w.heap.size + 1) 47 4 u4 vs (M.map boolsV)) := Lib.hid ((HO.out.keep' HGR.out (HO.out.free_new (Nat.le_refl _))).up (below_alloc _ _))
          go_wp2_with (at_builtin; refine wpList_app rfl (.tmp 41) (.tmp 43) 45 rfl (w.heap.size + 1) 47 (.slice none 0 0) 24 Try.underlying45 (by kernel_rfl) rfl (by decide) u4 vs rfl HSP.out.outer (.slice (some ⟨wr.heap.size, 0, none⟩) 1 1) [.slice (some ⟨wo.heap.size, 0, none⟩) d.next.length d.next.length] rfl (sl_lit wr #[_] 47 (by simp)) (by simp [Value.oneCell']) (by have := HSP.out.len; simp only [List.length_map, HML.out] at this; simp; omega) (by simp; omega) ?_; intro v' w2 hown1 hg1 hk1; have HO1 := Lib.hid hown1; have HG1 := Lib.hid hg1; have HK1 := Lib.hid hk1; clear hown1 hg1 hk1)
          go_roundg (d.next.length + 1 - (k + 1))
          case measure => omega
          case rel =>
            have hrr : Own (wr.alloc (.cells #[.slice (some ⟨wo.heap.size, 0, none⟩) d.next.length d.next.length] 47)) (w.heap.size + 1) 4 (.slice (some ⟨wo.heap.size, 0, none⟩) d.next.length d.next.length) (boolsV r) := HOO.out.up (below_alloc _ _)
            have hfr : OwnM.free u4 vs (Value.slice (some ⟨wo.heap.size, 0, none⟩) d.next.length d.next.length).ownBlock := HO.out.free_new (Nat.le_refl _)
            have hp := HSP.out.push hrr hfr (grown_refl _ none) HO1.out HG1.out HK1.out
            refine ⟨k + 1, _, M ++ [r], by omega, by go_num, by simpa using hp, Lib.hid (by simp [HML.out]), Lib.hid (fun a ha => ?_), below_grown (B := w.heap.size + 1) (HBB.out.alloc (by omega) _) (by simp; omega) HSP.out.outer HG1.out, rfl⟩
            rcases Nat.lt_succ_iff_lt_or_eq.1 ha with h1 | rfl
            · unfold mrk; rw [getD_append_left' (by rw [HML.out]; exact h1)]; exact HMR.out a h1
            · have hx : (M ++ [r]).getD a [] = r := by conv => { lhs; rw [← HML.out] }; exact getD_append_one
              unfold mrk; rw [hx]
              exact ⟨HRl.out, fun b hb => HRv.out b (by omega)⟩
    · have hMk : Marks d M := by
        have hkn : k = d.next.length := by omega
        refine ⟨⟨by rw [HML.out, hkn], fun i hi => (HMR.out i (by omega)).1⟩, fun i j hi hj h => ?_, fun i j hi hj h => ?_⟩
        · rw [(HMR.out i (by omega)).2 j hj] at h
          intro e
          have := e.rules
          simp [ruleN] at this
          simp [this] at h
        · rw [(HMR.out i (by omega)).2 j hj]
          simpa [ruleN] using h
      have HMK := Lib.hid hMk; clear hMk
      obtain ⟨g, capv, rfl⟩ := HO.out.outer.some_ (by have := HO.out.len; simp only [List.length_map, HML.out] at this; omega)
      have hvl : vs.length = d.next.length := by have := HO.out.len; simp only [List.length_map, HML.out] at this; omega
      rw [hvl] at HO ⊢
      have hixv := index_any (P := Try.prog) 45 47 Try.underlying45 (by kernel_rfl) (show Hd wr (some ⟨g, 0, none⟩) d.next.length capv g 0 from by
        obtain ⟨oo, oc, go, he, hdo, hgo, -⟩ := HO.out.outer.cases
        simp only [Value.slice.injEq] at he
        obtain ⟨h1, h2, h3⟩ := he
        have h4 := hgo (by omega)
        simp [Value.ownBlock] at h4
        rw [← h1, ← h2, ← h3, ← h4.1] at hdo
        exact hdo)
      go_wp2
      go_loopg [8] (open_ M + 1) (fun gk b8 wr => ∃ (M : List (List Bool)) (ag : Bool), b8 = .bool ag ∧ OwnM wr (w.heap.size + 1) 47 4 (.slice (some ⟨g, 0, none⟩) d.next.length capv) vs (M.map boolsV) ∧ Hid (Marks d M) ∧ Hid (ag = false → ∀ i j c, i < d.next.length → j < d.next.length → c < kN d → ClosedAt d M i j c) ∧ Below (w.heap.size + 1) (w.alloc (.cells A 26)) wr ∧ Hid (gk = if ag then open_ M + 1 else 0))
      case atStart => exact ⟨M, true, rfl, HO.out, HMK, Lib.hid (fun h => by cases h), HB.out, Lib.hid rfl⟩
      case round =>
        clear HO HB HMK HMR HML M hk hlt hsz
        obtain ⟨M, ag, rfl, hom, HMK, HCL, hbel, HGK⟩ := hrel
        have HO := Lib.hid hom; clear hom
        have HB := Lib.hid hbel; clear hbel
        cases ag with
        | false =>
          go_wp2
          go_ret
          exact ⟨_, M, rfl, HO.out.rowsG, HMK.out.done HV.out (HCL.out (by simp)), (below_alloc w _).trans (HB.out.mono (by omega))⟩
        | true =>
          have HG1 : Hid (gk = open_ M + 1) := Lib.hid HGK.out
          clear HGK HCL
          have HP0 : Hid (Pass d (open_ M) M false (fun i _ _ => i < 0)) := Lib.hid ⟨HMK.out, Nat.le_refl _, fun h => (by cases h), fun _ i j c _ _ _ h => absurd h (Nat.not_lt_zero i)⟩
          generalize open_ M = c0 at *
          go_wp2
          go_loopg [8, 9] (d.next.length + 1) (fun gk b8 i wr => ∃ (k : Nat) (M : List (List Bool)) (ag : Bool), k ≤ d.next.length ∧ i = .int .i64 k ∧ b8 = .bool ag ∧ OwnM wr (w.heap.size + 1) 47 4 (.slice (some ⟨g, 0, none⟩) d.next.length capv) vs (M.map boolsV) ∧ Hid (Pass d c0 M ag (fun i _ _ => i < k)) ∧ Below (w.heap.size + 1) (w.alloc (.cells A 26)) wr ∧ gk = d.next.length + 1 - k)
          case atStart => exact ⟨0, M, false, Nat.zero_le _, rfl, rfl, HO.out, HP0, HB.out, rfl⟩
          case round =>
            clear HO HB HMK HP0 M
            rename_i gk0 _
            obtain ⟨k, M, ag, hk, rfl, rfl, hom, HP, hbel, rfl⟩ := hrel
            have HO := Lib.hid hom; clear hom
            have HB := Lib.hid hbel; clear hbel
            by_cases hlt : k < d.next.length
            · have HP0 : Hid (Pass d c0 M ag (fun i j _ => i < k ∨ (i = k ∧ j < 0))) := Lib.hid (HP.out.mono fun i j c _ _ _ h => h.elim id (fun h => absurd h.2 (Nat.not_lt_zero _)))
              clear HP
              go_wp2
              go_loopg [8, 10] (d.next.length + 1) (fun gk b8 i wr => ∃ (l : Nat) (M : List (List Bool)) (ag : Bool), l ≤ d.next.length ∧ i = .int .i64 l ∧ b8 = .bool ag ∧ OwnM wr (w.heap.size + 1) 47 4 (.slice (some ⟨g, 0, none⟩) d.next.length capv) vs (M.map boolsV) ∧ Hid (Pass d c0 M ag (fun i j _ => i < k ∨ (i = k ∧ j < l))) ∧ Below (w.heap.size + 1) (w.alloc (.cells A 26)) wr ∧ gk = d.next.length + 1 - l)
              case atStart => exact ⟨0, M, ag, Nat.zero_le _, rfl, rfl, HO.out, HP0, HB.out, rfl⟩
              case round =>
                clear HO HB HP0 M ag
                obtain ⟨l, M, ag, hl, rfl, rfl, hom, HP, hbel, rfl⟩ := hrel
                have HO := Lib.hid hom; clear hom
                have HB := Lib.hid hbel; clear hbel
                by_cases hltl : l < d.next.length
                · have HP0 : Hid (Pass d c0 M ag (fun i j c => (i < k ∨ (i = k ∧ j < l)) ∨ (i = k ∧ j = l ∧ c < 0))) := Lib.hid (HP.out.mono fun i j c _ _ _ h => h.elim id (fun h => absurd h.2.2 (Nat.not_lt_zero _)))
                  clear HP
                  obtain ⟨oi, ci, bi, fi, hck, hdk, hcj, -⟩ := HR.out k hlt
                  obtain ⟨ol, cl, bl, fl, hcl, hdl, hcjl, -⟩ := HR.out l hltl
                  have hrk := row_len HV.out hlt
                  have hrl := row_len HV.out hltl
                  have HI1 := Lib.hid (fun c hc => step_int HV.out hlt (c := c) hc)
                  have HI2 := Lib.hid (fun c hc => step_int HV.out hltl (c := c) hc)
                  rw [hrk] at hck hdk hcj
                  rw [hrl] at hcl hdl hcjl
                  clear hrk hrl
                  have hixk := index_any (P := Try.prog) 24 3 Try.underlying24 (by kernel_rfl) hdk
                  have hixl := index_any (P := Try.prog) 24 3 Try.underlying24 (by kernel_rfl) hdl
                  have hkn := hdk.hsml
                  have hbi := hdk.hblk
                  have hbl := hdl.hblk
                  have HCJ := Lib.hid hcj; clear hcj
                  have HCJL := Lib.hid hcjl; clear hcjl
                  have HCK := Lib.hid hck; clear hck
                  have HCLL := Lib.hid hcl; clear hcl
                  clear hdk hdl
                  go_wp2
                  go_loopg [8, 11] (kN d + 1) (fun gk b8 i wr => ∃ (c : Nat) (M : List (List Bool)) (ag : Bool), c ≤ kN d ∧ i = .int .i64 c ∧ b8 = .bool ag ∧ OwnM wr (w.heap.size + 1) 47 4 (.slice (some ⟨g, 0, none⟩) d.next.length capv) vs (M.map boolsV) ∧ Hid (Pass d c0 M ag (fun i j e => (i < k ∨ (i = k ∧ j < l)) ∨ (i = k ∧ j = l ∧ e < c))) ∧ Below (w.heap.size + 1) (w.alloc (.cells A 26)) wr ∧ gk = kN d + 1 - c)
                  case atStart => exact ⟨0, M, ag, Nat.zero_le _, rfl, rfl, HO.out, HP0, HB.out, rfl⟩
                  case round =>
                    clear HO HB HP0 M ag
                    obtain ⟨c, M, ag, hc, rfl, rfl, hom, HP, hbel, rfl⟩ := hrel
                    have hsz : w.heap.size + 1 ≤ wr.heap.size := by have := hbel.size; simpa using this
                    have hgb := hom.outer.blk
                    have HO := Lib.hid hom; clear hom
                    have HB := Lib.hid hbel; clear hbel
                    have hcw1 : wr.cell? ⟨b, off + k, none⟩ = _ := (HB.out.cell (p := ⟨b, off + k, none⟩) (Nat.lt_succ_of_lt hb)).trans ((World.cell?_alloc_past _ _ _ hb).trans HCK.out)
                    have hcw2 : wr.cell? ⟨b, off + l, none⟩ = _ := (HB.out.cell (p := ⟨b, off + l, none⟩) (Nat.lt_succ_of_lt hb)).trans ((World.cell?_alloc_past _ _ _ hb).trans HCLL.out)
                    have hcw3 : wr.cell? ⟨w.heap.size, 256, none⟩ = some (.slice oa d.next.length cap) := by
                      rw [HB.out.cell (p := ⟨w.heap.size, 256, none⟩) (Nat.lt_succ_self _), World.cell?_alloc_new]; exact hn
                    by_cases hltc : c < kN d
                    · have hbi' := hbi (by omega)
                      have hbl' := hbl (by omega)
                      have hcw4 : wr.cell? ⟨bi, fi + c, none⟩ = some (.int .i64 ((stepN d k c : Nat) : Int)) := by
                        rw [HB.out.cell (p := ⟨bi, fi + c, none⟩) (Nat.lt_succ_of_lt hbi'), World.cell?_alloc_past _ _ _ hbi', HCJ.out c hltc, HI1.out c hltc]
                      have hcw5 : wr.cell? ⟨bl, fl + c, none⟩ = some (.int .i64 ((stepN d l c : Nat) : Int)) := by
                        rw [HB.out.cell (p := ⟨bl, fl + c, none⟩) (Nat.lt_succ_of_lt hbl'), World.cell?_alloc_past _ _ _ hbl', HCJL.out c hltc, HI2.out c hltc]
                      have hp1 := step_lt HV.out hlt hltc
                      have hp2 := step_lt HV.out hltl hltc
                      have HT := Lib.hid HP.out.marks.tab
                      obtain ⟨o1, c1, g1, hr1, hd1, hg1, hx1, hf1, hs1⟩ := HO.out.at HT.out hlt
                      obtain ⟨o2, c2, g2, hr2, hd2, hg2, hx2, hf2, hs2⟩ := HO.out.at HT.out hp1
                      have hv1 : wr.cell? ⟨g, k, none⟩ = some (.slice o1 d.next.length c1) := by rw [HO.out.outer.cell (by omega), hr1]
                      have hv2 : wr.cell? ⟨g, stepN d k c, none⟩ = some (.slice o2 d.next.length c2) := by rw [HO.out.outer.cell (by omega), hr2]
                      have hm1 := hx1 l hltl
                      have hm2 := hx2 _ hp2
                      have hfz := hf1 l hltl
                      have HST := Lib.hid (hs1 l hltl)
                      have hi1 := index_any (P := Try.prog) 47 4 Try.underlying47 (by kernel_rfl) hd1
                      have hi2 := index_any (P := Try.prog) 47 4 Try.underlying47 (by kernel_rfl) hd2
                      have hgl1 := hd1.hblk (by omega)
                      have HG1 := Lib.hid (hg1 (by omega)).2
                      clear hx1 hx2 hf1 hf2 hs1 hs2 hr1 hr2 hg1 hg2 hd1 hd2
                      have HCL : Hid (mrk M k l = true ∨ mrk M (stepN d k c) (stepN d l c) = false → ClosedAt d M k l c) := Lib.hid (fun h hh => h.elim id (fun h => by rw [h] at hh; cases hh))
                      have HMARK : Hid (mrk M k l = false → mrk M (stepN d k c) (stepN d l c) = true → Pass d c0 (setM M k l) true (fun i j e => (i < k ∨ (i = k ∧ j < l)) ∨ (i = k ∧ j = l ∧ e < c + 1))) := Lib.hid (fun h1 h2 => HP.out.mark HV.out hlt hltl hltc h1 h2)
                      have HSKIP : Hid (ClosedAt d M k l c → Pass d c0 M ag (fun i j e => (i < k ∨ (i = k ∧ j < l)) ∨ (i = k ∧ j = l ∧ e < c + 1))) := Lib.hid (fun h => (HP.out.skip h).mono fun i j e _ _ _ hh => by
                        rcases hh with hh | ⟨h1, h2, h3⟩
                        · exact .inl (.inl hh)
                        · rcases Nat.lt_succ_iff_lt_or_eq.1 h3 with h4 | h4
                          · exact .inl (.inr ⟨h1, h2, h4⟩)
                          · exact .inr ⟨h1, h2, h4⟩)
                      generalize mrk M k l = b1 at *
                      generalize mrk M (stepN d k c) (stepN d l c) = b2 at *
                      generalize stepN d k c = p1 at *
                      generalize stepN d l c = p2 at *
                      cases b1 with
                      | true =>
                        go_wp2
                        go_quiet (fail)
                        go_wp2
                        go_roundg (kN d + 1 - (c + 1))
                        case measure => omega
                        case rel => exact ⟨c + 1, M, ag, by omega, by go_num, rfl, HO.out.up (below_drewN _ _), Lib.hid (HSKIP.out (HCL.out (.inl (by simp)))), b_drewN HB.out _, rfl⟩
                      | false =>
                        cases b2 with
                        | false =>
                          go_wp2
                          go_quiet (fail)
                          go_wp2
                          go_roundg (kN d + 1 - (c + 1))
                          case measure => omega
                          case rel => exact ⟨c + 1, M, ag, by omega, by go_num, rfl, HO.out.up (below_drewN _ _), Lib.hid (HSKIP.out (HCL.out (.inr (by simp)))), b_drewN HB.out _, rfl⟩
                        | true =>
                          go_wp2
                          go_quiet (fail)
                          go_wp2
                          go_roundg (kN d + 1 - (c + 1))
                          case measure => omega
                          case rel =>
                            have e : (wr.drewN nq).setCell ⟨g1, l, none⟩ (.bool true) = (wr.setCell ⟨g1, l, none⟩ (.bool true)).drewN nq := rfl
                            rw [e]
                            exact ⟨c + 1, setM M k l, true, by omega, by go_num, rfl, HST.out.1.up (below_drewN _ _), Lib.hid (HMARK.out (by simp) (by simp)), b_drewN (HB.out.setCell HG1.out _) _, rfl⟩
                    · go_wp2
                      go_roundg (d.next.length + 1 - (l + 1))
                      case measure => omega
                      case rel => exact ⟨l + 1, M, ag, by omega, by go_num, rfl, HO.out, Lib.hid (HP.out.mono fun i j e _ _ he hh => by omega), HB.out, rfl⟩
                · go_wp2
                  go_roundg (d.next.length + 1 - (k + 1))
                  case measure => omega
                  case rel => exact ⟨k + 1, M, ag, by omega, by go_num, rfl, HO.out, Lib.hid (HP.out.mono fun i j e _ hj _ hh => by omega), HB.out, rfl⟩
            · go_wp2
              go_roundg (if ag then open_ M + 1 else 0)
              case measure =>
                have h1 := HG1.out
                have h2 := HP.out.lt
                cases ag with
                | false => simp; omega
                | true => have := h2 rfl; simp; omega
              case rel => exact ⟨M, ag, rfl, HO.out, Lib.hid HP.out.marks, Lib.hid (fun e i j c hi hj hc => HP.out.closed e i j c hi hj hc (by omega)), HB.out, Lib.hid rfl⟩
end Go.Cm
