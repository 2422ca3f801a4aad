/- The walk of the document's Alike. Conditions: the argument reads as an automaton. -/
import Derived.Test.YtjeclleophlliaaApart
namespace Go.Cm
open Go.RowKit Go.Proofs

def RetRows (ll : List (List Int)) (w : World) (e : Ending) (w' : World) : Prop := ∃ r, e = .returned r ∧ RowsAt w' r ll ∧ Below w.heap.size w w'
theorem map_ints_nl (ll : List (List Nat)) : (ll.map nl).map ints = ll.map fun l => ints (nl l) := by simp

theorem own_oneCell {w : World} {B E : Nat} {v : Value} {xs : List Value} (h : Own w B E v xs) : v.oneCell' = true := by
  rcases h.1.2 with ⟨rfl, _⟩ | ⟨g, cap, cur, rfl, _⟩ <;> rfl
theorem b_alloc2 {B : Nat} {w v : World} {o : Obj} (h : Below B w v) (hB : B ≤ v.heap.size) : Below B w (v.alloc o) := h.alloc hB o

set_option maxRecDepth 100000 in
set_option maxHeartbeats 4000000 in
theorem alikeR (v : Value) (d : Dfa) (w : World) (h : DfaAt w v d) : Calls Try.prog 12 #[v] w (RetRows (alikeI d) w) := by
  have hL := fun w' (hb : Below w.heap.size w w') => rightR v d w' (h.up hb)
  have hAp := fun w' (hb : Below w.heap.size w w') hv => apart v d w' (h.up hb) hv
  obtain ⟨A, rfl, hs, hl, hc, -, -⟩ := h
  have HL := Lib.hid hL; clear hL
  have HAP := Lib.hid hAp; clear hAp
  have HS := Lib.hid hs; clear hs hc hl
  have HG := Lib.hid (heap_alloc_new w (.cells A 26))
  by_cases hv : Valid d
  · have hrb := rightB_true hv
    have HAI := Lib.hid (alikeI_yes hv)
    have hn1 := hv.1
    have hn2 := hv.2.1
    have HV := Lib.hid hv; clear hv
    go_enter Try.func12, Try.ntmps12
    go_wp2_with (first | (refine load_dfa rfl _ rfl w.heap.size rfl A HS.out HG.out ?_) | (refine load_dfa rfl _ rfl w.heap.size rfl A HS.out ((heap_ext _ _ _ (by simp)).trans HG.out) ?_) | (go_at_call 17; refine (HL.out _ (below_alloc _ _)).mono ?_; rintro e w' ⟨rfl, x, rfl⟩; rw [hrb]) | (go_at_call 24; refine (HAP.out _ (by repeat (first | exact Below.refl _ _ | assumption | refine b_drewN ?_ _ | refine Below.drew ?_ | refine b_ext' ?_ _ | refine b_alloc' ?_ _)) HV.out).mono ?_; rintro e w1 ⟨va, M, rfl, hva, hok, hb1⟩; have HB1 := Lib.hid hb1; have HVA := Lib.hid hva; have HOK := Lib.hid hok; clear hb1 hva hok))
    have hb0 : Below w.heap.size w w1 := (b_ext' (below_alloc w _) _).trans (HB1.out.mono (by have := size_ext (w.alloc (.cells A 26)) x; simp at this; omega))
    have HB0 := Lib.hid hb0; clear hb0 HB1
    obtain ⟨oa, cap, b, off, rfl, hd, hro⟩ := HVA.out.open
    have hml : (M.map boolsV).length = d.next.length := by simp [HOK.out.1.len]
    rw [hml] at hd hro ⊢
    have hix := index_any (P := Try.prog) 45 47 Try.underlying45 (by kernel_rfl) hd
    have hb := hd.hblk (by omega)
    have HR := Lib.hid hro; clear hro hml HVA hd
    go_loopg [4, 5] (d.next.length + 1) (fun gk vo i wr => ∃ (k : Nat) (vs : List Value), k ≤ d.next.length ∧ i = .int .i64 k ∧ OwnM wr w1.heap.size 24 3 vo vs ((alikeUpto d k d.next.length).map fun l => ints (nl l)) ∧ Below w1.heap.size w1 wr ∧ gk = d.next.length + 1 - k)
    case atStart => exact ⟨0, [], Nat.zero_le _, rfl, OwnM.nil _ _ _ _, Below.refl _ _, rfl⟩
    case round =>
      obtain ⟨k, vs, hk, rfl, hom, hbel, rfl⟩ := hrel
      have hsz : w1.heap.size ≤ wr.heap.size := hbel.size
      have HB := Lib.hid hbel; clear hbel
      have HO := Lib.hid hom; clear hom
      by_cases hlt : k < d.next.length
      · go_wp2
        obtain ⟨wo, rfl⟩ : ∃ wo : World, wo = wr := ⟨_, rfl⟩
        have HBW := HB
        go_loopg [6, 7, 8] (d.next.length + 1) (fun gk b6 vl i wr => ∃ (j : Nat) (fb : Bool), j ≤ d.next.length ∧ i = .int .i64 j ∧ b6 = .bool fb ∧ Hid (fb = true ↔ ∀ q, q < j → Eqv d k q → k ≤ q) ∧ Own wr wo.heap.size 3 vl (ints (nl (members d k j))) ∧ Below wo.heap.size wo wr ∧ gk = d.next.length + 1 - j)
        case atStart => exact ⟨0, true, Nat.zero_le _, rfl, rfl, Lib.hid ⟨fun _ q hq => absurd hq (Nat.not_lt_zero q), fun _ => rfl⟩, Own.nil _ _ _, Below.refl _ _, rfl⟩
        case round =>
          obtain ⟨j, fb, hj, rfl, rfl, HF, how, hbel, rfl⟩ := hrel
          have hsz2 := hbel.size
          have HBB := Lib.hid hbel; clear hbel
          have HOO := Lib.hid how; clear how
          by_cases hltj : j < d.next.length
          · have hbm : ∀ q, q < w1.heap.size → ∀ o, wr.cell? ⟨q, o, none⟩ = w1.cell? ⟨q, o, none⟩ := fun q hq o => by
              rw [HBB.out.cell (p := ⟨q, o, none⟩) (Nat.lt_of_lt_of_le hq hsz), HBW.out.cell (p := ⟨q, o, none⟩) hq]
            obtain ⟨oi, ci, bi, fi, hck, hdk, hcj, -⟩ := HR.out k hlt
            rw [getD_map_bools, boolsV_length, HOK.out.1.row k hlt] at hck hdk hcj
            have hbi := hdk.hblk (by omega)
            have hixk := index_any (P := Try.prog) 47 4 Try.underlying47 (by kernel_rfl) hdk
            have hcj1 := hcj j hltj
            rw [boolsV_getD _ _ (by rw [HOK.out.1.row k hlt]; exact hltj)] at hcj1
            have hw1 : wr.cell? ⟨b, off + k, none⟩ = _ := (hbm b hb _).trans hck
            have hw2 : wr.cell? ⟨bi, fi + j, none⟩ = _ := (hbm bi hbi _).trans hcj1
            have HE : Hid (mrk M k j = false ↔ Eqv d k j) := Lib.hid (HOK.out.2 k j hlt hltj)
            change wr.cell? ⟨bi, fi + j, none⟩ = some (.bool (mrk M k j)) at hw2
            have hb2 : b < wr.heap.size := by omega
            have hbi2 : bi < wr.heap.size := by omega
            clear hbm hck hdk hcj hcj1
            generalize mrk M k j = mb at *
            cases mb with
            | true =>
              have HN : Hid (¬ Eqv d k j) := Lib.hid (fun h => by have := HE.out.2 h; cases this)
              go_wp2
              go_roundg (d.next.length + 1 - (j + 1))
              case measure => omega
              case rel =>
                refine ⟨j + 1, fb, by omega, by go_num, rfl, Lib.hid ⟨fun h q hq he => ?_, fun h => HF.out.2 fun q hq he => h q (by omega) he⟩, by rw [members_succ_no HN.out]; exact HOO.out, HBB.out, rfl⟩
                rcases Nat.lt_succ_iff_lt_or_eq.1 hq with h1 | rfl
                · exact HF.out.1 h q h1 he
                · exact absurd he HN.out
            | false =>
              have HY := Lib.hid (HE.out.1 rfl)
              have hmlen := members_len d k j
              have HML := Lib.hid hmlen; clear hmlen
              cases fb with
              | false =>
                go_wp2_with (at_builtin; refine wpList_app rfl (.tmp 40) (.tmp 42) 24 rfl wo.heap.size 3 (.int .i64 0) 8 Try.underlying24 (by kernel_rfl) rfl (by decide) u7 (ints (nl (members d k j))) rfl (HOO.out.up (by repeat (first | exact Below.refl _ _ | assumption | refine b_drewN ?_ _ | refine Below.drew ?_ | refine b_ext' ?_ _ | refine b_alloc' ?_ _))) (.slice (some ⟨wr.heap.size, 0, none⟩) 1 1) (ints (nl [j])) rfl (by simpa [ints, nl] using sl_lit wr #[.int .i64 (j : Int)] 3 (by simp)) (ints_one _) (by have := HML.out; simp; omega) (Nat.le_trans hsz2 (by simp)) ?_; intro v' w2 hown1 hg1 hk1; have HO1 := Lib.hid hown1; have HG1 := Lib.hid hg1; clear hown1 hg1 hk1)
                go_roundg (d.next.length + 1 - (j + 1))
                case measure => omega
                case rel =>
                  refine ⟨j + 1, false, by omega, by go_num, rfl, Lib.hid ⟨fun h => (by cases h), fun h => (by have := HF.out.2 fun q hq he => h q (by omega) he; cases this)⟩, ?_, below_grown (B := wo.heap.size) (HBB.out.alloc (by omega) _) (by simp; omega) (HOO.out.up (by repeat (first | exact Below.refl _ _ | assumption | refine b_drewN ?_ _ | refine Below.drew ?_ | refine b_ext' ?_ _ | refine b_alloc' ?_ _))) HG1.out, rfl⟩
                  rw [members_succ_yes HY.out, nl_append, ints_append]; exact HO1.out
              | true =>
                by_cases hji : k ≤ j
                all_goals
                  go_wp2_with (at_builtin; refine wpList_app rfl (.tmp 40) (.tmp 42) 24 rfl wo.heap.size 3 (.int .i64 0) 8 Try.underlying24 (by kernel_rfl) rfl (by decide) u7 (ints (nl (members d k j))) rfl (HOO.out.up (by repeat (first | exact Below.refl _ _ | assumption | refine b_drewN ?_ _ | refine Below.drew ?_ | refine b_ext' ?_ _ | refine b_alloc' ?_ _))) (.slice (some ⟨wr.heap.size, 0, none⟩) 1 1) (ints (nl [j])) rfl (by simpa [ints, nl] using sl_lit wr #[.int .i64 (j : Int)] 3 (by simp)) (ints_one _) (by have := HML.out; simp; omega) (Nat.le_trans hsz2 (by simp)) ?_; intro v' w2 hown1 hg1 hk1; have HO1 := Lib.hid hown1; have HG1 := Lib.hid hg1; clear hown1 hg1 hk1)
                  go_roundg (d.next.length + 1 - (j + 1))
                  case measure => omega
                  case rel =>
                    refine ⟨j + 1, decide (k ≤ j), by omega, by go_num, by simp [hji], Lib.hid ⟨fun h q hq he => ?_, fun h => by simpa using h j (by omega) HY.out⟩, ?_, below_grown (B := wo.heap.size) (HBB.out.alloc (by omega) _) (by simp; omega) (HOO.out.up (by repeat (first | exact Below.refl _ _ | assumption | refine b_drewN ?_ _ | refine Below.drew ?_ | refine b_ext' ?_ _ | refine b_alloc' ?_ _))) HG1.out, rfl⟩
                    · rcases Nat.lt_succ_iff_lt_or_eq.1 hq with h1 | rfl
                      · exact HF.out.1 (by simp) q h1 he
                      · simpa using h
                    · rw [members_succ_yes HY.out, nl_append, ints_append]; exact HO1.out
          · have hjn : j = d.next.length := by omega
            have HFF : Hid (fb = true ↔ ∀ q, q < k → ¬ Eqv d k q) := Lib.hid ⟨fun h q hq he => by have := HF.out.1 h q (by omega) he; omega, fun h => HF.out.2 fun q hq he => by
              rcases Nat.lt_or_ge q k with h1 | h1
              · exact absurd he (h q h1)
              · exact h1⟩
            have HJN := Lib.hid hjn; clear HF hjn
            cases fb with
            | false =>
              have HN : Hid (¬ ∀ q, q < k → ¬ Eqv d k q) := Lib.hid (fun h => by have := HFF.out.2 h; cases this)
              go_wp2
              go_roundg (d.next.length + 1 - (k + 1))
              case measure => omega
              case rel => exact ⟨k + 1, vs, by omega, by go_num, by rw [alikeUpto_succ_no HN.out]; exact HO.out.up HBB.out, HBW.out.trans (HBB.out.mono hsz), rfl⟩
            | true =>
              have HY := Lib.hid (HFF.out.1 rfl)
              have HSP : Hid (OwnM (wr.alloc (.cells #[u7] 24)) w1.heap.size 24 3 u4 vs ((alikeUpto d k d.next.length).map fun l => ints (nl l))) := Lib.hid ((HO.out.up HBB.out).up (below_alloc _ _))
              have hvl : vs.length ≤ d.next.length := by
                have h1 := HO.out.len
                rw [List.length_map, alikeUpto, List.length_map] at h1
                have h2 := firsts_len d k
                omega
              have HVL := Lib.hid hvl; clear hvl
              obtain ⟨ou, cu, gu, rfl, -⟩ := HOO.out.cases
              simp only [ints_length, nl_length] at HOO HSP ⊢
              go_wp2_with (at_builtin; refine wpList_app rfl (.tmp 45) (.tmp 47) 23 rfl w1.heap.size 24 (.slice none 0 0) 24 Try.underlying23 (by kernel_rfl) rfl (by decide) u4 vs rfl HSP.out.outer (.slice (some ⟨wr.heap.size, 0, none⟩) 1 1) [.slice ou (members d k j).length cu] rfl (sl_lit wr #[_] 24 (by simp)) (by simp; exact own_oneCell HOO.out) (by have := HVL.out; simp; omega) (Nat.le_trans hsz (Nat.le_trans hsz2 (by simp))) ?_; intro v' w2 hown1 hg1 hk1; have HO1 := Lib.hid hown1; have HG1 := Lib.hid hg1; have HK1 := Lib.hid hk1; clear hown1 hg1 hk1)
              go_roundg (d.next.length + 1 - (k + 1))
              case measure => omega
              case rel =>
                have hp := HSP.out.push (r := .slice ou (members d k j).length cu) ((HOO.out.mono hsz).up (below_alloc _ _)) (by
                  cases hu : (Value.slice ou (members d k j).length cu).ownBlock with
                  | none => exact OwnM.free_none
                  | some q => exact HO.out.free_new (HOO.out.lt q hu).1) (grown_refl _ none) HO1.out HG1.out HK1.out
                refine ⟨k + 1, vs ++ [.slice ou (members d k j).length cu], by omega, by go_num, ?_, below_grown (B := w1.heap.size) (b_alloc2 (HBW.out.trans (HBB.out.mono hsz)) (by omega)) (by rw [World.size_alloc]; omega) HSP.out.outer HG1.out, rfl⟩
                have e : members d k d.next.length = members d k j := by rw [HJN.out]
                rw [alikeUpto_succ_yes HY.out, List.map_append, List.map_cons, List.map_nil, e]
                exact hp
      · go_wp2
        go_ret
        refine ⟨_, rfl, ?_, HB0.out.trans (HB.out.mono HB0.out.size)⟩
        have hkn : k = d.next.length := by omega
        rw [HAI.out, ← hkn]
        exact RowsG.ints (by rw [map_ints_nl, hkn]; rw [hkn] at HO; exact HO.out.rowsG)
  · have hrb := rightB_false hv
    have HRI := Lib.hid (alikeI_no hv)
    clear hv
    go_enter Try.func12, Try.ntmps12
    go_wp2_with (first | (refine load_dfa rfl _ rfl w.heap.size rfl A HS.out HG.out ?_) | (go_at_call 17; refine (HL.out _ (below_alloc _ _)).mono ?_; rintro e w' ⟨rfl, x, rfl⟩; rw [hrb]))
    go_ret
    refine ⟨_, rfl, ?_, (by repeat (first | exact Below.refl _ _ | assumption | refine b_drewN ?_ _ | refine Below.drew ?_ | refine b_ext' ?_ _ | refine b_alloc' ?_ _))⟩
    rw [HRI.out]
    exact ⟨[], Sl.nil _, rfl, fun i hi => absurd hi (Nat.not_lt_zero i)⟩
end Go.Cm
