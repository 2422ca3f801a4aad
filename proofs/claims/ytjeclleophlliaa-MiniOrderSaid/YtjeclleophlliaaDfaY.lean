/- The walks of Right, Run, After, Same over automata. Conditions: the arguments read as the data. -/
import Derived.Test.YtjeclleophlliaaDfaW
namespace Go.Cm
open Go.RowKit Go.Proofs


set_option maxRecDepth 100000 in
set_option maxHeartbeats 1000000 in
theorem rightR (v : Value) (d : Dfa) (w : World) (h : DfaAt w v d) : Calls Try.prog 17 #[v] w fun e w' => e = .returned (.bool (rightB d)) ∧ ∃ x, w' = ext w x := by
  obtain ⟨A, rfl, hs, hl, hc, ⟨vn, hn, hrow⟩, ⟨vr, hr, hru⟩⟩ := h
  obtain ⟨oa, cap, b, off, rfl, hd, hro⟩ := hrow.open
  obtain ⟨oa', cap', b', off', rfl, hd', hrc⟩ := hru.open
  have hix := index_any (P := Try.prog) 23 24 Try.underlying23 (by kernel_rfl) hd
  have hix' := index_any (P := Try.prog) 24 3 Try.underlying24 (by kernel_rfl) hd'
  have hm := hd.len
  have hm' := hd'.len
  have HS := Lib.hid hs; clear hs
  have HLc := Lib.hid hl; clear hl
  have HCL := Lib.hid hc; clear hc
  have HR := Lib.hid hro; clear hro
  have HRC := Lib.hid hrc; clear hrc
  by_cases hok : (1 ≤ d.next.length ∧ d.next.length ≤ 1000) ∧ d.rules.length = d.next.length
  · obtain ⟨⟨h1, h2⟩, h3⟩ := hok
    have h5 : ((d.rules.length : Int) != (d.next.length : Int)) = false := by simp [h3]
    have H3 := Lib.hid h3; clear h3
    go_enter Try.func17, Try.ntmps17
    go_wp2
    go_loop [4, 5] (fun n i => ∃ k m : Nat, k ≤ 256 ∧ m ≤ k ∧ i = .int .i64 k ∧ n = .int .i64 m ∧ classesFrom 0 d.cls = classesFrom m (d.cls.drop k)) (fun _ i => 256 - (intOf i).toNat)
    case atStart => exact ⟨0, 0, Nat.zero_le _, Nat.le_refl _, rfl, rfl, rfl⟩
    case round =>
      obtain ⟨k, n, hk, hmk, rfl, rfl, heq⟩ := hrel
      have HE := Lib.hid heq; clear heq
      by_cases hlt : k < 256
      · have HD := Lib.hid (classesFrom_drop n d.cls k (by rw [HLc.out]; exact hlt))
        have hAk := HCL.out k hlt
        generalize d.cls.getD k 0 = y at *
        by_cases h1 : y < 0
        · have HF : Hid (¬ Valid d) := Lib.hid (fun hv => by
            obtain ⟨_, _, _, q, hq, -⟩ := hv
            rw [HE.out, HD.out, if_pos (Or.inl h1)] at hq; cases hq)
          go_wp2
          all_goals go_ret
          all_goals exact ⟨ret_bool (rightB_false HF.out).symm, (ex_ext (by repeat (first | exact Below.refl _ _ | assumption | refine b_drewN ?_ _ | refine Below.drew ?_ | refine b_ext' ?_ _ | refine b_alloc' ?_ _)))⟩
        · by_cases h2 : (n : Int) < y
          · have HF : Hid (¬ Valid d) := Lib.hid (fun hv => by
              obtain ⟨_, _, _, q, hq, -⟩ := hv
              rw [HE.out, HD.out, if_pos (Or.inr h2)] at hq; cases hq)
            go_wp2
            all_goals go_ret
            all_goals exact ⟨ret_bool (rightB_false HF.out).symm, (ex_ext (by repeat (first | exact Below.refl _ _ | assumption | refine b_drewN ?_ _ | refine Below.drew ?_ | refine b_ext' ?_ _ | refine b_alloc' ?_ _)))⟩
          · by_cases h3 : y = n
            · have h4 : (y == (n : Int)) = true := by simpa using h3
              have H3 := Lib.hid h3; clear h3
              go_wp2
              go_round
              case rel =>
                refine ⟨k + 1, n + 1, by omega, by omega, by go_num, by go_num, ?_⟩
                have h5 := HD.out
                rw [if_neg (by omega), if_pos H3.out] at h5
                rw [HE.out, h5]
              case measure => simp [intOf]; omega
            · have h4 : (y == (n : Int)) = false := by simpa using h3
              go_wp2
              go_round
              case rel =>
                refine ⟨k + 1, n, by omega, by omega, by go_num, rfl, ?_⟩
                have h5 := HD.out
                rw [if_neg (by omega), if_neg h3] at h5
                rw [HE.out, h5]
              case measure => simp [intOf]; omega
      · have HN : Hid (classesFrom 0 d.cls = some n) := Lib.hid (by
          have h5 := HE.out
          rw [List.drop_of_length_le (by have := HLc.out; omega)] at h5
          rw [h5]; rfl)
        clear HE
        go_wp2
        go_loop [6] (fun i => ∃ k : Nat, k ≤ d.next.length ∧ i = .int .i64 k ∧ ∀ j, j < k → rowOk d.next.length n (d.rules.getD j 0) (d.next.getD j [])) (fun i => d.next.length - (intOf i).toNat)
        case atStart => exact ⟨0, Nat.zero_le _, rfl, fun j hj => absurd hj (Nat.not_lt_zero j)⟩
        case round =>
          clear hk hmk hlt
          obtain ⟨k, hk, rfl, hall⟩ := hrel
          have HA := Lib.hid hall; clear hall
          by_cases hlt : k < d.next.length
          · obtain ⟨oi, ci, bi, fi, hck, hdk, hcj, -⟩ := HR.out k hlt
            have hrk := HRC.out k (by rw [H3.out]; exact hlt)
            have hlt' : k < d.rules.length := by rw [H3.out]; exact hlt
            have hb := hd.hblk (by omega)
            have hb' := hd'.hblk (by omega)
            have hlk := hdk.hsml
            have hixk := index_any (P := Try.prog) 24 3 Try.underlying24 (by kernel_rfl) hdk
            have hblk := hdk.hblk
            have HD := Lib.hid hdk; clear hdk
            have HCJ := Lib.hid hcj; clear hcj
            have HW : Hid (rowOk d.next.length n (d.rules.getD k 0) (d.next.getD k []) → ∀ q, q < k + 1 → rowOk d.next.length n (d.rules.getD q 0) (d.next.getD q [])) := Lib.hid (fun h q hq => by
              rcases Nat.lt_succ_iff_lt_or_eq.1 hq with h1 | rfl
              · exact HA.out q h1
              · exact h)
            have HV : Hid (Valid d → rowOk d.next.length n (d.rules.getD k 0) (d.next.getD k [])) := Lib.hid (fun hv => by
              obtain ⟨_, _, _, q, hq, hall⟩ := hv
              have : q = n := by have := HN.out; rw [this] at hq; exact (Option.some.inj hq).symm
              subst this
              exact hall k hlt)
            generalize d.rules.getD k 0 = r at *
            generalize d.next.getD k [] = row at *
            by_cases hrok : -1 ≤ r ∧ r < 32 ∧ row.length = n
            · obtain ⟨g1, g2, g3⟩ := hrok
              have g4 : ((row.length : Int) != (n : Int)) = false := by simp [g3]
              have g5 : r ≤ 31 := by omega
              have g6 : n ≤ 140737488351232 := by omega
              have G3 := Lib.hid g3; clear g3
              go_wp2
              go_loop [7] (fun i => ∃ j : Nat, j ≤ n ∧ i = .int .i64 j ∧ ∀ q, q < j → 0 ≤ row.getD q 0 ∧ row.getD q 0 < d.next.length) (fun i => n - (intOf i).toNat)
              case atStart => exact ⟨0, Nat.zero_le _, rfl, fun j hj => absurd hj (Nat.not_lt_zero j)⟩
              case round =>
                obtain ⟨j, hj, rfl, hallj⟩ := hrel
                have HJ := Lib.hid hallj; clear hallj
                by_cases hltj : j < n
                · have hltj' : j < row.length := by rw [G3.out]; exact hltj
                  have hcell := HCJ.out j hltj'
                  have hbb := hblk (by omega)
                  have HX : Hid (Valid d → 0 ≤ row.getD j 0 ∧ row.getD j 0 < d.next.length) := Lib.hid (fun hv => (HV.out hv).2.2.2 j hltj')
                  have HY : Hid ((0 ≤ row.getD j 0 ∧ row.getD j 0 < d.next.length) → ∀ q, q < j + 1 → 0 ≤ row.getD q 0 ∧ row.getD q 0 < d.next.length) := Lib.hid (fun h q hq => by
                    rcases Nat.lt_succ_iff_lt_or_eq.1 hq with h1 | rfl
                    · exact HJ.out q h1
                    · exact h)
                  generalize row.getD j 0 = y at *
                  by_cases hy : 0 ≤ y ∧ y < d.next.length
                  · obtain ⟨y1, y2⟩ := hy
                    go_wp2
                    go_round
                    case rel => exact ⟨j + 1, by omega, by go_num, HY.out ⟨y1, y2⟩⟩
                    case measure => simp [intOf]; omega
                  · by_cases y1 : y < 0
                    · go_wp2
                      all_goals go_ret
                      all_goals exact ⟨ret_bool (rightB_false fun hv => hy (HX.out hv)).symm, (ex_ext (by repeat (first | exact Below.refl _ _ | assumption | refine b_drewN ?_ _ | refine Below.drew ?_ | refine b_ext' ?_ _ | refine b_alloc' ?_ _)))⟩
                    · have y2 : (d.next.length : Int) ≤ y := by omega
                      go_wp2
                      all_goals go_ret
                      all_goals exact ⟨ret_bool (rightB_false fun hv => hy (HX.out hv)).symm, (ex_ext (by repeat (first | exact Below.refl _ _ | assumption | refine b_drewN ?_ _ | refine Below.drew ?_ | refine b_ext' ?_ _ | refine b_alloc' ?_ _)))⟩
                · go_wp2
                  go_round
                  case rel =>
                    refine ⟨k + 1, by omega, by go_num, HW.out ⟨g1, g2, G3.out, ?_⟩⟩
                    have hjj : j = row.length := by have := G3.out; omega
                    rw [← hjj]; exact HJ.out
                  case measure => simp [intOf]; omega
            · have HF : Hid (¬ Valid d) := Lib.hid (fun hv => hrok ⟨(HV.out hv).1, (HV.out hv).2.1, (HV.out hv).2.2.1⟩)
              by_cases g1 : -1 ≤ r
              · by_cases g2 : r < 32
                · have g4 : ((row.length : Int) != (n : Int)) = true := by simp; omega
                  have g5 : r ≤ 31 := by omega
                  go_wp2
                  all_goals go_ret
                  all_goals exact ⟨ret_bool (rightB_false HF.out).symm, (ex_ext (by repeat (first | exact Below.refl _ _ | assumption | refine b_drewN ?_ _ | refine Below.drew ?_ | refine b_ext' ?_ _ | refine b_alloc' ?_ _)))⟩
                · have g4 : (31 : Int) < r := by omega
                  go_wp2
                  all_goals go_ret
                  all_goals exact ⟨ret_bool (rightB_false HF.out).symm, (ex_ext (by repeat (first | exact Below.refl _ _ | assumption | refine b_drewN ?_ _ | refine Below.drew ?_ | refine b_ext' ?_ _ | refine b_alloc' ?_ _)))⟩
              · have g4 : r < -1 := by omega
                go_wp2
                all_goals go_ret
                all_goals exact ⟨ret_bool (rightB_false HF.out).symm, (ex_ext (by repeat (first | exact Below.refl _ _ | assumption | refine b_drewN ?_ _ | refine Below.drew ?_ | refine b_ext' ?_ _ | refine b_alloc' ?_ _)))⟩
          · go_wp2
            go_ret
            have hkk : k = d.next.length := by omega
            exact ⟨ret_bool (rightB_true ⟨h1, h2, H3.out, n, HN.out, by rw [← hkk]; rw [← hkk] at HA; exact HA.out⟩).symm, (ex_ext (by repeat (first | exact Below.refl _ _ | assumption | refine b_drewN ?_ _ | refine Below.drew ?_ | refine b_ext' ?_ _ | refine b_alloc' ?_ _)))⟩
  · have HF : Hid (¬ Valid d) := Lib.hid (fun hv => hok ⟨⟨hv.1, hv.2.1⟩, hv.2.2.1⟩)
    by_cases h1 : 1 ≤ d.next.length
    · by_cases h2 : d.next.length ≤ 1000
      · have h5 : ((d.rules.length : Int) != (d.next.length : Int)) = true := by simp; omega
        clear hok
        go_enter Try.func17, Try.ntmps17
        go_wp2
        all_goals go_ret
        all_goals exact ⟨ret_bool (rightB_false HF.out).symm, (ex_ext (by repeat (first | exact Below.refl _ _ | assumption | refine b_drewN ?_ _ | refine Below.drew ?_ | refine b_ext' ?_ _ | refine b_alloc' ?_ _)))⟩
      · have h5 : (1000 : Int) < d.next.length := by omega
        clear hok
        go_enter Try.func17, Try.ntmps17
        go_wp2
        all_goals go_ret
        all_goals exact ⟨ret_bool (rightB_false HF.out).symm, (ex_ext (by repeat (first | exact Below.refl _ _ | assumption | refine b_drewN ?_ _ | refine Below.drew ?_ | refine b_ext' ?_ _ | refine b_alloc' ?_ _)))⟩
    · have h5 : (d.next.length : Int) < 1 := by omega
      clear hok
      go_enter Try.func17, Try.ntmps17
      go_wp2
      all_goals go_ret
      all_goals exact ⟨ret_bool (rightB_false HF.out).symm, (ex_ext (by repeat (first | exact Below.refl _ _ | assumption | refine b_drewN ?_ _ | refine Below.drew ?_ | refine b_ext' ?_ _ | refine b_alloc' ?_ _)))⟩
end Go.Cm
