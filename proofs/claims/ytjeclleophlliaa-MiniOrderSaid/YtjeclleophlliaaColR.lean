/- The walk of the document's column. Conditions: both columns lie in all rows. -/
import Derived.Test.YtjeclleophlliaaDfaW
import Derived.Test.YtjeclleophlliaaMakeM
import Derived.Deep.LoopGhost
namespace Go.Cm
open Go.RowKit Go.Proofs

theorem colI_eq {rows : List (List Int)} {a b : Int} : colI rows a = colI rows b ↔ ∀ j, j < rows.length → (rows.getD j []).getD a.toNat 0 = (rows.getD j []).getD b.toNat 0 := by
  unfold colI
  constructor
  · intro h j hj
    have := congrArg (fun l => l[j]?) h
    simp only [List.getElem?_map, List.getElem?_eq_getElem hj, Option.map_some, Option.some.injEq] at this
    simpa [List.getD, hj] using this
  · intro h
    apply List.map_congr_left
    intro r hr
    obtain ⟨j, hj, rfl⟩ := List.mem_iff_getElem.1 hr
    have := h j hj
    simpa [List.getD, hj] using this

set_option maxHeartbeats 1000000 in
theorem column (v : Value) (rows : List (List Int)) (a b : Int) (w : World) (h : RowsAt w v rows) (ha : 0 ≤ a) (hb : 0 ≤ b) (hr : ∀ j, j < rows.length → a < (rows.getD j []).length ∧ b < (rows.getD j []).length) :
    Calls Try.prog 25 #[v, .int .i64 a, .int .i64 b] w fun e w' => e = .returned (.bool (decide (colI rows a = colI rows b))) ∧ ∃ x, w' = ext w x := by
  obtain ⟨oa, cap, bl, off, rfl, hd, hro⟩ := h.open
  have hix := index_any (P := Try.prog) 23 24 Try.underlying23 (by kernel_rfl) hd
  have hbl := hd.hblk
  have hsm := hd.hsml
  have HRO := Lib.hid hro; clear hro
  have HR := Lib.hid hr; clear hr
  have HD := Lib.hid hd; clear hd
  have HBL := Lib.hid hbl; clear hbl
  go_enter Try.func25, Try.ntmps25
  go_wp2
  go_loopg [7] (rows.length + 1) (fun gk i wr => ∃ k : Nat, k ≤ rows.length ∧ i = .int .i64 k ∧ Hid (∀ j, j < k → (rows.getD j []).getD a.toNat 0 = (rows.getD j []).getD b.toNat 0) ∧ (∃ x, wr = ext w x) ∧ gk = rows.length + 1 - k)
  case atStart => exact ⟨0, Nat.zero_le _, rfl, Lib.hid (fun j hj => absurd hj (Nat.not_lt_zero j)), (ex_ext (by repeat (first | exact Below.refl _ _ | assumption | refine b_drewN ?_ _ | refine Below.drew ?_ | refine b_ext' ?_ _ | refine b_alloc' ?_ _))), rfl⟩
  case round =>
    obtain ⟨k, hk, rfl, HA, ⟨x, rfl⟩, rfl⟩ := hrel
    by_cases hlt : k < rows.length
    · obtain ⟨oi, ci, bi, fi, hck, hdk, hcj, -⟩ := HRO.out k hlt
      obtain ⟨h1, h2⟩ := HR.out k hlt
      have hbl := HBL.out (by omega)
      have hbi := hdk.hblk (by omega)
      have hixk := index_any (P := Try.prog) 24 3 Try.underlying24 (by kernel_rfl) hdk
      have hca := hcj a.toNat (by omega)
      have hcb := hcj b.toNat (by omega)
      have HN : Hid (∀ j, j < k + 1 → (rows.getD k []).getD a.toNat 0 = (rows.getD k []).getD b.toNat 0 → (rows.getD j []).getD a.toNat 0 = (rows.getD j []).getD b.toNat 0) := Lib.hid (fun j hj he => by
        rcases Nat.lt_succ_iff_lt_or_eq.1 hj with h | rfl
        · exact HA.out j h
        · exact he)
      have HNE : Hid ((rows.getD k []).getD a.toNat 0 ≠ (rows.getD k []).getD b.toNat 0 → colI rows a ≠ colI rows b) := Lib.hid (fun hne he => hne (colI_eq.1 he k hlt))
      clear hcj
      have HDK := Lib.hid hdk; clear hdk
      generalize rows.getD k [] = row at *
      generalize row.getD a.toNat 0 = y at *
      generalize row.getD b.toNat 0 = z at *
      by_cases hyz : y = z
      · subst hyz
        have hyy : (y != y) = false := by simp
        go_wp2
        go_quiet (fail)
        go_wp2
        go_roundg (rows.length + 1 - (k + 1))
        case measure => omega
        case rel => exact ⟨k + 1, by omega, by go_num, Lib.hid (fun j hj => HN.out j hj (by trivial)), (ex_ext (by repeat (first | exact Below.refl _ _ | assumption | refine b_drewN ?_ _ | refine Below.drew ?_ | refine b_ext' ?_ _ | refine b_alloc' ?_ _))), rfl⟩
      · have hyy : (y != z) = true := by simpa using hyz
        have HYZ := Lib.hid hyz; clear hyz
        go_wp2
        go_quiet (fail)
        go_wp2
        go_ret
        refine ⟨?_, (ex_ext (by repeat (first | exact Below.refl _ _ | assumption | refine b_drewN ?_ _ | refine Below.drew ?_ | refine b_ext' ?_ _ | refine b_alloc' ?_ _)))⟩
        simp [HNE.out HYZ.out]
    · go_wp2
      go_ret
      refine ⟨?_, (ex_ext (by repeat (first | exact Below.refl _ _ | assumption | refine b_drewN ?_ _ | refine Below.drew ?_ | refine b_ext' ?_ _ | refine b_alloc' ?_ _)))⟩
      have := colI_eq.2 fun j hj => HA.out j (by omega)
      simp [this]
end Go.Cm
