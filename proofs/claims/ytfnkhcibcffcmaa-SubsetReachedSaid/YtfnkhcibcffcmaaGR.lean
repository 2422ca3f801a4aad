/- Texts of this claim, joined: walks of small functions and plain facts about them. Conditions: as each says. -/
import Derived.Test.YtfnkhcibcffcmaaGQ
/- The walks of Edges and Step. Conditions: none. -/
namespace Go.Cm
open Go.RowKit Go.Proofs

set_option maxRecDepth 100000 in
theorem edgesR {w : World} {A : Array Value} {e : List (List Ed)} {F : Int} {r : List Int} (h : NfaV w A e F r) :
    Calls Try.prog 18 #[.agg A] w fun en w' => (∃ k : Int, en = .returned (.int .i64 k) ∧ (0 ≤ k → k = tot e ∧ e.length ≤ 3100)) ∧ ∃ x, w' = ext w x := by
  obtain ⟨ve, vr, rfl, he, hr⟩ := h
  obtain ⟨oe, ce, be, fe, rfl, hde, hce⟩ := he.open
  obtain ⟨orr, cr, br, fr, rfl, hdr, -⟩ := hr.open
  have hixe := index_row hde
  have hme := hde.len
  have hmr := hdr.len
  have hbe := hde.hblk
  have HCE := Lib.hid hce
  have HTS : Hid (∀ i, i < e.length → tot (e.take (i + 1)) = tot (e.take i) + (e.getD i []).length) := Lib.hid (fun i hi => by unfold tot; rw [List.take_succ_eq_append_getElem hi, List.map_append, List.sum_append]; simp [List.getD, hi])
  have HTA : Hid (tot (e.take e.length) = tot e) := Lib.hid (by rw [List.take_length])
  have HT0 : Hid (0 = tot (e.take 0)) := Lib.hid (by simp [tot])
  obtain ⟨n, hn⟩ : ∃ n, n = e.length := ⟨_, rfl⟩
  obtain ⟨m, hm⟩ : ∃ m, m = r.length := ⟨_, rfl⟩
  rw [← hn] at hixe hme hbe HCE HTS HTA ⊢
  rw [← hm] at hmr ⊢
  clear he hr hde hdr hce hn hm
  have HA := Lib.hid (below_alloc w (.cells #[.slice oe n ce, .int .i64 F, .slice orr m cr] 25))
  by_cases h1 : 3100 < n
  · go_enter Try.func18, Try.ntmps18
    go_wp2
    go_ret
    exact ⟨⟨_, rfl, fun h => absurd h (by decide)⟩, ex_ext HA.out⟩
  by_cases h2 : 3100 < m
  · go_enter Try.func18, Try.ntmps18
    go_wp2
    go_ret
    exact ⟨⟨_, rfl, fun h => absurd h (by decide)⟩, ex_ext HA.out⟩
  have hsz : (w.alloc (.cells #[.slice oe n ce, .int .i64 F, .slice orr m cr] 25)).heap.size = w.heap.size + 1 := by simp
  have HB0 : Hid ((w.alloc (.cells #[.slice oe n ce, .int .i64 F, .slice orr m cr] 25)).cell? ⟨w.heap.size, 0, none⟩ = some (.slice oe n ce)) := Lib.hid (by rw [World.cell?_alloc_new]; rfl)
  go_enter Try.func18, Try.ntmps18
  go_wp2
  generalize w.alloc (.cells #[.slice oe n ce, .int .i64 F, .slice orr m cr] 25) = w1 at *
  have hszw : w.heap.size < w1.heap.size := by omega
  clear hsz
  go_loopg [3, 4] n (fun gk kv iv wr => ∃ i k : Nat, kv = .int .i64 k ∧ iv = .int .i64 i ∧ i ≤ n ∧ k ≤ 200 * i ∧ k = tot (e.take i) ∧ Below w1.heap.size w1 wr ∧ gk = n - i)
  case atStart => exact ⟨0, 0, rfl, rfl, Nat.zero_le _, Nat.zero_le _, HT0.out, Below.refl _ _, rfl⟩
  case round =>
    obtain ⟨i, k, rfl, rfl, hi, hk, hkt, hbel, rfl⟩ := hrel
    have HKT := Lib.hid hkt
    clear hkt
    have HW := Lib.hid hbel
    have HWW := Lib.hid (HA.out.trans (hbel.mono HA.out.size))
    clear hbel
    have b0 := (HW.out.cell (p := ⟨w.heap.size, 0, none⟩) hszw).trans HB0.out
    have bl : w.heap.size < wr.heap.size := by have := HW.out.size; omega
    by_cases hlt : i < n
    · obtain ⟨oi, ci, bi, fi, hrow, hdi, -⟩ := HCE.out i hlt
      have hbe2 := hbe (by omega)
      have hrow2 := (HWW.out.cell (p := ⟨be, fe + i, none⟩) hbe2).trans hrow
      have hber : be < wr.heap.size := by omega
      have hixe2 := fun W => hixe W i hlt
      have HTI := Lib.hid (HTS.out i hlt)
      generalize (e.getD i []).length = z at *
      have hmi := hdi.len
      clear hrow hdi
      by_cases hz : 200 < z
      · go_wp2
        go_ret
        exact ⟨⟨_, rfl, fun h => absurd h (by decide)⟩, ex_ext HWW.out⟩
      · go_wp2
        go_roundg (n - (i + 1))
        case measure => omega
        case rel => exact ⟨i + 1, k + z, by go_num, by go_num, by omega, by omega, by rw [HTI.out, ← HKT.out], HW.out, rfl⟩
    · go_wp2
      go_ret
      have hie : i = n := by omega
      exact ⟨⟨_, rfl, fun _ => ⟨by rw [HKT.out, hie, HTA.out], by omega⟩⟩, ex_ext HWW.out⟩
set_option maxRecDepth 100000 in
theorem stepTopP {w : World} {A : Array Value} {e : List (List Ed)} {F : Int} {r : List Int} (h : NfaV w A e F r) {v : Value} {st : List Int} (hs : IntsAt w v st) (c : Nat) (hc : c < 256) :
    Calls Try.prog 26 #[.agg A, v, .int .u8 c] w fun en w' => ∃ u, en = .returned u ∧ Own w' w.heap.size 3 u (ints (nz (stepG e F r st c))) ∧ Below w.heap.size w w' := by
  have HH := Lib.hid h
  obtain ⟨ve, vr, rfl, he, hr⟩ := h
  obtain ⟨oe, ce, be, fe, rfl, -, -⟩ := he.open
  obtain ⟨orr, cr, br, fr, rfl, -, -⟩ := hr.open
  obtain ⟨R, hR⟩ : ∃ R, R = rightN e F r := ⟨_, rfl⟩
  obtain ⟨n, hn⟩ : ∃ n, n = e.length := ⟨_, rfl⟩
  obtain ⟨m, hm⟩ : ∃ m, m = r.length := ⟨_, rfl⟩
  rw [← hn, ← hm] at HH ⊢
  have HA := Lib.hid (below_alloc w (.cells #[.slice oe n ce, .int .i64 F, .slice orr m cr] 25))
  have HRT := Lib.hid (rightP (HH.out.up HA.out))
  rw [← hR] at HRT
  have HBX := Lib.hid (by simpa using own_lit w 0 #[.slice oe n ce, .int .i64 F, .slice orr m cr] 25 (by simp) (Nat.zero_le _) : Own (w.alloc (.cells #[.slice oe n ce, .int .i64 F, .slice orr m cr] 25)) 0 25 (.slice (some ⟨w.heap.size, 0, none⟩) 3 3) [.slice oe n ce, .int .i64 F, .slice orr m cr])
  have HS := Lib.hid hs
  obtain ⟨os, cs, bs, fs, rfl, -, -⟩ := hs.open
  clear he hr hs hn hm
  cases R with
  | false =>
    have HC : Hid (stepG e F r st c = []) := Lib.hid (by unfold stepG; rw [if_neg (by rw [← hR]; decide)])
    clear hR
    go_enter Try.func26, Try.ntmps26
    go_wp2_with ((with_reducible go_at_call 20); refine HRT.out.mono ?_; rintro en w2 ⟨rfl, x2, rfl⟩)
    go_ret
    exact ⟨_, rfl, by rw [HC.out]; exact Own.nil _ _ _, HA.out.trans ((ext_below _ x2).mono HA.out.size)⟩
  | true =>
    have HC : Hid (stepG e F r st c = stepN e st c) := Lib.hid (by unfold stepG; rw [if_pos hR.symm])
    have HRR := Lib.hid hR.symm
    clear hR
    go_enter Try.func26, Try.ntmps26
    go_wp2_with (first
      | ((with_reducible go_at_call 20); refine HRT.out.mono ?_; rintro en w2 ⟨rfl, x2, rfl⟩; have HB2 := Lib.hid (HA.out.trans ((ext_below _ x2).mono HA.out.size)); have HBX2 := Lib.hid (HBX.out.up (ext_below _ x2)); generalize ext (w.alloc (.cells #[.slice oe n ce, .int .i64 F, .slice orr m cr] 25)) x2 = w2 at *; have c0 := HBX2.out.cell (i := 0) (by simp); have c1 := HBX2.out.cell (i := 1) (by simp); have c2 := HBX2.out.cell (i := 2) (by simp); simp only [List.getD_cons_zero, List.getD_cons_succ] at c0 c1 c2; have hp := HBX2.out.blk.2)
      | (refine wpList_load_cells rfl 25 _ rfl w.heap.size 0 3 rfl _ _ (nfaBox HBX2.out) rfl Try.underlying25 rfl (by kernel_rfl) ?_)
      | ((with_reducible go_at_call 45); refine (stepP (HH.out.up HB2.out) HRR.out (HS.out.up HB2.out) c hc).mono ?_; rintro en w3 ⟨u3, rfl, ho, hb⟩; have HO := Lib.hid ho; have HB3 := Lib.hid (HB2.out.trans (hb.mono HB2.out.size)); clear ho hb))
    go_ret
    exact ⟨_, rfl, by rw [HC.out]; exact HO.out.mono HB2.out.size, HB3.out⟩
end Go.Cm
