/- The walk of the reading of a symbol by a table. Conditions: the table and the reader are there. -/
import Derived.Test.YtfeglklggadndaaPreD
namespace Go.Cm
open Go.RowKit Go.Proofs

def zR : Array Value := #[.bool false, .string ⟨#[]⟩, .int .i64 0]
theorem zero_rd (W : World) : (zeroValue 51).run Try.prog W = .ok (.agg zR) W := by kernel_rfl
theorem BoxS.keep {w w' : World} {g p : Nat} {s : ByteArray} {row : Option Nat} (h : BoxS w g s p) (hg : w.grownBy w' row) (hne : row ≠ some g) : BoxS w' g s p := ⟨h.own.keep hg (.inr (fun e => hne e.symm))⟩

set_option maxRecDepth 100000 in
theorem copyS {w : World} {g p : Nat} {s : ByteArray} (h : BoxS w g s p) : Calls Try.prog 30 #[.pointer (some ⟨g, 0, none⟩)] w fun e w' => (∃ b, e = .returned (.pointer (some ⟨b, 0, none⟩))) ∧ Below w.heap.size w w' := by
  have HB := Lib.hid h
  have hg := h.lt
  obtain ⟨A, hA, hAs, hAl⟩ := h.own.whole
  have hA1 : ∀ u ∈ A.toList, u.oneCell' = true := by
    rw [hAl]; intro u hu; simp at hu; rcases hu with rfl | rfl | rfl <;> rfl
  have hz := zero_rd
  obtain ⟨Z, hZ⟩ : ∃ Z, Z = zR := ⟨_, rfl⟩
  have hZl : Z.toList.length = 3 := by rw [hZ]; rfl
  have hZs : Z.size = 3 := by rw [hZ]; rfl
  rw [← hZ] at hz
  clear hZ hAl h
  have ho := own_lit w w.heap.size Z 51 (by omega) (Nat.le_refl _)
  rw [hZs] at ho
  have HO := Lib.hid ho
  clear ho
  go_enter Try.func30, Try.ntmps30
  go_wp2_with (first | (go_at_call 39; refine (thereS HB.out).mono ?_; rintro e w' ⟨rfl, hw'⟩; rw [hw']; clear hw') | (refine load_box rfl 51 3 _ rfl g rfl A hAs hA _ Try.underlying51 rfl (by kernel_rfl) ?_) | (refine wpList_store_agg rfl 51 _ _ rfl w.heap.size 51 w.heap.size 3 3 rfl A rfl (by rw [hAs]; kernel_rfl) Z.toList HO.out (by omega) hA1 ?_; intro w2 hown2 hg2; have HG2 := Lib.hid hg2; clear hown2 hg2))
  go_ret
  exact ⟨⟨_, rfl⟩, (below_alloc w _).grown HG2.out (by simp) (fun k hk => by cases hk; exact Nat.le_refl _)⟩

theorem look_read {L : List Nat} {E : Nat → Ent} {fs : List Sub} (hok : TabOk L L.length E fs) (h15 : ∀ x ∈ L, x ≤ 15) (N p left : Nat) :
    ((lookN E fs (valN N p 15)).b = 0 → ReadN L (N / 2 ^ p) left 0 (if left < 15 then 2 else 9) 0) ∧
    ((lookN E fs (valN N p 15)).b ≠ 0 → (lookN E fs (valN N p 15)).b ≤ 15 ∧ ((lookN E fs (valN N p 15)).b ≤ left → ReadN L (N / 2 ^ p) left (lookN E fs (valN N p 15)).s 0 (lookN E fs (valN N p 15)).b) ∧ (left < (lookN E fs (valN N p 15)).b → ReadN L (N / 2 ^ p) left 0 2 0)) := by
  obtain ⟨h1, h2⟩ := hok.look h15 (valN N p 15)
  have hm : ∀ j, j < L.length → (hitN L (valN N p 15) j ↔ hitN L (N / 2 ^ p) j) := fun j hj => by
    unfold valN; exact hit_mod (h15 _ (getD_mem L j 0 hj))
  refine ⟨fun hb => ?_, fun hb => ?_⟩
  · refine .inr ⟨fun i hi hh => ?_, rfl, rfl, rfl⟩
    have := h1 i hi ((hm i hi).2 hh)
    rw [this] at hb
    exact absurd hb hh.1
  · obtain ⟨j, hj, hh⟩ := h2 hb
    have e := h1 j hj hh
    have hh' := (hm j hj).1 hh
    have hl := h15 _ (getD_mem L j 0 hj)
    rw [e]
    refine ⟨hl, fun hle => .inl ⟨hj, hh', hle, rfl, rfl⟩, fun hlt => .inr ⟨fun i hi hi2 => ?_, rfl, rfl, ?_⟩⟩
    · have := hit_one hi hj hi2 hh'; subst this; exact hlt
    · rw [if_pos]; simp only at hlt; omega

set_option maxRecDepth 100000 in
set_option maxHeartbeats 1000000 in
theorem readP {w : World} {B gt g p : Nat} {s : ByteArray} {L : List Nat} (hT : TabAt w B gt L) (h : BoxS w g s p) (h15 : ∀ x ∈ L, x ≤ 15) (hs : s.size ≤ 4294967296) (hp : p ≤ 8 * s.size) :
    Calls Try.prog 16 #[.pointer (some ⟨gt, 0, none⟩), .pointer (some ⟨g, 0, none⟩)] w (RetRead BoxS L s p g w) := by
  obtain ⟨E, fs, vf, hM, hok⟩ := hT
  have hv : valN (numS s) p 15 < 2 ^ 15 := Nat.mod_lt _ (Nat.pow_pos (by decide))
  obtain ⟨hlk0, hlk1⟩ := look_read hok h15 (numS s) p (8 * s.size - p)
  have HL0 := Lib.hid hlk0
  have HL1 := Lib.hid hlk1
  have hbx : (lookN E fs (valN (numS s) p 15)).b ≤ 15 := by
    by_cases hb : (lookN E fs (valN (numS s) p 15)).b = 0
    · omega
    · exact (hlk1 hb).1
  have HFI : Hid (∀ W, Below w.heap.size w W → Calls Try.prog 31 #[.pointer (some ⟨gt, 0, none⟩), .int .i64 (valN (numS s) p 15 : Nat)] W fun e w' => e = .returned (.agg (entV (lookN E fs (valN (numS s) p 15)))) ∧ Below W.heap.size W w') := Lib.hid (fun W hb => findP (hM.up hb) hok _ (by simpa using hv))
  have HB := Lib.hid h
  have HLF : Hid (∀ W, BoxS W g s p → Calls Try.prog 33 #[.pointer (some ⟨g, 0, none⟩)] W fun e w' => e = .returned (.int .i64 ((8 * s.size - p : Nat) : Int)) ∧ ∃ x, w' = ext W x) := Lib.hid (fun W h => leftS h hs hp)
  have HPK : Hid (∀ W, BoxS W g s p → Calls Try.prog 32 #[.pointer (some ⟨g, 0, none⟩), .int .i64 (15 : Nat)] W fun e w' => e = .returned (.int .i64 (valN (numS s) p 15 : Nat)) ∧ ∃ x, w' = ext W x) := Lib.hid (fun W h => peekS h hs hp 15 (by omega))
  have HSK : Hid (∀ W (n : Nat), BoxS W g s p → n ≤ 15 → n ≤ 8 * s.size - p → Calls Try.prog 34 #[.pointer (some ⟨g, 0, none⟩), .int .i64 n] W fun e w' => e = .returned (.int .i64 0) ∧ BoxS w' g s (p + n) ∧ W.grownBy w' (some g)) := Lib.hid (fun W n h hn hl => skipS h hs n (by omega) (by omega))
  have hc0 := hM.c0
  have hgt := hM.blk.2
  obtain ⟨en, hen⟩ : ∃ en, en = lookN E fs (valN (numS s) p 15) := ⟨_, rfl⟩
  rw [← hen] at HL0 HL1 HFI hbx
  clear hen hlk0 hlk1 h hv
  generalize valN (numS s) p 15 = V at *
  unfold RetRead
  obtain ⟨left, hleft⟩ : ∃ left, left = 8 * s.size - p := ⟨_, rfl⟩
  rw [← hleft] at HL0 HL1 HLF HSK ⊢
  clear hleft hM
  have hz := zero_ent
  obtain ⟨Z, hZ⟩ : ∃ Z, Z = zE := ⟨_, rfl⟩
  have hZl : Z.toList.length = 3 := by rw [hZ]; rfl
  have hZs : Z.size = 3 := by rw [hZ]; rfl
  rw [← hZ] at hz
  clear hZ
  have hes : (entV en).size = 3 := rfl
  have he1 := entV_one en
  have hget : (entV en).toList = [.int .i64 (en.s : Nat), .int .i64 (en.b : Nat), .int .i64 (en.t : Nat)] := rfl
  obtain ⟨VE, hVE⟩ : ∃ VE, VE = entV en := ⟨_, rfl⟩
  rw [← hVE] at hes he1 hget HFI
  clear hVE
  have HGT := Lib.hid hget
  clear hget
  have HON : Hid (∀ W : World, Own (W.alloc (.cells Z 38)) W.heap.size 38 (.slice (some ⟨W.heap.size, 0, none⟩) 3 3) Z.toList) := Lib.hid (fun W => by
    have h := own_lit W W.heap.size Z 38 (by omega) (Nat.le_refl _)
    rwa [hZs] at h)
  go_enter Try.func16, Try.ntmps16
  go_wp2_with (first | (go_at_call 30; refine (copyS HB.out).mono ?_; rintro e w1 ⟨⟨bb, rfl⟩, hb1⟩; have HB1 := Lib.hid hb1; have HX1 := Lib.hid (HPK.out w1 (HB.out.up hb1)); clear hb1) | (go_at_call 32; refine HX1.out.mono ?_; rintro e w2 ⟨rfl, x2, rfl⟩; have HB2 := Lib.hid (HB1.out.trans ((ext_below w1 x2).mono HB1.out.size))) | (go_at_call 31; refine (HFI.out _ HB2.out).mono ?_; rintro e w3 ⟨rfl, hb3⟩; have HB3 := Lib.hid (HB2.out.trans (hb3.mono HB2.out.size)); clear hb3) | (refine wpList_store_agg rfl 38 _ _ rfl w3.heap.size 38 w3.heap.size 3 3 rfl VE rfl (by rw [hes]; kernel_rfl) Z.toList (HON.out w3) (by omega) he1 ?_; intro w5 hown5 hg5; rw [List.drop_of_length_le (by omega), List.append_nil, HGT.out] at hown5; have HO5 := Lib.hid hown5; have HG5 := Lib.hid hg5; clear hown5 hg5))
  have HB5 : Hid (Below w.heap.size w w5) := Lib.hid ((HB3.out.alloc HB3.out.size _).grown HG5.out (by have := HB3.out.size; simp; omega) (fun k hk => by cases hk; exact HB3.out.size))
  have c60 : w5.cell? ⟨w3.heap.size, 0, none⟩ = some (.int .i64 (en.s : Nat)) := HO5.out.cell (by simp)
  have c61 : w5.cell? ⟨w3.heap.size, 1, none⟩ = some (.int .i64 (en.b : Nat)) := HO5.out.cell (by simp)
  have hg6 := HO5.out.blk.2
  have hgb6 : some w3.heap.size ≠ some g := by
    have h1 := HB.out.lt
    have h2 := HB3.out.size
    intro e; cases e; omega
  have HS5 := Lib.hid (HB.out.up HB5.out)
  have HL5 := Lib.hid (HLF.out w5 HS5.out)
  clear HO5 HG5 HB3 HX1 HB1 HB2 HFI HPK HGT HON hc0 hgt
  generalize w3.heap.size = b6 at *
  try simp only [Act.put, Option.elim]
  by_cases hb0 : en.b = 0
  · rw [hb0] at c61
    have HR := Lib.hid (HL0.out hb0)
    go_quiet (fail)
    have HS6 := Lib.hid (HS5.out.up (below_drewN w5 nq))
    have HB6 := Lib.hid (HB5.out.trans ((below_drewN w5 nq).mono HB5.out.size))
    have HL6 := Lib.hid (HLF.out _ HS6.out)
    clear HS5 HB5 HL5 c60 c61 hg6
    generalize w5.drewN nq = w6 at *
    by_cases hl15 : left < 15
    · rw [if_pos hl15] at HR
      have hli : (left : Int) < 15 := by omega
      go_wp2_with (go_at_call 33; refine HL6.out.mono ?_; rintro e w7 ⟨rfl, z, rfl⟩)
      go_ret2
      exact ⟨0, 2, 0, rfl, HR.out, HS6.out.up (ext_below _ _), grown_below (HB6.out.trans ((ext_below w6 _).mono HB6.out.size)) _⟩
    · rw [if_neg hl15] at HR
      have hli : ¬ (left : Int) < 15 := by omega
      go_wp2_with (go_at_call 33; refine HL6.out.mono ?_; rintro e w7 ⟨rfl, z, rfl⟩)
      go_ret2
      exact ⟨0, 9, 0, rfl, HR.out, HS6.out.up (ext_below _ _), grown_below (HB6.out.trans ((ext_below w6 _).mono HB6.out.size)) _⟩
  · have hbp : (en.b : Int) > 0 := by omega
    have hbn : 0 < en.b := by omega
    by_cases hbl : en.b ≤ left
    · have hbli : (en.b : Int) ≤ (left : Int) := by omega
      have HR := Lib.hid ((HL1.out hb0).2.1 hbl)
      go_wp2
      refine wp_region_ext (by kernel_rfl) (by kernel_rfl) ?_
      repeat (go_big_quiet_step ((go_at_call 33; exact calls_in (HLF.out _ (HS5.out.up (ext_below _ _))))))
      refine wpQuiet_nil ?_
      rintro w' ⟨y, rfl⟩
      have c60' : (ext w5 y).cell? ⟨b6, 0, none⟩ = some (.int .i64 (en.s : Nat)) := (cell?_ext w5 y b6 0 hg6).trans c60
      have c61' : (ext w5 y).cell? ⟨b6, 1, none⟩ = some (.int .i64 (en.b : Nat)) := (cell?_ext w5 y b6 1 hg6).trans c61
      have hg6' : b6 < (ext w5 y).heap.size := Nat.lt_of_lt_of_le hg6 (size_ext _ _)
      have HB6 : Hid (Below w.heap.size w (ext w5 y).drew) := Lib.hid (b_drew1 (HB5.out.trans ((ext_below w5 y).mono HB5.out.size)))
      have HS6 := Lib.hid (HSK.out (ext w5 y).drew en.b (HS5.out.up (b_drew1 (ext_below w5 y))) hbx hbl)
      clear HS5 HB5 HL5 c60 c61 hg6
      generalize ext w5 y = w6 at *
      go_wp2
      refine wp_region_row (some g) [0,1,2,3,4] [5,6,7] (by kernel_rfl) (by kernel_rfl) ?_
      simp only [pick, List.map_cons, List.map_nil, List.getD_cons_zero, List.getD_cons_succ]
      repeat (go_big_quiet_step (fail))
      refine wpQuiet_nil ?_
      unfold wpAct
      go_wp2_with (go_at_call 34; refine HS6.out.mono ?_; rintro e w7 ⟨rfl, hq1, hq2⟩; have HQ1 := Lib.hid hq1; have HQ2 := Lib.hid hq2; have HQ3 := Lib.hid (grown_trans (grown_drew w6 (some g)) hq2); clear hq1 hq2)
      refine ⟨ex_chg HQ3.out, ?_⟩
      (unfold wpAct; go_wp2; refine ⟨ex_chg HQ3.out, ?_⟩)
      (unfold wpAct; go_wp2; refine ⟨ex_chg HQ3.out, ?_⟩)
      unfold wpAct
      intro _
      go_wp2
      go_ret2
      exact ⟨en.s, 0, en.b, rfl, HR.out, HQ1.out, grown_trans (grown_below HB6.out _) HQ2.out⟩
    · have hbli : ¬ (en.b : Int) ≤ (left : Int) := by omega
      have HR := Lib.hid ((HL1.out hb0).2.2 (by omega))
      have hli : (left : Int) < 15 := by omega
      go_wp2
      refine wp_region_ext (by kernel_rfl) (by kernel_rfl) ?_
      repeat (go_big_quiet_step ((go_at_call 33; exact calls_in (HLF.out _ (HS5.out.up (ext_below _ _))))))
      refine wpQuiet_nil ?_
      rintro w' ⟨y, rfl⟩
      have HS6 := Lib.hid (HS5.out.up (ext_below w5 y))
      have HB6 := Lib.hid (HB5.out.trans ((ext_below w5 y).mono HB5.out.size))
      have HL6 := Lib.hid (HLF.out _ HS6.out)
      clear HS5 HB5 HL5 c60 c61 hg6
      generalize ext w5 y = w6 at *
      go_wp2_with (go_at_call 33; refine HL6.out.mono ?_; rintro e w7 ⟨rfl, z, rfl⟩)
      go_ret2
      exact ⟨0, 2, 0, rfl, HR.out, HS6.out.up (ext_below _ _), grown_below (HB6.out.trans ((ext_below w6 _).mono HB6.out.size)) _⟩
end Go.Cm
