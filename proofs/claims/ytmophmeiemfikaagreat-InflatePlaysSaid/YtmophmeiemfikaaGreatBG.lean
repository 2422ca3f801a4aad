/- Texts of this claim, joined: walks of small functions and plain facts about them. Conditions: as each says. -/
import Derived.Test.YtmophmeiemfikaaGreatBF
import Derived.Test.YtmophmeiemfikaaGreatRows
import Derived.WalkKit
import Derived.WalkSpells
import Derived.WalkLawsBesides
import Derived.Deep.QuietTactic
import Derived.BigQuiet
import Derived.Lib.Hide
import Derived.Deep.LoopGhost
import Derived.Laws.BitsLemmas
import Derived.Laws.Small
/- The walk of the reading of a symbol by a table. Conditions: the table and the reader are there. -/
namespace Go.Cm
open Go.RowKit Go.Proofs

def zR : Array Value := #[.bool false, .string ⟨#[]⟩, .int .i64 0]
theorem zero_rd (W : World) : (zeroValue 86).run Tryz.prog W = .ok (.agg zR) W := by kernel_rfl
theorem BoxS.keep {w w' : World} {g p : Nat} {s : ByteArray} {row : Option Nat} (h : BoxS w g s p) (hg : w.grownBy w' row) (hne : row ≠ some g) : BoxS w' g s p := ⟨h.own.keep hg (.inr (fun e => hne e.symm))⟩
set_option maxRecDepth 100000 in
theorem copyS {w : World} {g p : Nat} {s : ByteArray} (h : BoxS w g s p) : Calls Tryz.prog 26 #[.pointer (some ⟨g, 0, none⟩)] w fun e w' => (∃ b, e = .returned (.pointer (some ⟨b, 0, none⟩))) ∧ Below w.heap.size w w' := by
  have HB := Lib.hid h
  have hg := h.lt
  obtain ⟨A, hA, hAs, hAl⟩ := h.own.whole
  have hA1 : ∀ u ∈ A.toList, u.oneCell' = true := by
    rw [hAl]; intro u hu; simp at hu; rcases hu with rfl | rfl | rfl <;> rfl
  have hz := zero_rd
  obtain ⟨Z, hZ⟩ : ∃ Z, Z = zR := ⟨_, rfl⟩
  have hZl : Z.toList.length = 3 := by rw [hZ]; rfl
  have hZs : Z.size = 3 := by rw [hZ]; rfl
  rw [← hZ] at hz
  clear hZ hAl h
  have ho := own_lit w w.heap.size Z 86 (by omega) (Nat.le_refl _)
  rw [hZs] at ho
  have HO := Lib.hid ho
  clear ho
  go_enter Tryz.func26, Tryz.ntmps26
  go_wp2_with (first | (go_at_call 39; refine (thereS HB.out).mono ?_; rintro e w' ⟨rfl, hw'⟩; rw [hw']; clear hw') | (refine load_box rfl 86 3 _ rfl g rfl A hAs hA _ Tryz.underlying86 rfl (by kernel_rfl) ?_) | (refine wpList_store_agg rfl 86 _ _ rfl w.heap.size 86 w.heap.size 3 3 rfl A rfl (by rw [hAs]; kernel_rfl) Z.toList HO.out (by omega) hA1 ?_; intro w2 hown2 hg2; have HG2 := Lib.hid hg2; clear hown2 hg2))
  go_ret
  exact ⟨⟨_, rfl⟩, (below_alloc w _).grown HG2.out (by simp) (fun k hk => by cases hk; exact Nat.le_refl _)⟩
theorem look_read {L : List Nat} {E : Nat → Ent} {fs : List Sub} (hok : TabOk L L.length E fs) (h15 : ∀ x ∈ L, x ≤ 15) (N p left : Nat) :
    ((lookN E fs (valN N p 15)).b = 0 → ReadN L (N / 2 ^ p) left 0 (if left < 15 then 2 else 9) 0) ∧
    ((lookN E fs (valN N p 15)).b ≠ 0 → (lookN E fs (valN N p 15)).b ≤ 15 ∧ ((lookN E fs (valN N p 15)).b ≤ left → ReadN L (N / 2 ^ p) left (lookN E fs (valN N p 15)).s 0 (lookN E fs (valN N p 15)).b) ∧ (left < (lookN E fs (valN N p 15)).b → ReadN L (N / 2 ^ p) left 0 2 0)) := by
  obtain ⟨h1, h2⟩ := hok.look h15 (valN N p 15)
  have hm : ∀ j, j < L.length → (hitN L (valN N p 15) j ↔ hitN L (N / 2 ^ p) j) := fun j hj => by
    unfold valN; exact hit_mod (h15 _ (getD_mem L j 0 hj))
  refine ⟨fun hb => ?_, fun hb => ?_⟩
  · refine .inr ⟨fun i hi hh => ?_, rfl, rfl, rfl⟩
    have := h1 i hi ((hm i hi).2 hh)
    rw [this] at hb
    exact absurd hb hh.1
  · obtain ⟨j, hj, hh⟩ := h2 hb
    have e := h1 j hj hh
    have hh' := (hm j hj).1 hh
    have hl := h15 _ (getD_mem L j 0 hj)
    rw [e]
    refine ⟨hl, fun hle => .inl ⟨hj, hh', hle, rfl, rfl⟩, fun hlt => .inr ⟨fun i hi hi2 => ?_, rfl, rfl, ?_⟩⟩
    · have := hit_one hi hj hi2 hh'; subst this; exact hlt
    · rw [if_pos]; simp only at hlt; omega
set_option maxRecDepth 100000 in
set_option maxHeartbeats 1000000 in
theorem readP {w : World} {B gt g p : Nat} {s : ByteArray} {L : List Nat} (hT : TabAt w B gt L) (h : BoxS w g s p) (h15 : ∀ x ∈ L, x ≤ 15) (hs : s.size ≤ 4294967296) (hp : p ≤ 8 * s.size) :
    Calls Tryz.prog 86 #[.pointer (some ⟨gt, 0, none⟩), .pointer (some ⟨g, 0, none⟩)] w (RetRead BoxS L s p g w) := by
  obtain ⟨E, fs, vf, hM, hok⟩ := hT
  have hv : valN (numS s) p 15 < 2 ^ 15 := Nat.mod_lt _ (Nat.pow_pos (by decide))
  obtain ⟨hlk0, hlk1⟩ := look_read hok h15 (numS s) p (8 * s.size - p)
  have HL0 := Lib.hid hlk0
  have HL1 := Lib.hid hlk1
  have hbx : (lookN E fs (valN (numS s) p 15)).b ≤ 15 := by
    by_cases hb : (lookN E fs (valN (numS s) p 15)).b = 0
    · omega
    · exact (hlk1 hb).1
  have HFI : Hid (∀ W, Below w.heap.size w W → Calls Tryz.prog 95 #[.pointer (some ⟨gt, 0, none⟩), .int .i64 (valN (numS s) p 15 : Nat)] W fun e w' => e = .returned (.agg (entV (lookN E fs (valN (numS s) p 15)))) ∧ Below W.heap.size W w') := Lib.hid (fun W hb => findP (hM.up hb) hok _ (by simpa using hv))
  have HB := Lib.hid h
  have HLF : Hid (∀ W, BoxS W g s p → Calls Tryz.prog 84 #[.pointer (some ⟨g, 0, none⟩)] W fun e w' => e = .returned (.int .i64 ((8 * s.size - p : Nat) : Int)) ∧ ∃ x, w' = ext W x) := Lib.hid (fun W h => leftS h hs hp)
  have HPK : Hid (∀ W, BoxS W g s p → Calls Tryz.prog 92 #[.pointer (some ⟨g, 0, none⟩), .int .i64 (15 : Nat)] W fun e w' => e = .returned (.int .i64 (valN (numS s) p 15 : Nat)) ∧ ∃ x, w' = ext W x) := Lib.hid (fun W h => peekS h hs hp 15 (by omega))
  have HSK : Hid (∀ W (n : Nat), BoxS W g s p → n ≤ 15 → n ≤ 8 * s.size - p → Calls Tryz.prog 93 #[.pointer (some ⟨g, 0, none⟩), .int .i64 n] W fun e w' => e = .returned (.int .i64 0) ∧ BoxS w' g s (p + n) ∧ W.grownBy w' (some g)) := Lib.hid (fun W n h hn hl => skipS h hs n (by omega) (by omega))
  have hc0 := hM.c0
  have hgt := hM.blk.2
  obtain ⟨en, hen⟩ : ∃ en, en = lookN E fs (valN (numS s) p 15) := ⟨_, rfl⟩
  rw [← hen] at HL0 HL1 HFI hbx
  clear hen hlk0 hlk1 h hv
  generalize valN (numS s) p 15 = V at *
  unfold RetRead
  obtain ⟨left, hleft⟩ : ∃ left, left = 8 * s.size - p := ⟨_, rfl⟩
  rw [← hleft] at HL0 HL1 HLF HSK ⊢
  clear hleft hM
  have hz := zero_ent
  obtain ⟨Z, hZ⟩ : ∃ Z, Z = zE := ⟨_, rfl⟩
  have hZl : Z.toList.length = 3 := by rw [hZ]; rfl
  have hZs : Z.size = 3 := by rw [hZ]; rfl
  rw [← hZ] at hz
  clear hZ
  have hes : (entV en).size = 3 := rfl
  have he1 := entV_one en
  have hget : (entV en).toList = [.int .i64 (en.s : Nat), .int .i64 (en.b : Nat), .int .i64 (en.t : Nat)] := rfl
  obtain ⟨VE, hVE⟩ : ∃ VE, VE = entV en := ⟨_, rfl⟩
  rw [← hVE] at hes he1 hget HFI
  clear hVE
  have HGT := Lib.hid hget
  clear hget
  have HON : Hid (∀ W : World, Own (W.alloc (.cells Z 113)) W.heap.size 113 (.slice (some ⟨W.heap.size, 0, none⟩) 3 3) Z.toList) := Lib.hid (fun W => by
    have h := own_lit W W.heap.size Z 113 (by omega) (Nat.le_refl _)
    rwa [hZs] at h)
  go_enter Tryz.func86, Tryz.ntmps86
  go_wp2_with (first | (go_at_call 26; refine (copyS HB.out).mono ?_; rintro e w1 ⟨⟨bb, rfl⟩, hb1⟩; have HB1 := Lib.hid hb1; have HX1 := Lib.hid (HPK.out w1 (HB.out.up hb1)); clear hb1) | (go_at_call 92; refine HX1.out.mono ?_; rintro e w2 ⟨rfl, x2, rfl⟩; have HB2 := Lib.hid (HB1.out.trans ((ext_below w1 x2).mono HB1.out.size))) | (go_at_call 95; refine (HFI.out _ HB2.out).mono ?_; rintro e w3 ⟨rfl, hb3⟩; have HB3 := Lib.hid (HB2.out.trans (hb3.mono HB2.out.size)); clear hb3) | (refine wpList_store_agg rfl 113 _ _ rfl w3.heap.size 113 w3.heap.size 3 3 rfl VE rfl (by rw [hes]; kernel_rfl) Z.toList (HON.out w3) (by omega) he1 ?_; intro w5 hown5 hg5; rw [List.drop_of_length_le (by omega), List.append_nil, HGT.out] at hown5; have HO5 := Lib.hid hown5; have HG5 := Lib.hid hg5; clear hown5 hg5))
  have HB5 : Hid (Below w.heap.size w w5) := Lib.hid ((HB3.out.alloc HB3.out.size _).grown HG5.out (by have := HB3.out.size; simp; omega) (fun k hk => by cases hk; exact HB3.out.size))
  have c60 : w5.cell? ⟨w3.heap.size, 0, none⟩ = some (.int .i64 (en.s : Nat)) := HO5.out.cell (by simp)
  have c61 : w5.cell? ⟨w3.heap.size, 1, none⟩ = some (.int .i64 (en.b : Nat)) := HO5.out.cell (by simp)
  have hg6 := HO5.out.blk.2
  have hgb6 : some w3.heap.size ≠ some g := by
    have h1 := HB.out.lt
    have h2 := HB3.out.size
    intro e; cases e; omega
  have HS5 := Lib.hid (HB.out.up HB5.out)
  have HL5 := Lib.hid (HLF.out w5 HS5.out)
  clear HO5 HG5 HB3 HX1 HB1 HB2 HFI HPK HGT HON hc0 hgt
  generalize w3.heap.size = b6 at *
  try simp only [Act.put]
  by_cases hb0 : en.b = 0
  · rw [hb0] at c61
    have HR := Lib.hid (HL0.out hb0)
    go_quiet (fail)
    have HS6 := Lib.hid (HS5.out.up (below_drewN w5 nq))
    have HB6 := Lib.hid (HB5.out.trans ((below_drewN w5 nq).mono HB5.out.size))
    have HL6 := Lib.hid (HLF.out _ HS6.out)
    clear HS5 HB5 HL5 c60 c61 hg6
    generalize w5.drewN nq = w6 at *
    by_cases hl15 : left < 15
    · rw [if_pos hl15] at HR
      have hli : (left : Int) < 15 := by omega
      go_wp2_with (go_at_call 84; refine HL6.out.mono ?_; rintro e w7 ⟨rfl, z, rfl⟩)
      go_ret2
      exact ⟨0, 2, 0, rfl, HR.out, HS6.out.up (ext_below _ _), grown_below (HB6.out.trans ((ext_below w6 _).mono HB6.out.size)) _⟩
    · rw [if_neg hl15] at HR
      have hli : ¬ (left : Int) < 15 := by omega
      go_wp2_with (go_at_call 84; refine HL6.out.mono ?_; rintro e w7 ⟨rfl, z, rfl⟩)
      go_ret2
      exact ⟨0, 9, 0, rfl, HR.out, HS6.out.up (ext_below _ _), grown_below (HB6.out.trans ((ext_below w6 _).mono HB6.out.size)) _⟩
  · have hbp : (en.b : Int) > 0 := by omega
    have hbn : 0 < en.b := by omega
    by_cases hbl : en.b ≤ left
    · have hbli : (en.b : Int) ≤ (left : Int) := by omega
      have HR := Lib.hid ((HL1.out hb0).2.1 hbl)
      go_wp2
      refine wp_region_ext (by kernel_rfl) (by kernel_rfl) ?_
      repeat (go_big_quiet_step ((go_at_call 84; exact calls_in (HLF.out _ (HS5.out.up (ext_below _ _))))))
      refine wpQuiet_nil ?_
      rintro w' ⟨y, rfl⟩
      have c60' : (ext w5 y).cell? ⟨b6, 0, none⟩ = some (.int .i64 (en.s : Nat)) := (cell?_ext w5 y b6 0 hg6).trans c60
      have c61' : (ext w5 y).cell? ⟨b6, 1, none⟩ = some (.int .i64 (en.b : Nat)) := (cell?_ext w5 y b6 1 hg6).trans c61
      have hg6' : b6 < (ext w5 y).heap.size := Nat.lt_of_lt_of_le hg6 (size_ext _ _)
      have HB6 : Hid (Below w.heap.size w (ext w5 y).drew) := Lib.hid (b_drew1 (HB5.out.trans ((ext_below w5 y).mono HB5.out.size)))
      have HS6 := Lib.hid (HSK.out (ext w5 y).drew en.b (HS5.out.up (b_drew1 (ext_below w5 y))) hbx hbl)
      clear HS5 HB5 HL5 c60 c61 hg6
      generalize ext w5 y = w6 at *
      go_wp2
      refine wp_region_row (some g) [0,1,2,3,4] [5,6,7] (by kernel_rfl) (by kernel_rfl) ?_
      simp only [pick, List.map_cons, List.map_nil, List.getD_cons_zero, List.getD_cons_succ]
      repeat (go_big_quiet_step (fail))
      refine wpQuiet_nil ?_
      unfold wpAct
      go_wp2_with (go_at_call 93; refine HS6.out.mono ?_; rintro e w7 ⟨rfl, hq1, hq2⟩; have HQ1 := Lib.hid hq1; have HQ2 := Lib.hid hq2; have HQ3 := Lib.hid (grown_trans (grown_drew w6 (some g)) hq2); clear hq1 hq2)
      refine ⟨ex_chg HQ3.out, ?_⟩
      (unfold wpAct; go_wp2; refine ⟨ex_chg HQ3.out, ?_⟩)
      (unfold wpAct; go_wp2; refine ⟨ex_chg HQ3.out, ?_⟩)
      unfold wpAct
      intro _
      go_wp2
      go_ret2
      exact ⟨en.s, 0, en.b, rfl, HR.out, HQ1.out, grown_trans (grown_below HB6.out _) HQ2.out⟩
    · have hbli : ¬ (en.b : Int) ≤ (left : Int) := by omega
      have HR := Lib.hid ((HL1.out hb0).2.2 (by omega))
      have hli : (left : Int) < 15 := by omega
      go_wp2
      refine wp_region_ext (by kernel_rfl) (by kernel_rfl) ?_
      repeat (go_big_quiet_step ((go_at_call 84; exact calls_in (HLF.out _ (HS5.out.up (ext_below _ _))))))
      refine wpQuiet_nil ?_
      rintro w' ⟨y, rfl⟩
      have HS6 := Lib.hid (HS5.out.up (ext_below w5 y))
      have HB6 := Lib.hid (HB5.out.trans ((ext_below w5 y).mono HB5.out.size))
      have HL6 := Lib.hid (HLF.out _ HS6.out)
      clear HS5 HB5 HL5 c60 c61 hg6
      generalize ext w5 y = w6 at *
      go_wp2_with (go_at_call 84; refine HL6.out.mono ?_; rintro e w7 ⟨rfl, z, rfl⟩)
      go_ret2
      exact ⟨0, 2, 0, rfl, HR.out, HS6.out.up (ext_below _ _), grown_below (HB6.out.trans ((ext_below w6 _).mono HB6.out.size)) _⟩
end Go.Cm

/- The walks of the further functions of the two bit readers. Conditions: the reader is there. -/
namespace Go.Cm
open Go.RowKit Go.Proofs

theorem BoxS.stay {w w' : World} {g p : Nat} {s : ByteArray} {row : Option Nat} (h : BoxS w g s p) (hg : w.grownBy w' row) (hne : row ≠ some g) : BoxS w' g s p := ⟨h.own.keep hg (.inr (fun e => hne e.symm))⟩
theorem BoxT.stay {w w' : World} {g p : Nat} {s : ByteArray} {row : Option Nat} (h : BoxT w g s p) (hg : w.grownBy w' row) (hne : row ≠ some g) : BoxT w' g s p := ⟨h.own.keep hg (.inr (fun e => hne e.symm))⟩
/-- what the next n bits are, what is wrong, and where the reader stands then -/
def bitsA (N T p n : Nat) : Nat × Nat × Nat := if p + n ≤ T then (valN N p n, 0, p + n) else (0, 2, p)
def RetBits (Bx : World → Nat → ByteArray → Nat → Prop) (s : ByteArray) (p n g : Nat) (w : World) (e : Ending) (w' : World) : Prop :=
  e = .returned (.tuple #[.int .i64 ((bitsA (numS s) (8 * s.size) p n).1 : Nat), .int .i64 ((bitsA (numS s) (8 * s.size) p n).2.1 : Nat)]) ∧ Bx w' g s (bitsA (numS s) (8 * s.size) p n).2.2 ∧ w.grownBy w' (some g)
theorem bitsA_le {N T p n : Nat} (hp : p ≤ T) : (bitsA N T p n).2.2 ≤ T ∧ p ≤ (bitsA N T p n).2.2 := by
  unfold bitsA; split
  · exact ⟨by assumption, by simp⟩
  · exact ⟨hp, Nat.le_refl _⟩
theorem skipShort {w : World} {g : Nat} {s : ByteArray} {p : Nat} (h : BoxS w g s p) (hs : s.size ≤ 4294967296) (n : Nat) (hn : n ≤ 32) (hp : p ≤ 8 * s.size) (hlt : 8 * s.size < p + n) : Calls Tryz.prog 93 #[.pointer (some ⟨g, 0, none⟩), .int .i64 n] w fun e w' => e = .returned (.int .i64 2) ∧ ∃ x, w' = ext w x := by
  have hd : decide (0 ≤ (n : Int) ∧ (n : Int) ≤ 32) = true := by simp; omega
  have HB := Lib.hid h
  have HL := Lib.hid (leftS h hs (by omega))
  have hl : (n : Int) > ((8 * s.size - p : Nat) : Int) := by omega
  obtain ⟨q, hq⟩ : ∃ q : Nat, q = 8 * s.size - p := ⟨_, rfl⟩
  rw [← hq] at HL hl
  clear hq h
  go_enter Tryz.func93, Tryz.ntmps93
  go_wp2_with (first | (go_at_call 39; refine (thereS HB.out).mono ?_; rintro e w' ⟨rfl, hw'⟩; rw [hw']; clear hw') | (go_at_call 100; refine (many _ _).mono ?_; rintro e w' ⟨rfl, hw'⟩; rw [hw', hd]; clear hw') | (go_at_call 84; refine HL.out.mono ?_; rintro e w' ⟨rfl, x, rfl⟩))
  go_ret
  exact ⟨rfl, (ex_ext (by repeat (first | exact Below.refl _ _ | assumption | refine b_drewN ?_ _ | refine Below.drew ?_ | refine b_ext' ?_ _ | refine b_alloc' ?_ _)))⟩
theorem bitsS {w : World} {g : Nat} {s : ByteArray} {p : Nat} (h : BoxS w g s p) (hs : s.size ≤ 4294967296) (n : Nat) (hn : n ≤ 32) (hp : p ≤ 8 * s.size) :
    Calls Tryz.prog 76 #[.pointer (some ⟨g, 0, none⟩), .int .i64 n] w (RetBits BoxS s p n g w) := by
  have HPK := Lib.hid (peekS h hs hp n hn)
  have HB := Lib.hid h
  unfold RetBits bitsA
  by_cases hl : p + n ≤ 8 * s.size
  · rw [if_pos hl]
    have HSK := Lib.hid (fun x => skipS (h.up (ext_below w x)) hs n hn hl)
    generalize valN (numS s) p n = v at *
    go_enter Tryz.func76, Tryz.ntmps76
    go_wp2_with (first | (go_at_call 92; (with_reducible refine HPK.out.mono ?_); rintro e w' ⟨rfl, x, rfl⟩) | (go_at_call 93; (with_reducible refine (HSK.out x).mono ?_); rintro e w2 ⟨rfl, hq1, hq2⟩; have HQ1 := Lib.hid hq1; have HQ2 := Lib.hid hq2; clear hq1 hq2))
    go_ret2
    exact ⟨rfl, HQ1.out, grown_trans (grown_below (ext_below w _) _) HQ2.out⟩
  · rw [if_neg hl]
    have HSK := Lib.hid (fun x => skipShort (h.up (ext_below w x)) hs n hn hp (by omega))
    generalize valN (numS s) p n = v at *
    go_enter Tryz.func76, Tryz.ntmps76
    go_wp2_with (first | (go_at_call 92; (with_reducible refine HPK.out.mono ?_); rintro e w' ⟨rfl, x, rfl⟩) | (go_at_call 93; (with_reducible refine (HSK.out x).mono ?_); rintro e w2 ⟨rfl, y, rfl⟩))
    go_ret2
    exact ⟨rfl, (HB.out.up (ext_below _ _)).up (ext_below _ _), grown_trans (grown_below (ext_below w _) _) (grown_below (ext_below _ _) _)⟩
/-- on to a byte -/
def alignN (p : Nat) : Nat := (p + 7) / 8 * 8
theorem alignS {w : World} {g : Nat} {s : ByteArray} {p : Nat} (h : BoxS w g s p) (hs : s.size ≤ 4294967296) (hp : p ≤ 8 * s.size) :
    Calls Tryz.prog 77 #[.pointer (some ⟨g, 0, none⟩)] w fun e w' => e = .returned (.tuple #[]) ∧ BoxS w' g s (alignN p) ∧ w.grownBy w' (some g) := by
  have HB := Lib.hid h
  have c2 := h.c2
  have f2 := h.free 2
  have hg := h.lt
  have e1 : ((p : Int) + 8 - 1) / 8 * 8 = ((alignN p : Nat) : Int) := by unfold alignN; omega
  have HST := Lib.hid (h.set2 (alignN p))
  have hap : alignN p ≤ 68719476736 := by unfold alignN; omega
  generalize alignN p = q at *
  clear h
  go_enter Tryz.func77, Tryz.ntmps77
  go_wp2_with (go_at_call 39; refine (thereS HB.out).mono ?_; rintro e w' ⟨rfl, hw'⟩; rw [hw']; clear hw')
  go_end0
  exact ⟨rfl, HST.out⟩
theorem valN_step (N q m : Nat) : valN N q (m + 1) = 2 * valN N (q + 1) m + (N.testBit q).toNat := by
  unfold valN
  rw [Nat.pow_succ, Nat.mul_comm (2 ^ m) 2, Nat.mod_mul, Nat.div_div_eq_div_mul, ← Nat.pow_succ, Nat.testBit_eq_decide_div_mod_eq]
  by_cases h : N / 2 ^ q % 2 = 1
  · simp [h]; omega
  · have : N / 2 ^ q % 2 = 0 := by omega
    simp [this]
theorem peekT {w : World} {g : Nat} {s : ByteArray} {p : Nat} (h : BoxT w g s p) (hs : s.size ≤ 4294967296) (hp : p ≤ 8 * s.size) (n : Nat) (hn : n ≤ 32) :
    Calls Tryz.prog 46 #[.pointer (some ⟨g, 0, none⟩), .int .i64 n] w fun e w' => e = .returned (.int .i64 (valN (numS s) p n : Nat)) ∧ ∃ x, w' = ext w x := by
  have hn1 : ¬ (n : Int) < 0 := by omega
  have hn2 : ¬ (n : Int) > 32 := by omega
  have HB := Lib.hid h
  have HBIT : Hid (∀ (i : Nat) (W : World), Calls Tryz.prog 50 #[.string s, .int .i64 i] W fun e w' => e = .returned (.int .i64 (((numS s).testBit i).toNat : Nat)) ∧ ∃ x, w' = ext W x) := Lib.hid (fun i W => bitT s i hs W)
  have hV0 : valN (numS s) (p + n) 0 = 0 := by unfold valN; rw [Nat.pow_zero, Nat.mod_one]
  have HV0 := Lib.hid hV0
  clear h hV0
  go_enter Tryz.func46, Tryz.ntmps46
  go_wp2
  go_loopg [5, 6] n (fun gk out i wr => ∃ j : Nat, j ≤ n ∧ i = .int .i64 ((j : Int) - 1) ∧ out = .int .i64 (valN (numS s) (p + j) (n - j) : Nat) ∧ (∃ x, wr = ext w x) ∧ gk = j)
  case atStart => exact ⟨n, Nat.le_refl _, rfl, by rw [Nat.sub_self, HV0.out]; rfl, refl_ext _, rfl⟩
  case round =>
    obtain ⟨j, hj, rfl, rfl, ⟨x, rfl⟩, hgk⟩ := hrel
    have HB3 := Lib.hid (HB.out.up (ext_below w x))
    have hc0 := HB3.out.c0
    have hc1 := HB3.out.c1
    have hgx := HB3.out.lt
    cases j with
    | zero =>
      have hc : ¬ ((0 : Nat) : Int) - 1 ≥ 0 := by omega
      clear HV0
      go_wp2
      go_ret
      exact ⟨rfl, (ex_ext (by repeat (first | exact Below.refl _ _ | assumption | refine b_drewN ?_ _ | refine Below.drew ?_ | refine b_ext' ?_ _ | refine b_alloc' ?_ _)))⟩
    | succ i =>
      have hc : ((i + 1 : Nat) : Int) - 1 ≥ 0 := by omega
      have hi1 : ((i + 1 : Nat) : Int) - 1 = (i : Int) := by omega
      have heq : (p : Int) + (i : Int) = ((p + i : Nat) : Int) := by omega
      have hTS := valN_step (numS s) (p + i) (n - (i + 1))
      rw [show n - (i + 1) + 1 = n - i by omega, show p + i + 1 = p + (i + 1) by omega] at hTS
      have HTS := Lib.hid hTS
      have HBT := Lib.hid (HBIT.out (p + i))
      have hqb : p + i ≤ 68719476736 := by omega
      have htl : valN (numS s) (p + (i + 1)) (n - (i + 1)) < 2 ^ (n - (i + 1)) := Nat.mod_lt _ (Nat.two_pow_pos _)
      have htl2 : 2 ^ (n - (i + 1)) ≤ 2 ^ 32 := Nat.pow_le_pow_right (by decide) (by omega)
      have hbb : ((numS s).testBit (p + i)).toNat ≤ 1 := by cases (numS s).testBit (p + i) <;> simp
      clear hTS
      rw [hi1] at hc ⊢
      generalize ((numS s).testBit (p + i)).toNat = y at *
      have HPQ : Hid (∃ q, q = p + i) := Lib.hid ⟨_, rfl⟩
      obtain ⟨q, hpq⟩ := HPQ.out
      rw [← hpq] at heq HTS HBT hqb
      have HPQ := Lib.hid hpq
      clear hpq
      generalize valN (numS s) (p + (i + 1)) (n - (i + 1)) = c at *
      have hc15 : c ≤ 4294967296 := by omega
      clear htl htl2
      go_wp2
      refine wp_region_ext (by kernel_rfl) (by kernel_rfl) ?_
      repeat (go_big_quiet_step ((go_at_call 50; exact calls_in (HBT.out _))))
      refine wpQuiet_nil ?_
      rintro w' ⟨x2, rfl⟩
      have hti : 2 * (c : Int) + (y : Int) = ((valN (numS s) q (n - i) : Nat) : Int) := by rw [HTS.out]; norm_cast
      go_wp2
      go_roundg i
      case measure => omega
      case rel => exact ⟨i, by omega, rfl, by rw [hti, HPQ.out], ex_ext (b_ext' (ext_below w x) x2), rfl⟩
theorem skipT {w : World} {g : Nat} {s : ByteArray} {p : Nat} (h : BoxT w g s p) (hs : s.size ≤ 4294967296) (n : Nat) (hn : n ≤ 32) (hp : p + n ≤ 8 * s.size) : Calls Tryz.prog 47 #[.pointer (some ⟨g, 0, none⟩), .int .i64 n] w fun e w' => e = .returned (.int .i64 0) ∧ BoxT w' g s (p + n) ∧ w.grownBy w' (some g) := by
  have hn1 : ¬ (n : Int) < 0 := by omega
  have hn2 : ¬ (n : Int) > 32 := by omega
  have HB := Lib.hid h
  have HL := Lib.hid (leftT h hs (by omega))
  have hl : ¬ (n : Int) > ((8 * s.size - p : Nat) : Int) := by omega
  obtain ⟨q, hq⟩ : ∃ q : Nat, q = 8 * s.size - p := ⟨_, rfl⟩
  rw [← hq] at HL hl
  clear hq h
  go_enter Tryz.func47, Tryz.ntmps47
  go_wp2_with (go_at_call 49; refine HL.out.mono ?_; rintro e w' ⟨rfl, x, rfl⟩; have HB2 := Lib.hid (HB.out.up (ext_below w x)); have c1 := HB2.out.c1; have f1 := HB2.out.free 1; have hg := HB2.out.lt; have HST := Lib.hid (HB2.out.set1 (p + n)))
  go_ret
  have hst := HST.out
  rw [Int.natCast_add] at hst
  exact ⟨rfl, hst.1, grown_trans (grown_below (ext_below w _) _) hst.2⟩
theorem skipTShort {w : World} {g : Nat} {s : ByteArray} {p : Nat} (h : BoxT w g s p) (hs : s.size ≤ 4294967296) (n : Nat) (hn : n ≤ 32) (hp : p ≤ 8 * s.size) (hlt : 8 * s.size < p + n) : Calls Tryz.prog 47 #[.pointer (some ⟨g, 0, none⟩), .int .i64 n] w fun e w' => e = .returned (.int .i64 2) ∧ ∃ x, w' = ext w x := by
  have hn1 : ¬ (n : Int) < 0 := by omega
  have hn2 : ¬ (n : Int) > 32 := by omega
  have HB := Lib.hid h
  have HL := Lib.hid (leftT h hs (by omega))
  have hl : (n : Int) > ((8 * s.size - p : Nat) : Int) := by omega
  obtain ⟨q, hq⟩ : ∃ q : Nat, q = 8 * s.size - p := ⟨_, rfl⟩
  rw [← hq] at HL hl
  clear hq h
  go_enter Tryz.func47, Tryz.ntmps47
  go_wp2_with (go_at_call 49; refine HL.out.mono ?_; rintro e w' ⟨rfl, x, rfl⟩)
  go_ret
  exact ⟨rfl, (ex_ext (by repeat (first | exact Below.refl _ _ | assumption | refine b_drewN ?_ _ | refine Below.drew ?_ | refine b_ext' ?_ _ | refine b_alloc' ?_ _)))⟩
theorem bitsT {w : World} {g : Nat} {s : ByteArray} {p : Nat} (h : BoxT w g s p) (hs : s.size ≤ 4294967296) (n : Nat) (hn : n ≤ 32) (hp : p ≤ 8 * s.size) :
    Calls Tryz.prog 31 #[.pointer (some ⟨g, 0, none⟩), .int .i64 n] w (RetBits BoxT s p n g w) := by
  have HPK := Lib.hid (peekT h hs hp n hn)
  have HB := Lib.hid h
  unfold RetBits bitsA
  by_cases hl : p + n ≤ 8 * s.size
  · rw [if_pos hl]
    have HSK := Lib.hid (fun x => skipT (h.up (ext_below w x)) hs n hn hl)
    generalize valN (numS s) p n = v at *
    go_enter Tryz.func31, Tryz.ntmps31
    go_wp2_with (first | (go_at_call 46; (with_reducible refine HPK.out.mono ?_); rintro e w' ⟨rfl, x, rfl⟩) | (go_at_call 47; (with_reducible refine (HSK.out x).mono ?_); rintro e w2 ⟨rfl, hq1, hq2⟩; have HQ1 := Lib.hid hq1; have HQ2 := Lib.hid hq2; clear hq1 hq2))
    go_ret2
    exact ⟨rfl, HQ1.out, grown_trans (grown_below (ext_below w _) _) HQ2.out⟩
  · rw [if_neg hl]
    have HSK := Lib.hid (fun x => skipTShort (h.up (ext_below w x)) hs n hn hp (by omega))
    generalize valN (numS s) p n = v at *
    go_enter Tryz.func31, Tryz.ntmps31
    go_wp2_with (first | (go_at_call 46; (with_reducible refine HPK.out.mono ?_); rintro e w' ⟨rfl, x, rfl⟩) | (go_at_call 47; (with_reducible refine (HSK.out x).mono ?_); rintro e w2 ⟨rfl, y, rfl⟩))
    go_ret2
    exact ⟨rfl, (HB.out.up (ext_below _ _)).up (ext_below _ _), grown_trans (grown_below (ext_below w _) _) (grown_below (ext_below _ _) _)⟩
theorem alignT {w : World} {g : Nat} {s : ByteArray} {p : Nat} (h : BoxT w g s p) (hs : s.size ≤ 4294967296) (hp : p ≤ 8 * s.size) :
    Calls Tryz.prog 67 #[.pointer (some ⟨g, 0, none⟩)] w fun e w' => e = .returned (.tuple #[]) ∧ BoxT w' g s (alignN p) ∧ w.grownBy w' (some g) := by
  have HB := Lib.hid h
  clear h
  go_enter Tryz.func67, Tryz.ntmps67
  go_wp2
  go_loopg [] (alignN p - p) (fun gk wr => ∃ q : Nat, p ≤ q ∧ q ≤ alignN p ∧ BoxT wr g s q ∧ w.grownBy wr (some g) ∧ gk = alignN p - q)
  case atStart => exact ⟨p, Nat.le_refl _, by unfold alignN; omega, HB.out, grown_refl _ _, rfl⟩
  case round =>
    obtain ⟨q, hq1, hq2, hb, hgr, hgk⟩ := hrel
    have HB2 := Lib.hid hb
    have HGR := Lib.hid hgr
    have c1 := hb.c1
    have f1 := hb.free 1
    have hg := hb.lt
    have HST := Lib.hid (hb.set1 (q + 1))
    clear hb hgr
    have hqb : q ≤ 68719476736 := by unfold alignN at hq2; omega
    have hqi : (q : Int) % 8 = ((q % 8 : Nat) : Int) := by omega
    have HPT : Hid (∀ m, q % 8 = m → (m = 0 → q = alignN p) ∧ (m ≠ 0 → q + 1 ≤ alignN p)) := Lib.hid (fun m hm => by unfold alignN at hq2 ⊢; omega)
    have HQ1 := Lib.hid hq1
    have HQ2 := Lib.hid hq2
    have HGK := Lib.hid hgk
    have hm8 : q % 8 < 8 := Nat.mod_lt _ (by decide)
    clear hq1 hq2 hgk
    generalize hm : q % 8 = m at *
    have HP := HPT.out m rfl
    clear hm HPT
    have HP := Lib.hid HP
    cases m with
    | zero =>
      go_wp2
      go_end0
      have hqe := HP.out.1 trivial
      have hb := HB2.out
      rw [hqe] at hb
      exact ⟨rfl, hb, HGR.out⟩
    | succ m =>
      have hcc : ¬ ((m + 1 : Nat) : Int) = 0 := by omega
      go_wp2
      have hp2 := HP.out.2 (Nat.succ_ne_zero m)
      have hgk := HGK.out
      have hq1 := HQ1.out
      have hst := HST.out
      rw [Int.natCast_add] at hst
      go_roundg (alignN p - (q + 1))
      case measure => omega
      case rel => exact ⟨q + 1, by omega, hp2, hst.1, grown_trans HGR.out hst.2, rfl⟩
end Go.Cm

/- Whether all bits must be a code: the program's Fits and the document's. Conditions: the argument reads as a list. -/
namespace Go.Cm
open Go.RowKit Go.Proofs

/-- how many symbols have a code -/
def withN (L : List Nat) : Nat := L.length - L.count 0
/-- what is wrong of lengths, if all bits must be a code -/
def fitsE (l : List Int) (lone : Bool) : Nat :=
  if errI l ≠ 0 then errI l
  else if kraftN (l.map Int.toNat) = 32768 then 0
  else if lone = true ∧ (withN (l.map Int.toNat) = 0 ∨ (withN (l.map Int.toNat) = 1 ∧ (l.map Int.toNat).count 1 = 1)) then 0
  else if withN (l.map Int.toNat) = 0 then 17 else 8
theorem withN_cons (x : Nat) (L : List Nat) : withN (x :: L) = withN L + if x = 0 then 0 else 1 := by
  unfold withN
  have := List.count_le_length (a := 0) (l := L)
  rw [List.length_cons, List.count_cons]
  by_cases h : x = 0
  · subst h; simp
  · rw [if_neg h, if_neg (by simpa using h)]; omega
theorem withN_zero {L : List Nat} (h : withN L = 0) : kraftN L = 0 ∧ L.count 1 = 0 := by
  induction L with
  | nil => exact ⟨rfl, rfl⟩
  | cons x L ih =>
    rw [withN_cons] at h
    by_cases hx : x = 0
    · subst hx
      have := ih (by simpa using h)
      unfold kraftN at this ⊢
      simp only [List.map_cons, List.sum_cons, List.count_cons]
      exact ⟨by rw [this.1]; rfl, by rw [this.2]; rfl⟩
    · rw [if_neg hx] at h; omega
/-- one code alone has one bit just where the sum is half -/
theorem lone_iff {L : List Nat} (h15 : ∀ x ∈ L, x ≤ 15) (h : withN L = 1) : L.count 1 = 1 ↔ kraftN L = 16384 := by
  induction L with
  | nil => simp [withN] at h
  | cons x L ih =>
    rw [withN_cons] at h
    by_cases hx : x = 0
    · subst hx
      have := ih (fun y hy => h15 y (by simp [hy])) (by simpa using h)
      unfold kraftN at this ⊢
      simp only [List.map_cons, List.sum_cons, List.count_cons]
      simpa [kw] using this
    · rw [if_neg hx] at h
      obtain ⟨h1, h2⟩ := withN_zero (show withN L = 0 by omega)
      have hx15 := h15 x (by simp)
      unfold kraftN at h1 ⊢
      simp only [List.map_cons, List.sum_cons, List.count_cons]
      rw [h1, h2]
      by_cases hx1 : x = 1
      · subst hx1; decide
      · have e1 : (x == 1) = false := by simpa using hx1
        have e2 : kw x ≤ 2 ^ 13 := by
          unfold kw; rw [if_pos (by omega)]
          exact Nat.pow_le_pow_right (by decide) (by omega)
        rw [e1]
        have e3 : (2 : Nat) ^ 13 = 8192 := by decide
        constructor
        · intro hc; simp at hc
        · intro hk; omega
theorem withN_take_succ (L : List Nat) (k : Nat) (hk : k < L.length) : withN (L.take (k + 1)) = withN (L.take k) + if L.getD k 0 = 0 then 0 else 1 := by
  have h1 := count_take_succ L k 0 hk
  have h2 := List.count_le_length (a := 0) (l := L.take k)
  unfold withN
  rw [h1]
  simp only [List.length_take] at h2 ⊢
  by_cases h : L.getD k 0 = 0
  · rw [if_pos h, if_pos h]; omega
  · rw [if_neg h, if_neg h]; omega
theorem withN_take_le (L : List Nat) (k : Nat) : withN (L.take k) ≤ k := by
  unfold withN
  simp only [List.length_take]; omega
theorem fitsE_bad {l : List Int} (lone : Bool) (h : errI l ≠ 0) : fitsE l lone = errI l := by unfold fitsE; rw [if_pos h]
theorem fitsE_nls {L : List Nat} (lone : Bool) (h : errI (nls L) = 0) : fitsE (nls L) lone = if kraftN L = 32768 then 0 else if lone = true ∧ (withN L = 0 ∨ (withN L = 1 ∧ L.count 1 = 1)) then 0 else if withN L = 0 then 17 else 8 := by
  unfold fitsE; rw [if_neg (by omega), nls_toNat]
theorem errI_list {l : List Int} (h : errI l = 0) : ∃ L, l = nls L ∧ L.length ≤ 320 ∧ (∀ x ∈ L, x ≤ 15) ∧ kraftN L ≤ 32768 := by
  have hw : wrongI l = 0 := by
    apply Classical.byContradiction; intro hn
    rw [errI_of_wrong hn] at h; exact hn h
  obtain ⟨hlen, hall⟩ := wrongI_zero hw
  obtain ⟨L, rfl, h15⟩ := nls_of hall
  rw [nls_length] at hlen
  rw [errI_nls hlen h15] at h
  refine ⟨L, rfl, hlen, h15, ?_⟩
  apply Classical.byContradiction; intro hn
  rw [if_pos (by omega)] at h; cases h
theorem fitsR (v : Value) (l : List Int) (lone : Bool) (w : World) (h : IntsAt w v l) : Calls Tryz.prog 70 #[v, .bool lone] w fun e w' => e = .returned (.int .i64 (fitsE l lone : Nat)) ∧ Below w.heap.size w w' := by
  have HCO := Lib.hid (codesR v l w h)
  unfold RetCodes at HCO
  by_cases hz : errI l = 0
  · obtain ⟨L, rfl, hlen, h15, -⟩ := errI_list hz
    rw [fitsE_nls lone hz]
    rw [hz] at HCO
    have HKR : Hid (∀ w', Below w.heap.size w w' → Calls Tryz.prog 74 #[v] w' fun e w'' => e = .returned (.int .i64 (kraftN L : Nat)) ∧ ∃ x, w'' = ext w' x) := Lib.hid (fun w' hb => kraftR v L w' (h.up hb) hlen h15)
    have HLI := Lib.hid (lone_iff h15)
    obtain ⟨oa, cap, b, off, rfl, hd, hc⟩ := h.open
    rw [nls_length] at hd hc HKR HCO ⊢
    have hix := index_any (P := Tryz.prog) 35 3 Tryz.underlying35 (by kernel_rfl) hd
    have hm := hd.len
    have hbk := hd.hblk
    have HC : Hid (∀ W, Below w.heap.size w W → ∀ k, k < L.length → W.cell? ⟨b, off + k, none⟩ = some (.int .i64 (L.getD k 0 : Nat))) := Lib.hid (fun W hB k hk => by rw [hB.cell (hbk (by omega)), hc k hk, nls_getD])
    clear hc h hd hz h15
    obtain ⟨K, hK⟩ : ∃ K, K = kraftN L := ⟨_, rfl⟩
    rw [← hK] at HKR HLI ⊢
    clear hK
    by_cases hk : K = 32768
    · rw [if_pos hk]
      have hk2 : ((K : Int) == 32768) = true := by rw [hk]; rfl
      clear hk
      go_enter Tryz.func70, Tryz.ntmps70
      go_wp2_with (first | (go_at_call 48; refine HCO.out.mono ?_; rintro e w1 ⟨v1, rfl, -, hb1⟩; have HB1 := Lib.hid hb1; clear hb1) | (go_at_call 74; refine (HKR.out _ HB1.out).mono ?_; rintro e w2 ⟨rfl, y, rfl⟩))
      go_ret
      exact ⟨rfl, below_up HB1.out (ext_below _ _)⟩
    · rw [if_neg hk]
      have hk2 : ((K : Int) == 32768) = false := by simp; omega
      clear hk
      obtain ⟨r, hr⟩ : ∃ r : Nat, r = if lone = true ∧ (withN L = 0 ∨ (withN L = 1 ∧ L.count 1 = 1)) then 0 else if withN L = 0 then 17 else 8 := ⟨_, rfl⟩
      rw [← hr]
      have HR := Lib.hid hr
      clear hr
      go_enter Tryz.func70, Tryz.ntmps70
      go_wp2_with (first | (go_at_call 48; refine HCO.out.mono ?_; rintro e w1 ⟨v1, rfl, -, hb1⟩; have HB1 := Lib.hid hb1; clear hb1) | (go_at_call 74; refine (HKR.out _ HB1.out).mono ?_; rintro e w2 ⟨rfl, y, rfl⟩))
      have hb2 := below_up HB1.out (ext_below w1 y)
      have HC2 := Lib.hid (HC.out _ hb2)
      have HB2 := Lib.hid hb2
      clear hb2 HCO HKR HC HB1
      go_loop [8, 9] (fun c i => ∃ k : Nat, k ≤ L.length ∧ i = .int .i64 k ∧ c = .int .i64 (withN (L.take k) : Nat)) (fun _ i => L.length - (intOf i).toNat)
      case atStart => exact ⟨0, Nat.zero_le _, rfl, rfl⟩
      case round =>
        obtain ⟨k, hk, rfl, rfl⟩ := hrel
        by_cases hlt : k < L.length
        · have hcell := HC2.out k hlt
          have hbb := hbk (by omega)
          have HS := Lib.hid (withN_take_succ L k hlt)
          have hle := withN_take_le L k
          generalize withN (L.take k) = s at *
          generalize L.getD k 0 = z at *
          by_cases h0 : z = 0
          · have hy : ¬ (z : Int) > 0 := by omega
            rw [if_pos h0] at HS
            clear h0
            go_wp2
            go_round
            case rel => exact ⟨k + 1, by omega, by go_num, by rw [HS.out, Nat.add_zero]⟩
            case measure => simp [intOf]; omega
          · have hy : (z : Int) > 0 := by omega
            rw [if_neg h0] at HS
            clear h0
            go_wp2
            go_round
            case rel => exact ⟨k + 1, by omega, by go_num, by rw [HS.out]; go_num⟩
            case measure => simp [intOf]; omega
        · obtain rfl : k = L.length := by omega
          rw [List.take_length]
          clear hix hbk HC2 hlt hk
          generalize hm0 : withN L = m at *
          have hml : m ≤ 320 := by rw [← hm0]; unfold withN; omega
          clear hm0
          have hQ : (L.count 1 = 1 ↔ K = 16384) ∨ m ≠ 1 := by
            by_cases h1 : m = 1
            · exact .inl (HLI.out h1)
            · exact .inr h1
          generalize L.count 1 = ct at *
          clear HLI
          cases lone with
          | false =>
            by_cases h0 : m = 0
            · have hr : r = 17 := by rw [HR.out, h0]; rfl
              subst h0 hr
              clear HR hQ
              go_wp2
              go_ret
              exact ⟨rfl, HB2.out⟩
            · have hr : r = 8 := by rw [HR.out, if_neg (by simp), if_neg h0]
              have h0' : ((m : Int) == 0) = false := by simp; omega
              subst hr
              clear hQ h0 HR
              go_wp2
              go_ret
              exact ⟨rfl, HB2.out⟩
          | true =>
            by_cases h0 : m = 0
            · have hr : r = 0 := by rw [HR.out, if_pos ⟨rfl, .inl h0⟩]
              subst h0 hr
              clear hQ HR
              go_wp2
              go_ret
              exact ⟨rfl, HB2.out⟩
            · have h0' : ((m : Int) == 0) = false := by simp; omega
              by_cases h1 : m = 1
              · have hQ' := hQ.resolve_right (by simpa using h1)
                by_cases hK : K = 16384
                · have hr : r = 0 := by rw [HR.out, if_pos ⟨rfl, .inr ⟨h1, hQ'.2 hK⟩⟩]
                  clear hQ' HR hQ h0 h0'
                  subst hK hr h1
                  go_wp2
                  go_ret
                  exact ⟨rfl, HB2.out⟩
                · have hr : r = 8 := by rw [HR.out, if_neg (fun hh => hK (hQ'.1 (hh.2.resolve_left h0).2)), if_neg h0]
                  have hK' : ((K : Int) == 16384) = false := by simp; omega
                  clear hQ' hK HR hQ h0 h0'
                  subst hr h1
                  go_wp2
                  go_ret
                  exact ⟨rfl, HB2.out⟩
              · have hr : r = 8 := by rw [HR.out, if_neg (fun hh => hh.2.elim h0 (fun q => h1 q.1)), if_neg h0]
                have h1' : ((m : Int) == 1) = false := by simp; omega
                clear hQ h0 h1 HR
                subst hr
                go_wp2
                go_ret
                exact ⟨rfl, HB2.out⟩
  · rw [fitsE_bad lone hz]
    have hne : ((errI l : Nat) : Int) ≠ 0 := by omega
    generalize errI l = er at *
    obtain ⟨oa, cap, b, off, rfl, hd, hc⟩ := h.open
    clear hc hd h
    go_enter Tryz.func70, Tryz.ntmps70
    go_wp2_with (go_at_call 48; refine HCO.out.mono ?_; rintro e w1 ⟨v1, rfl, -, hb1⟩; have HB1 := Lib.hid hb1; clear hb1)
    go_ret
    exact ⟨rfl, HB1.out⟩
set_option maxRecDepth 100000 in
set_option maxHeartbeats 1000000 in
theorem fitsP (v : Value) (l : List Int) (lone : Bool) (w : World) (h : IntsAt w v l) : Calls Tryz.prog 80 #[v, .bool lone] w fun e w' => e = .returned (.int .i64 (fitsE l lone : Nat)) ∧ Below w.heap.size w w' := by
  have HCO := Lib.hid (codesP v l w h)
  unfold RetCodes at HCO
  by_cases hz : errI l = 0
  · have hw0 : wrongI l = 0 := by
      apply Classical.byContradiction; intro hn
      rw [errI_of_wrong hn] at hz; exact hn hz
    have HWR : Hid (∀ w', Below w.heap.size w w' → Calls Tryz.prog 88 #[v] w' (RetCounts l w')) := Lib.hid (fun w' hb => countsP v l w' (h.up hb))
    have hzz := zero_16
    obtain ⟨Z, hZ⟩ : ∃ Z, Z = z16 := ⟨_, rfl⟩
    rw [← hZ] at hzz
    have HZ := Lib.hid hZ
    clear hZ
    obtain ⟨L, rfl, hlen, h15, -⟩ := errI_list hz
    rw [fitsE_nls lone hz]
    rw [hz] at HCO
    unfold RetCounts at HWR
    rw [hw0] at HWR
    have HTP := Lib.hid (totalP L hlen)
    rw [totN_all L h15] at HTP
    have HCE : Hid (∀ c : List Nat, c.length = 16 → c = cntsN L → ∀ n, n < 16 → (nls c).getD n 0 = (L.count n : Nat)) := Lib.hid (fun c _ hc n hn => by rw [hc, nls_getD, cntsN_getD L n hn])
    have HBF : Hid (∀ w0 w1 w2 y : World, Below w.heap.size w w0 → Below w0.heap.size w0 w1 → (w1.alloc (.cells Z 133)).grownBy w2 (some w1.heap.size) → Below w.heap.size w (ext w2 y)) := Lib.hid (fun w0 w1 w2 y h0 h1 hg => by
      have h01 := below_up h0 h1
      have h02 : Below w.heap.size w w2 := (h01.trans ((below_alloc w1 _).mono h01.size)).grown hg (Nat.le_trans h01.size (by simp)) (fun k hk => by cases hk; exact h01.size)
      exact h02.trans ((ext_below w2 y).mono h02.size))
    obtain ⟨oa, cap, b, off, rfl, hd, hc⟩ := h.open
    rw [nls_length] at hd hc HWR HCO ⊢
    rw [nls_toNat] at HWR
    have hm := hd.len
    clear hc h hd hz h15 hw0
    have hwl : (L.length : Int) - (L.count 0 : Int) = ((withN L : Nat) : Int) := by
      have := List.count_le_length (a := 0) (l := L)
      unfold withN; omega
    have hml : withN L ≤ 320 := by unfold withN; omega
    have hc0l : L.count 0 ≤ 320 := Nat.le_trans List.count_le_length hlen
    have hc1l : L.count 1 ≤ 320 := Nat.le_trans List.count_le_length hlen
    generalize kraftN L = K at *
    generalize withN L = m at *
    obtain ⟨ct, hct⟩ : ∃ ct, ct = L.count 1 := ⟨_, rfl⟩
    rw [← hct] at hc1l ⊢
    have HCT := Lib.hid hct.symm
    clear hct
    by_cases hk : K = 32768
    · rw [if_pos hk]
      subst hk
      go_enter Tryz.func80, Tryz.ntmps80
      go_wp2_with (first | (go_at_call 63; refine HCO.out.mono ?_; rintro e w0 ⟨v1, rfl, -, hb0⟩; have HB0 := Lib.hid hb0; clear hb0) | (go_at_call 88; refine (HWR.out _ HB0.out).mono ?_; rintro e w1 ⟨c, hc1, rfl, hc2, hc3⟩; have HC1 := Lib.hid hc1; have HC2 := Lib.hid hc2; have HC3 := Lib.hid hc3; clear hc1 hc2 hc3) | (refine store_box rfl 133 16 _ _ rfl w1.heap.size rfl (nls (List.replicate 16 0)) (nls c) rfl (by rw [nls_length]; exact HC1.out) (by kernel_rfl) (box16 w1 Z HZ.out) ?_; intro w2 hb2 hg2; (obtain ⟨A, hgA, hsA, hA⟩ := hb2.open; have HAE := Lib.hid (congrArg List.toArray hA); have HB2 := Lib.hid hb2; have HG2 := Lib.hid hg2; have HT2 := Lib.hid (HTP.out); rw [← HC2.out (by trivial), ← HAE.out] at HT2; have hcl0 := hb2.cell (c := 0) (by omega); rw [HCE.out c HC1.out (HC2.out (by trivial)) 0 (by omega)] at hcl0; have hlt2 := hb2.lt; clear hb2 hg2 hA)) | (refine load_box rfl 133 16 _ rfl w1.heap.size rfl A hsA hgA _ Tryz.underlying133 rfl (by kernel_rfl) ?_) | (go_at_call 89; refine (HT2.out _).mono ?_; rintro e w3 ⟨rfl, y, rfl⟩; have hcl1 := (HB2.out.up (ext_below w2 y)).cell (c := 1) (by omega); rw [HCE.out c HC1.out (HC2.out (by trivial)) 1 (by omega)] at hcl1; have hlt3 := (HB2.out.up (ext_below w2 y)).lt))
      go_ret
      exact ⟨rfl, HBF.out w0 w1 w2 y HB0.out HC3.out HG2.out⟩
    · rw [if_neg hk]
      have hk2 : ((K : Int) == 32768) = false := by simp; omega
      clear hk
      cases lone with
      | false =>
        rw [if_neg (show ¬ (false = true ∧ (m = 0 ∨ (m = 1 ∧ ct = 1))) by simp)]
        by_cases h0 : m = 0
        · subst h0
          go_enter Tryz.func80, Tryz.ntmps80
          go_wp2_with (first | (go_at_call 63; refine HCO.out.mono ?_; rintro e w0 ⟨v1, rfl, -, hb0⟩; have HB0 := Lib.hid hb0; clear hb0) | (go_at_call 88; refine (HWR.out _ HB0.out).mono ?_; rintro e w1 ⟨c, hc1, rfl, hc2, hc3⟩; have HC1 := Lib.hid hc1; have HC2 := Lib.hid hc2; have HC3 := Lib.hid hc3; clear hc1 hc2 hc3) | (refine store_box rfl 133 16 _ _ rfl w1.heap.size rfl (nls (List.replicate 16 0)) (nls c) rfl (by rw [nls_length]; exact HC1.out) (by kernel_rfl) (box16 w1 Z HZ.out) ?_; intro w2 hb2 hg2; (obtain ⟨A, hgA, hsA, hA⟩ := hb2.open; have HAE := Lib.hid (congrArg List.toArray hA); have HB2 := Lib.hid hb2; have HG2 := Lib.hid hg2; have HT2 := Lib.hid (HTP.out); rw [← HC2.out (by trivial), ← HAE.out] at HT2; have hcl0 := hb2.cell (c := 0) (by omega); rw [HCE.out c HC1.out (HC2.out (by trivial)) 0 (by omega)] at hcl0; have hlt2 := hb2.lt; clear hb2 hg2 hA)) | (refine load_box rfl 133 16 _ rfl w1.heap.size rfl A hsA hgA _ Tryz.underlying133 rfl (by kernel_rfl) ?_) | (go_at_call 89; refine (HT2.out _).mono ?_; rintro e w3 ⟨rfl, y, rfl⟩; have hcl1 := (HB2.out.up (ext_below w2 y)).cell (c := 1) (by omega); rw [HCE.out c HC1.out (HC2.out (by trivial)) 1 (by omega), HCT.out] at hcl1; have hlt3 := (HB2.out.up (ext_below w2 y)).lt))
          go_ret
          exact ⟨rfl, HBF.out w0 w1 w2 y HB0.out HC3.out HG2.out⟩
        · rw [if_neg h0]
          have h0' : ((m : Int) == 0) = false := by simp; omega
          clear h0
          go_enter Tryz.func80, Tryz.ntmps80
          go_wp2_with (first | (go_at_call 63; refine HCO.out.mono ?_; rintro e w0 ⟨v1, rfl, -, hb0⟩; have HB0 := Lib.hid hb0; clear hb0) | (go_at_call 88; refine (HWR.out _ HB0.out).mono ?_; rintro e w1 ⟨c, hc1, rfl, hc2, hc3⟩; have HC1 := Lib.hid hc1; have HC2 := Lib.hid hc2; have HC3 := Lib.hid hc3; clear hc1 hc2 hc3) | (refine store_box rfl 133 16 _ _ rfl w1.heap.size rfl (nls (List.replicate 16 0)) (nls c) rfl (by rw [nls_length]; exact HC1.out) (by kernel_rfl) (box16 w1 Z HZ.out) ?_; intro w2 hb2 hg2; (obtain ⟨A, hgA, hsA, hA⟩ := hb2.open; have HAE := Lib.hid (congrArg List.toArray hA); have HB2 := Lib.hid hb2; have HG2 := Lib.hid hg2; have HT2 := Lib.hid (HTP.out); rw [← HC2.out (by trivial), ← HAE.out] at HT2; have hcl0 := hb2.cell (c := 0) (by omega); rw [HCE.out c HC1.out (HC2.out (by trivial)) 0 (by omega)] at hcl0; have hlt2 := hb2.lt; clear hb2 hg2 hA)) | (refine load_box rfl 133 16 _ rfl w1.heap.size rfl A hsA hgA _ Tryz.underlying133 rfl (by kernel_rfl) ?_) | (go_at_call 89; refine (HT2.out _).mono ?_; rintro e w3 ⟨rfl, y, rfl⟩; have hcl1 := (HB2.out.up (ext_below w2 y)).cell (c := 1) (by omega); rw [HCE.out c HC1.out (HC2.out (by trivial)) 1 (by omega), HCT.out] at hcl1; have hlt3 := (HB2.out.up (ext_below w2 y)).lt))
          go_ret
          exact ⟨rfl, HBF.out w0 w1 w2 y HB0.out HC3.out HG2.out⟩
      | true =>
        by_cases h0 : m = 0
        · subst h0
          rw [if_pos (show true = true ∧ (0 = 0 ∨ (0 = 1 ∧ ct = 1)) from ⟨rfl, .inl rfl⟩)]
          go_enter Tryz.func80, Tryz.ntmps80
          go_wp2_with (first | (go_at_call 63; refine HCO.out.mono ?_; rintro e w0 ⟨v1, rfl, -, hb0⟩; have HB0 := Lib.hid hb0; clear hb0) | (go_at_call 88; refine (HWR.out _ HB0.out).mono ?_; rintro e w1 ⟨c, hc1, rfl, hc2, hc3⟩; have HC1 := Lib.hid hc1; have HC2 := Lib.hid hc2; have HC3 := Lib.hid hc3; clear hc1 hc2 hc3) | (refine store_box rfl 133 16 _ _ rfl w1.heap.size rfl (nls (List.replicate 16 0)) (nls c) rfl (by rw [nls_length]; exact HC1.out) (by kernel_rfl) (box16 w1 Z HZ.out) ?_; intro w2 hb2 hg2; (obtain ⟨A, hgA, hsA, hA⟩ := hb2.open; have HAE := Lib.hid (congrArg List.toArray hA); have HB2 := Lib.hid hb2; have HG2 := Lib.hid hg2; have HT2 := Lib.hid (HTP.out); rw [← HC2.out (by trivial), ← HAE.out] at HT2; have hcl0 := hb2.cell (c := 0) (by omega); rw [HCE.out c HC1.out (HC2.out (by trivial)) 0 (by omega)] at hcl0; have hlt2 := hb2.lt; clear hb2 hg2 hA)) | (refine load_box rfl 133 16 _ rfl w1.heap.size rfl A hsA hgA _ Tryz.underlying133 rfl (by kernel_rfl) ?_) | (go_at_call 89; refine (HT2.out _).mono ?_; rintro e w3 ⟨rfl, y, rfl⟩; have hcl1 := (HB2.out.up (ext_below w2 y)).cell (c := 1) (by omega); rw [HCE.out c HC1.out (HC2.out (by trivial)) 1 (by omega), HCT.out] at hcl1; have hlt3 := (HB2.out.up (ext_below w2 y)).lt))
          go_ret
          exact ⟨rfl, HBF.out w0 w1 w2 y HB0.out HC3.out HG2.out⟩
        · have h0' : ((m : Int) == 0) = false := by simp; omega
          by_cases h1 : m = 1
          · subst h1
            clear h0 h0'
            by_cases hc : ct = 1
            · subst hc
              rw [if_pos (show true = true ∧ ((1:Nat) = 0 ∨ (1 = 1 ∧ 1 = 1)) from ⟨rfl, .inr ⟨rfl, rfl⟩⟩)]
              go_enter Tryz.func80, Tryz.ntmps80
              go_wp2_with (first | (go_at_call 63; refine HCO.out.mono ?_; rintro e w0 ⟨v1, rfl, -, hb0⟩; have HB0 := Lib.hid hb0; clear hb0) | (go_at_call 88; refine (HWR.out _ HB0.out).mono ?_; rintro e w1 ⟨c, hc1, rfl, hc2, hc3⟩; have HC1 := Lib.hid hc1; have HC2 := Lib.hid hc2; have HC3 := Lib.hid hc3; clear hc1 hc2 hc3) | (refine store_box rfl 133 16 _ _ rfl w1.heap.size rfl (nls (List.replicate 16 0)) (nls c) rfl (by rw [nls_length]; exact HC1.out) (by kernel_rfl) (box16 w1 Z HZ.out) ?_; intro w2 hb2 hg2; (obtain ⟨A, hgA, hsA, hA⟩ := hb2.open; have HAE := Lib.hid (congrArg List.toArray hA); have HB2 := Lib.hid hb2; have HG2 := Lib.hid hg2; have HT2 := Lib.hid (HTP.out); rw [← HC2.out (by trivial), ← HAE.out] at HT2; have hcl0 := hb2.cell (c := 0) (by omega); rw [HCE.out c HC1.out (HC2.out (by trivial)) 0 (by omega)] at hcl0; have hlt2 := hb2.lt; clear hb2 hg2 hA)) | (refine load_box rfl 133 16 _ rfl w1.heap.size rfl A hsA hgA _ Tryz.underlying133 rfl (by kernel_rfl) ?_) | (go_at_call 89; refine (HT2.out _).mono ?_; rintro e w3 ⟨rfl, y, rfl⟩; have hcl1 := (HB2.out.up (ext_below w2 y)).cell (c := 1) (by omega); rw [HCE.out c HC1.out (HC2.out (by trivial)) 1 (by omega), HCT.out] at hcl1; have hlt3 := (HB2.out.up (ext_below w2 y)).lt))
              go_ret
              exact ⟨rfl, HBF.out w0 w1 w2 y HB0.out HC3.out HG2.out⟩
            · rw [if_neg (show ¬ (true = true ∧ ((1:Nat) = 0 ∨ (1 = 1 ∧ ct = 1))) from fun hh => hc (hh.2.resolve_left (by simp)).2), if_neg (by simp)]
              have hc' : ((ct : Int) == 1) = false := by simp; omega
              clear hc
              go_enter Tryz.func80, Tryz.ntmps80
              go_wp2_with (first | (go_at_call 63; refine HCO.out.mono ?_; rintro e w0 ⟨v1, rfl, -, hb0⟩; have HB0 := Lib.hid hb0; clear hb0) | (go_at_call 88; refine (HWR.out _ HB0.out).mono ?_; rintro e w1 ⟨c, hc1, rfl, hc2, hc3⟩; have HC1 := Lib.hid hc1; have HC2 := Lib.hid hc2; have HC3 := Lib.hid hc3; clear hc1 hc2 hc3) | (refine store_box rfl 133 16 _ _ rfl w1.heap.size rfl (nls (List.replicate 16 0)) (nls c) rfl (by rw [nls_length]; exact HC1.out) (by kernel_rfl) (box16 w1 Z HZ.out) ?_; intro w2 hb2 hg2; (obtain ⟨A, hgA, hsA, hA⟩ := hb2.open; have HAE := Lib.hid (congrArg List.toArray hA); have HB2 := Lib.hid hb2; have HG2 := Lib.hid hg2; have HT2 := Lib.hid (HTP.out); rw [← HC2.out (by trivial), ← HAE.out] at HT2; have hcl0 := hb2.cell (c := 0) (by omega); rw [HCE.out c HC1.out (HC2.out (by trivial)) 0 (by omega)] at hcl0; have hlt2 := hb2.lt; clear hb2 hg2 hA)) | (refine load_box rfl 133 16 _ rfl w1.heap.size rfl A hsA hgA _ Tryz.underlying133 rfl (by kernel_rfl) ?_) | (go_at_call 89; refine (HT2.out _).mono ?_; rintro e w3 ⟨rfl, y, rfl⟩; have hcl1 := (HB2.out.up (ext_below w2 y)).cell (c := 1) (by omega); rw [HCE.out c HC1.out (HC2.out (by trivial)) 1 (by omega), HCT.out] at hcl1; have hlt3 := (HB2.out.up (ext_below w2 y)).lt))
              go_ret
              exact ⟨rfl, HBF.out w0 w1 w2 y HB0.out HC3.out HG2.out⟩
          · rw [if_neg (show ¬ (true = true ∧ (m = 0 ∨ (m = 1 ∧ ct = 1))) from fun hh => hh.2.elim h0 (fun q => h1 q.1)), if_neg h0]
            have h1' : ((m : Int) == 1) = false := by simp; omega
            clear h0 h1
            go_enter Tryz.func80, Tryz.ntmps80
            go_wp2_with (first | (go_at_call 63; refine HCO.out.mono ?_; rintro e w0 ⟨v1, rfl, -, hb0⟩; have HB0 := Lib.hid hb0; clear hb0) | (go_at_call 88; refine (HWR.out _ HB0.out).mono ?_; rintro e w1 ⟨c, hc1, rfl, hc2, hc3⟩; have HC1 := Lib.hid hc1; have HC2 := Lib.hid hc2; have HC3 := Lib.hid hc3; clear hc1 hc2 hc3) | (refine store_box rfl 133 16 _ _ rfl w1.heap.size rfl (nls (List.replicate 16 0)) (nls c) rfl (by rw [nls_length]; exact HC1.out) (by kernel_rfl) (box16 w1 Z HZ.out) ?_; intro w2 hb2 hg2; (obtain ⟨A, hgA, hsA, hA⟩ := hb2.open; have HAE := Lib.hid (congrArg List.toArray hA); have HB2 := Lib.hid hb2; have HG2 := Lib.hid hg2; have HT2 := Lib.hid (HTP.out); rw [← HC2.out (by trivial), ← HAE.out] at HT2; have hcl0 := hb2.cell (c := 0) (by omega); rw [HCE.out c HC1.out (HC2.out (by trivial)) 0 (by omega)] at hcl0; have hlt2 := hb2.lt; clear hb2 hg2 hA)) | (refine load_box rfl 133 16 _ rfl w1.heap.size rfl A hsA hgA _ Tryz.underlying133 rfl (by kernel_rfl) ?_) | (go_at_call 89; refine (HT2.out _).mono ?_; rintro e w3 ⟨rfl, y, rfl⟩; have hcl1 := (HB2.out.up (ext_below w2 y)).cell (c := 1) (by omega); rw [HCE.out c HC1.out (HC2.out (by trivial)) 1 (by omega), HCT.out] at hcl1; have hlt3 := (HB2.out.up (ext_below w2 y)).lt))
            go_ret
            exact ⟨rfl, HBF.out w0 w1 w2 y HB0.out HC3.out HG2.out⟩
  · rw [fitsE_bad lone hz]
    have hne : ((errI l : Nat) : Int) ≠ 0 := by omega
    generalize errI l = er at *
    obtain ⟨oa, cap, b, off, rfl, hd, hc⟩ := h.open
    clear hc hd h
    go_enter Tryz.func80, Tryz.ntmps80
    go_wp2_with (go_at_call 63; refine HCO.out.mono ?_; rintro e w1 ⟨v1, rfl, -, hb1⟩; have HB1 := Lib.hid hb1; clear hb1)
    go_ret
    exact ⟨rfl, HB1.out⟩
end Go.Cm

/- The reading of a block's head, in plain Lean, as steps over an error and a place. Conditions: none. -/
namespace Go.Cm

structure HeadN where
  fin : Bool
  kind : Nat
  size : Nat
  lits : List Nat
  dists : List Nat
def HeadN.zero : HeadN := ⟨false, 0, 0, [], []⟩
/-- the next bits, if nothing is wrong -/
def xb (N T n : Nat) (st : Nat × Nat) : Nat × (Nat × Nat) := if st.1 = 0 then ((bitsA N T st.2 n).1, (bitsA N T st.2 n).2.1, (bitsA N T st.2 n).2.2) else (0, st)
/-- what is wrong, if nothing was yet -/
def xf (e : Nat) (st : Nat × Nat) : Nat × Nat := if st.1 = 0 then (e, st.2) else st
def fixL : List Nat := List.replicate 144 8 ++ List.replicate 112 9 ++ List.replicate 24 7 ++ List.replicate 8 8
def fixD : List Nat := List.replicate 32 5
def ordN : List Nat := [16, 17, 18, 0, 8, 7, 9, 6, 10, 5, 11, 4, 12, 3, 13, 2, 14, 1, 15]
/-- the symbol that the next bits are -/
noncomputable def readF (L : List Nat) (V left : Nat) : Nat × Nat × Nat := @dite _ (∃ a, a < L.length ∧ hitN L V a ∧ L.getD a 0 ≤ left) (Classical.propDecidable _) (fun h => (Classical.choose h, 0, L.getD (Classical.choose h) 0)) (fun _ => (0, (if left < 15 then 2 else 9), 0))
theorem readF_ok (L : List Nat) (V left : Nat) : ReadN L V left (readF L V left).1 (readF L V left).2.1 (readF L V left).2.2 := by
  unfold readF
  split
  · rename_i h
    have := Classical.choose_spec h
    exact .inl ⟨this.1, this.2.1, this.2.2, rfl, rfl⟩
  · rename_i h
    refine .inr ⟨fun i hi hh => ?_, rfl, rfl, rfl⟩
    apply Classical.byContradiction; intro hn
    exact h ⟨i, hi, hh, by omega⟩
theorem readF_of {L : List Nat} {V left a e d : Nat} (h : ReadN L V left a e d) : readF L V left = (a, e, d) := by
  obtain ⟨h1, h2, h3⟩ := read_one (readF_ok L V left) h
  exact Prod.ext h1 (Prod.ext h2 h3)
/-- how often a symbol repeats, and what -/
def repN (N T sym : Nat) (l : List Nat) (st : Nat × Nat) : Nat × Nat × (Nat × Nat) :=
  if sym = 18 then (11 + (xb N T 7 st).1, 0, (xb N T 7 st).2)
  else if sym = 16 then (if l = [] then (0, 0, xf 4 st) else (3 + (xb N T 2 st).1, l.getD (l.length - 1) 0, (xb N T 2 st).2))
  else (3 + (xb N T 3 st).1, 0, (xb N T 3 st).2)
/-- lengths by a code of lengths -/
noncomputable def rowN (N T : Nat) (code : List Nat) (n : Nat) : Nat → List Nat → Nat × Nat → List Nat × (Nat × Nat)
  | 0, l, st => (l, st)
  | f + 1, l, st =>
    if st.1 = 0 ∧ l.length < n then
      if (readF code (N / 2 ^ st.2) (T - st.2)).2.1 ≠ 0 then (l, (readF code (N / 2 ^ st.2) (T - st.2)).2.1, st.2)
      else if (readF code (N / 2 ^ st.2) (T - st.2)).1 < 16 then rowN N T code n f (l ++ [(readF code (N / 2 ^ st.2) (T - st.2)).1]) (0, st.2 + (readF code (N / 2 ^ st.2) (T - st.2)).2.2)
      else if n < l.length + (repN N T (readF code (N / 2 ^ st.2) (T - st.2)).1 l (0, st.2 + (readF code (N / 2 ^ st.2) (T - st.2)).2.2)).1 then
        ([], xf 3 (repN N T (readF code (N / 2 ^ st.2) (T - st.2)).1 l (0, st.2 + (readF code (N / 2 ^ st.2) (T - st.2)).2.2)).2.2)
      else rowN N T code n f (l ++ List.replicate (repN N T (readF code (N / 2 ^ st.2) (T - st.2)).1 l (0, st.2 + (readF code (N / 2 ^ st.2) (T - st.2)).2.2)).1 (repN N T (readF code (N / 2 ^ st.2) (T - st.2)).1 l (0, st.2 + (readF code (N / 2 ^ st.2) (T - st.2)).2.2)).2.1)
        (repN N T (readF code (N / 2 ^ st.2) (T - st.2)).1 l (0, st.2 + (readF code (N / 2 ^ st.2) (T - st.2)).2.2)).2.2
    else (l, st)
def fits2 (lits dists : List Nat) : Nat := if lits.getD 256 0 = 0 then 21 else if fitsE (nls lits) true ≠ 0 then fitsE (nls lits) true else fitsE (nls dists) true
/-- the code of lengths: the first k of its lengths read -/
def codeK (N T c : Nat) : Nat → List Nat × (Nat × Nat) → List Nat × (Nat × Nat)
  | 0, x => x
  | k + 1, x => if k < 4 + c ∧ (codeK N T c k x).2.1 = 0 then ((codeK N T c k x).1.set (ordN.getD k 0) (xb N T 3 (codeK N T c k x).2).1, (xb N T 3 (codeK N T c k x).2).2) else codeK N T c k x
end Go.Cm

/- Whether both codes of a block fit: the program's fits and the document's. Conditions: the arguments read as lists, the first is long enough. -/
namespace Go.Cm
open Go.RowKit Go.Proofs

theorem fits2P (u v : Value) (lits dists : List Nat) (w : World) (hu : IntsAt w u (nls lits)) (hv : IntsAt w v (nls dists)) (h256 : 256 < lits.length) :
    Calls Tryz.prog 82 #[u, v] w fun e w' => e = .returned (.int .i64 (fits2 lits dists : Nat)) ∧ Below w.heap.size w w' := by
  have HF1 := Lib.hid (fitsP u (nls lits) true w hu)
  have HF2 := Lib.hid (fun W (hb : Below w.heap.size w W) => fitsP v (nls dists) true W (hv.up hb))
  obtain ⟨oa, cap, b, off, hvv, hd, hc⟩ := hu.open
  rw [nls_length] at hvv hd hc
  subst hvv
  have hcell := hc 256 h256
  rw [nls_getD] at hcell
  have hix := index_any (P := Tryz.prog) 35 3 Tryz.underlying35 (by kernel_rfl) hd
  have hm := hd.len
  have hbb := hd.hblk (by omega)
  have hli : (256 : Int) < (lits.length : Int) := by omega
  obtain ⟨r, hr⟩ : ∃ r, r = fits2 lits dists := ⟨_, rfl⟩
  rw [← hr]
  unfold fits2 at hr
  have HR := Lib.hid hr
  clear hc hd hu hv hr
  generalize fitsE (nls lits) true = e1 at *
  generalize fitsE (nls dists) true = e2 at *
  generalize lits.getD 256 0 = y at *
  generalize lits.length = m at *
  by_cases hy : y = 0
  · have h21 : r = 21 := by rw [HR.out]; exact if_pos hy
    subst h21 hy
    clear HR
    go_enter Tryz.func82, Tryz.ntmps82
    go_wp2
    go_ret
    exact ⟨rfl, Below.refl _ _⟩
  · have hy' : ((y : Int) == 0) = false := by simp; omega
    by_cases he : e1 = 0
    · have h2 : r = e2 := by rw [HR.out, if_neg hy]; exact if_neg (by omega)
      subst h2 he
      clear HR hy
      go_enter Tryz.func82, Tryz.ntmps82
      go_wp2_with (first | (go_at_call 80; (with_reducible refine HF1.out.mono ?_); rintro e w1 ⟨rfl, hb1⟩; (have HB1 := Lib.hid hb1; have HFF := Lib.hid (HF2.out w1 HB1.out); clear hb1)) | (go_at_call 80; (with_reducible refine HFF.out.mono ?_); rintro e w2 ⟨rfl, hb2⟩; (have HB2 := Lib.hid (below_up HB1.out hb2); clear hb2)))
      go_ret
      exact ⟨rfl, HB2.out⟩
    · have h2 : r = e1 := by rw [HR.out, if_neg hy]; exact if_pos he
      have he' : ((e1 : Int) != 0) = true := by simpa using he
      subst h2
      clear HR hy he
      go_enter Tryz.func82, Tryz.ntmps82
      go_wp2_with (go_at_call 80; (with_reducible refine HF1.out.mono ?_); rintro e w1 ⟨rfl, hb1⟩; (have HB1 := Lib.hid hb1; clear hb1))
      go_ret
      exact ⟨rfl, HB1.out⟩
theorem fits2R (u v : Value) (lits dists : List Nat) (w : World) (hu : IntsAt w u (nls lits)) (hv : IntsAt w v (nls dists)) (h256 : 256 < lits.length) :
    Calls Tryz.prog 72 #[u, v] w fun e w' => e = .returned (.int .i64 (fits2 lits dists : Nat)) ∧ Below w.heap.size w w' := by
  have HF1 := Lib.hid (fitsR u (nls lits) true w hu)
  have HF2 := Lib.hid (fun W (hb : Below w.heap.size w W) => fitsR v (nls dists) true W (hv.up hb))
  obtain ⟨oa, cap, b, off, hvv, hd, hc⟩ := hu.open
  rw [nls_length] at hvv hd hc
  subst hvv
  have hcell := hc 256 h256
  rw [nls_getD] at hcell
  have hix := index_any (P := Tryz.prog) 35 3 Tryz.underlying35 (by kernel_rfl) hd
  have hm := hd.len
  have hbb := hd.hblk (by omega)
  have hli : (256 : Int) < (lits.length : Int) := by omega
  obtain ⟨r, hr⟩ : ∃ r, r = fits2 lits dists := ⟨_, rfl⟩
  rw [← hr]
  unfold fits2 at hr
  have HR := Lib.hid hr
  clear hc hd hu hv hr
  generalize fitsE (nls lits) true = e1 at *
  generalize fitsE (nls dists) true = e2 at *
  generalize lits.getD 256 0 = y at *
  generalize lits.length = m at *
  by_cases hy : y = 0
  · have h21 : r = 21 := by rw [HR.out]; exact if_pos hy
    subst h21 hy
    clear HR
    go_enter Tryz.func72, Tryz.ntmps72
    go_wp2
    go_ret
    exact ⟨rfl, Below.refl _ _⟩
  · have hy' : ((y : Int) == 0) = false := by simp; omega
    by_cases he : e1 = 0
    · have h2 : r = e2 := by rw [HR.out, if_neg hy]; exact if_neg (by omega)
      subst h2 he
      clear HR hy
      go_enter Tryz.func72, Tryz.ntmps72
      go_wp2_with (first | (go_at_call 70; (with_reducible refine HF1.out.mono ?_); rintro e w1 ⟨rfl, hb1⟩; (have HB1 := Lib.hid hb1; have HFF := Lib.hid (HF2.out w1 HB1.out); clear hb1)) | (go_at_call 70; (with_reducible refine HFF.out.mono ?_); rintro e w2 ⟨rfl, hb2⟩; (have HB2 := Lib.hid (below_up HB1.out hb2); clear hb2)))
      go_ret
      exact ⟨rfl, HB2.out⟩
    · have h2 : r = e1 := by rw [HR.out, if_neg hy]; exact if_pos he
      have he' : ((e1 : Int) != 0) = true := by simpa using he
      subst h2
      clear HR hy he
      go_enter Tryz.func72, Tryz.ntmps72
      go_wp2_with (go_at_call 70; (with_reducible refine HF1.out.mono ?_); rintro e w1 ⟨rfl, hb1⟩; (have HB1 := Lib.hid hb1; clear hb1))
      go_ret
      exact ⟨rfl, HB1.out⟩
end Go.Cm
