/- Texts of this claim, joined: walks of small functions and plain facts about them. Conditions: as each says. -/
import Derived.Test.YtmophmeiemfikaaGreatBI
import Derived.Test.YtmophmeiemfikaaGreatRows
import Derived.WalkKit
import Derived.WalkSpells
import Derived.WalkLawsBesides
import Derived.Deep.QuietTactic
import Derived.BigQuiet
import Derived.Lib.Hide
import Derived.Laws.BitsLemmas
import Derived.Deep.LoopGhost
import Derived.Laws.Small
import Derived.Deep.DeepCutAuto
import Derived.Deep.CutBlock
import Derived.Deep.CutRange
/- The lengths of a fixed block, the program's and the document's. Conditions: none. -/
namespace Go.Cm
open Go.RowKit Go.Proofs

theorem growB (v : Value) (l : List Nat) (n x : Nat) (w : World) (B : Nat) (h : Own w B 3 v (ints (nls l))) (hB : B ≤ w.heap.size) (hl : l.length + n ≤ 1000000) :
    Calls Tryz.prog 78 #[v, .int .i64 n, .int .i64 x] w fun e w' => ∃ v', e = .returned v' ∧ Own w' B 3 v' (ints (nls (l ++ List.replicate n x))) ∧ Below B w w' :=
  (growP v l n x w B h hB hl).mono fun _ _ ⟨v', h1, h2, h3, _⟩ => ⟨v', h1, h2, h3.below (Below.refl _ _) hB (fun k hk => (h.lt k hk).1)⟩
theorem timesB (v : Value) (l : List Nat) (n x : Nat) (w : World) (B : Nat) (h : Own w B 3 v (ints (nls l))) (hB : B ≤ w.heap.size) (hl : l.length + n ≤ 1000000) :
    Calls Tryz.prog 68 #[v, .int .i64 n, .int .i64 x] w fun e w' => ∃ v', e = .returned v' ∧ Own w' B 3 v' (ints (nls (l ++ List.replicate n x))) ∧ Below B w w' :=
  (timesR v l n x w h.sl hl).mono fun _ _ ⟨v', h1, h2, h3⟩ => ⟨v', h1, h2.mono hB, h3.mono hB⟩
def RetRow (l : List Nat) (w : World) (e : Ending) (w' : World) : Prop := ∃ v, e = .returned v ∧ Own w' w.heap.size 3 v (ints (nls l)) ∧ Below w.heap.size w w'
theorem fixL_eq : (((([] ++ List.replicate 144 8) ++ List.replicate 112 9) ++ List.replicate 24 7) ++ List.replicate 8 8 : List Nat) = fixL := by unfold fixL; rw [List.nil_append]
theorem fixD_eq : ([] ++ List.replicate 32 5 : List Nat) = fixD := by unfold fixD; rw [List.nil_append]
theorem fixLP (w : World) : Calls Tryz.prog 57 #[] w (RetRow fixL w) := by
  obtain ⟨a1, h1⟩ : ∃ a, a = ([] ++ List.replicate 144 8 : List Nat) := ⟨_, rfl⟩
  obtain ⟨a2, h2⟩ : ∃ a, a = a1 ++ List.replicate 112 9 := ⟨_, rfl⟩
  obtain ⟨a3, h3⟩ : ∃ a, a = a2 ++ List.replicate 24 7 := ⟨_, rfl⟩
  have h4 : fixL = a3 ++ List.replicate 8 8 := by rw [h3, h2, h1]; exact fixL_eq.symm
  have l1 : a1.length = 144 := by rw [h1]; simp
  have l2 : a2.length = 256 := by rw [h2]; simp [l1]
  have l3 : a3.length = 280 := by rw [h3]; simp [l2]
  have C1 : Hid (Calls Tryz.prog 78 #[.slice none 0 0, .int .i64 144, .int .i64 8] w fun e w' => ∃ v', e = .returned v' ∧ Own w' w.heap.size 3 v' (ints (nls a1)) ∧ Below w.heap.size w w') := Lib.hid (by rw [h1]; exact growB (.slice none 0 0) [] 144 8 w w.heap.size (Own.nil _ _ _) (Nat.le_refl _) (by simp))
  have C2 : Hid (∀ (W : World) (v : Value), Own W w.heap.size 3 v (ints (nls a1)) → w.heap.size ≤ W.heap.size → Calls Tryz.prog 78 #[v, .int .i64 112, .int .i64 9] W fun e w' => ∃ v', e = .returned v' ∧ Own w' w.heap.size 3 v' (ints (nls a2)) ∧ Below w.heap.size W w') := Lib.hid (fun W v h hB => by rw [h2]; exact growB v a1 112 9 W w.heap.size h hB (by omega))
  have C3 : Hid (∀ (W : World) (v : Value), Own W w.heap.size 3 v (ints (nls a2)) → w.heap.size ≤ W.heap.size → Calls Tryz.prog 78 #[v, .int .i64 24, .int .i64 7] W fun e w' => ∃ v', e = .returned v' ∧ Own w' w.heap.size 3 v' (ints (nls a3)) ∧ Below w.heap.size W w') := Lib.hid (fun W v h hB => by rw [h3]; exact growB v a2 24 7 W w.heap.size h hB (by omega))
  have C4 : Hid (∀ (W : World) (v : Value), Own W w.heap.size 3 v (ints (nls a3)) → w.heap.size ≤ W.heap.size → Calls Tryz.prog 78 #[v, .int .i64 8, .int .i64 8] W fun e w' => ∃ v', e = .returned v' ∧ Own w' w.heap.size 3 v' (ints (nls fixL)) ∧ Below w.heap.size W w') := Lib.hid (fun W v h hB => by rw [h4]; exact growB v a3 8 8 W w.heap.size h hB (by omega))
  clear h1 h2 h3 h4 l1 l2 l3
  generalize fixL = L at *
  go_enter Tryz.func57, Tryz.ntmps57
  go_wp2_with (go_at_call 78; first | ((with_reducible refine C1.out.mono ?_); rintro e w1 ⟨v1, rfl, ho, hb⟩; (have HO1 := Lib.hid ho; have HB1 := Lib.hid hb; clear ho hb C1)) | ((with_reducible refine (C2.out _ _ HO1.out HB1.out.size).mono ?_); rintro e w2 ⟨v2, rfl, ho, hb⟩; (have HO2 := Lib.hid ho; have HB2 := Lib.hid (HB1.out.trans hb); clear ho hb C2)) | ((with_reducible refine (C3.out _ _ HO2.out HB2.out.size).mono ?_); rintro e w3 ⟨v3, rfl, ho, hb⟩; (have HO3 := Lib.hid ho; have HB3 := Lib.hid (HB2.out.trans hb); clear ho hb C3)) | ((with_reducible refine (C4.out _ _ HO3.out HB3.out.size).mono ?_); rintro e w4 ⟨v4, rfl, ho, hb⟩; (have HO4 := Lib.hid ho; have HB4 := Lib.hid (HB3.out.trans hb); clear ho hb C4)))
  go_ret
  exact ⟨_, rfl, HO4.out, HB4.out⟩
theorem fixDP (w : World) : Calls Tryz.prog 58 #[] w (RetRow fixD w) := by
  have C1 : Hid (Calls Tryz.prog 78 #[.slice none 0 0, .int .i64 32, .int .i64 5] w fun e w' => ∃ v', e = .returned v' ∧ Own w' w.heap.size 3 v' (ints (nls fixD)) ∧ Below w.heap.size w w') := Lib.hid (by rw [← fixD_eq]; exact growB (.slice none 0 0) [] 32 5 w w.heap.size (Own.nil _ _ _) (Nat.le_refl _) (by simp))
  generalize fixD = L at *
  go_enter Tryz.func58, Tryz.ntmps58
  go_wp2_with (go_at_call 78; (with_reducible refine C1.out.mono ?_); rintro e w1 ⟨v1, rfl, ho, hb⟩; (have HO1 := Lib.hid ho; have HB1 := Lib.hid hb; clear ho hb C1))
  go_ret
  exact ⟨_, rfl, HO1.out, HB1.out⟩
theorem fixLR (w : World) : Calls Tryz.prog 43 #[] w (RetRow fixL w) := by
  obtain ⟨a1, h1⟩ : ∃ a, a = ([] ++ List.replicate 144 8 : List Nat) := ⟨_, rfl⟩
  obtain ⟨a2, h2⟩ : ∃ a, a = a1 ++ List.replicate 112 9 := ⟨_, rfl⟩
  obtain ⟨a3, h3⟩ : ∃ a, a = a2 ++ List.replicate 24 7 := ⟨_, rfl⟩
  have h4 : fixL = a3 ++ List.replicate 8 8 := by rw [h3, h2, h1]; exact fixL_eq.symm
  have l1 : a1.length = 144 := by rw [h1]; simp
  have l2 : a2.length = 256 := by rw [h2]; simp [l1]
  have l3 : a3.length = 280 := by rw [h3]; simp [l2]
  have C1 : Hid (Calls Tryz.prog 68 #[.slice none 0 0, .int .i64 144, .int .i64 8] w fun e w' => ∃ v', e = .returned v' ∧ Own w' w.heap.size 3 v' (ints (nls a1)) ∧ Below w.heap.size w w') := Lib.hid (by rw [h1]; exact timesB (.slice none 0 0) [] 144 8 w w.heap.size (Own.nil _ _ _) (Nat.le_refl _) (by simp))
  have C2 : Hid (∀ (W : World) (v : Value), Own W w.heap.size 3 v (ints (nls a1)) → w.heap.size ≤ W.heap.size → Calls Tryz.prog 68 #[v, .int .i64 112, .int .i64 9] W fun e w' => ∃ v', e = .returned v' ∧ Own w' w.heap.size 3 v' (ints (nls a2)) ∧ Below w.heap.size W w') := Lib.hid (fun W v h hB => by rw [h2]; exact timesB v a1 112 9 W w.heap.size h hB (by omega))
  have C3 : Hid (∀ (W : World) (v : Value), Own W w.heap.size 3 v (ints (nls a2)) → w.heap.size ≤ W.heap.size → Calls Tryz.prog 68 #[v, .int .i64 24, .int .i64 7] W fun e w' => ∃ v', e = .returned v' ∧ Own w' w.heap.size 3 v' (ints (nls a3)) ∧ Below w.heap.size W w') := Lib.hid (fun W v h hB => by rw [h3]; exact timesB v a2 24 7 W w.heap.size h hB (by omega))
  have C4 : Hid (∀ (W : World) (v : Value), Own W w.heap.size 3 v (ints (nls a3)) → w.heap.size ≤ W.heap.size → Calls Tryz.prog 68 #[v, .int .i64 8, .int .i64 8] W fun e w' => ∃ v', e = .returned v' ∧ Own w' w.heap.size 3 v' (ints (nls fixL)) ∧ Below w.heap.size W w') := Lib.hid (fun W v h hB => by rw [h4]; exact timesB v a3 8 8 W w.heap.size h hB (by omega))
  clear h1 h2 h3 h4 l1 l2 l3
  generalize fixL = L at *
  go_enter Tryz.func43, Tryz.ntmps43
  go_wp2_with (go_at_call 68; first | ((with_reducible refine C1.out.mono ?_); rintro e w1 ⟨v1, rfl, ho, hb⟩; (have HO1 := Lib.hid ho; have HB1 := Lib.hid hb; clear ho hb C1)) | ((with_reducible refine (C2.out _ _ HO1.out HB1.out.size).mono ?_); rintro e w2 ⟨v2, rfl, ho, hb⟩; (have HO2 := Lib.hid ho; have HB2 := Lib.hid (HB1.out.trans hb); clear ho hb C2)) | ((with_reducible refine (C3.out _ _ HO2.out HB2.out.size).mono ?_); rintro e w3 ⟨v3, rfl, ho, hb⟩; (have HO3 := Lib.hid ho; have HB3 := Lib.hid (HB2.out.trans hb); clear ho hb C3)) | ((with_reducible refine (C4.out _ _ HO3.out HB3.out.size).mono ?_); rintro e w4 ⟨v4, rfl, ho, hb⟩; (have HO4 := Lib.hid ho; have HB4 := Lib.hid (HB3.out.trans hb); clear ho hb C4)))
  go_ret
  exact ⟨_, rfl, HO4.out, HB4.out⟩
theorem fixDR (w : World) : Calls Tryz.prog 44 #[] w (RetRow fixD w) := by
  have C1 : Hid (Calls Tryz.prog 68 #[.slice none 0 0, .int .i64 32, .int .i64 5] w fun e w' => ∃ v', e = .returned v' ∧ Own w' w.heap.size 3 v' (ints (nls fixD)) ∧ Below w.heap.size w w') := Lib.hid (by rw [← fixD_eq]; exact timesB (.slice none 0 0) [] 32 5 w w.heap.size (Own.nil _ _ _) (Nat.le_refl _) (by simp))
  generalize fixD = L at *
  go_enter Tryz.func44, Tryz.ntmps44
  go_wp2_with (go_at_call 68; (with_reducible refine C1.out.mono ?_); rintro e w1 ⟨v1, rfl, ho, hb⟩; (have HO1 := Lib.hid ho; have HB1 := Lib.hid hb; clear ho hb C1))
  go_ret
  exact ⟨_, rfl, HO1.out, HB1.out⟩
end Go.Cm

/- The walk of the program's Read of a head. Conditions: the reader is there. -/
namespace Go.Cm
open Go.RowKit Go.Proofs

set_option maxRecDepth 100000 in
theorem copyS2 {w : World} {g p : Nat} {s : ByteArray} (h : BoxS w g s p) : Calls Tryz.prog 26 #[.pointer (some ⟨g, 0, none⟩)] w fun e w' => ∃ b, e = .returned (.pointer (some ⟨b, 0, none⟩)) ∧ BoxS w' b s p ∧ w.heap.size ≤ b ∧ Below w.heap.size w w' := by
  have HB := Lib.hid h
  have hg := h.lt
  obtain ⟨A, hA, hAs, hAl⟩ := h.own.whole
  have hA1 : ∀ u ∈ A.toList, u.oneCell' = true := by
    rw [hAl]; intro u hu; simp at hu; rcases hu with rfl | rfl | rfl <;> rfl
  have hz := zero_rd
  obtain ⟨Z, hZ⟩ : ∃ Z, Z = zR := ⟨_, rfl⟩
  have hZl : Z.toList.length = 3 := by rw [hZ]; rfl
  have hZs : Z.size = 3 := by rw [hZ]; rfl
  rw [← hZ] at hz
  have HAL := Lib.hid hAl
  clear hZ hAl h
  have ho := own_lit w w.heap.size Z 86 (by omega) (Nat.le_refl _)
  rw [hZs] at ho
  have HO := Lib.hid ho
  clear ho
  go_enter Tryz.func26, Tryz.ntmps26
  go_wp2_with (first | (go_at_call 39; refine (thereS HB.out).mono ?_; rintro e w' ⟨rfl, hw'⟩; rw [hw']; clear hw') | (refine load_box rfl 86 3 _ rfl g rfl A hAs hA _ Tryz.underlying86 rfl (by kernel_rfl) ?_) | (refine wpList_store_agg rfl 86 _ _ rfl w.heap.size 86 w.heap.size 3 3 rfl A rfl (by rw [hAs]; kernel_rfl) Z.toList HO.out (by omega) hA1 ?_; intro w2 hown2 hg2; have HG2 := Lib.hid hg2; have HW2 := Lib.hid hown2; clear hown2 hg2))
  go_ret
  have hw2 := HW2.out
  rw [HAL.out, hAs, List.drop_of_length_le (by omega), List.append_nil] at hw2
  exact ⟨_, rfl, ⟨hw2⟩, Nat.le_refl _, (below_alloc w _).grown HG2.out (by simp) (fun k hk => by cases hk; exact Nat.le_refl _)⟩
theorem grown_new {w w1 w2 : World} {row : Option Nat} {r : Nat} (h : w.grownBy w1 row) (hg : w1.grownBy w2 (some r)) (hr : w.heap.size ≤ r) : w.grownBy w2 row :=
  ⟨hg.os.trans h.os, hg.tape.trans h.tape, hg.output.trans h.output, Nat.le_trans h.size hg.size, fun k hk hne => by rw [hg.block k (Nat.lt_of_lt_of_le hk h.size) (fun e => by injection e with e; omega), h.block k hk hne]⟩
def zH : Array Value := #[Value.bool false, .int .i64 0, .int .i64 0, .slice none 0 0, .slice none 0 0]
theorem zH_one : ∀ u ∈ zH.toList, u.oneCell' = true := by
  intro u hu
  simp [zH] at hu
  rcases hu with rfl | rfl | rfl <;> rfl
theorem head_one (f : Bool) (k z : Int) (o1 o2 : Option Addr) (n1 n2 c1 c2 : Nat) : ∀ u ∈ (#[Value.bool f, .int .i64 k, .int .i64 z, .slice o1 n1 c1, .slice o2 n2 c2] : Array Value).toList, u.oneCell' = true := by
  intro u hu
  simp at hu
  rcases hu with rfl | rfl | rfl | rfl | rfl <;> rfl
def RetHead (Bx : World → Nat → ByteArray → Nat → Prop) (s : ByteArray) (p g : Nat) (w : World) (e : Ending) (w' : World) : Prop :=
  ∃ v1 v2, e = .returned (.tuple #[.agg #[.bool (headF (numS s) (8 * s.size) p).1.fin, .int .i64 ((headF (numS s) (8 * s.size) p).1.kind : Nat), .int .i64 ((headF (numS s) (8 * s.size) p).1.size : Nat), v1, v2], .int .i64 ((headF (numS s) (8 * s.size) p).2.1 : Nat)]) ∧
    Own w' w.heap.size 3 v1 (ints (nls (headF (numS s) (8 * s.size) p).1.lits)) ∧ Own w' w.heap.size 3 v2 (ints (nls (headF (numS s) (8 * s.size) p).1.dists)) ∧ Bx w' g s (headF (numS s) (8 * s.size) p).2.2 ∧ w.grownBy w' (some g)
set_option maxRecDepth 100000 in
set_option maxHeartbeats 4000000 in
theorem readHP {w : World} {g p : Nat} {s : ByteArray} (h : BoxS w g s p) (hs : s.size ≤ 4294967296) (hp : p ≤ 8 * s.size) :
    Calls Tryz.prog 36 #[.pointer (some ⟨g, 0, none⟩)] w (RetHead BoxS s p g w) := by
  have HB := Lib.hid h
  have hg := h.lt
  have HCP := Lib.hid (fun (W : World) (hb : Below w.heap.size w W) => copyS2 (h.up hb))
  have HSB := Lib.hid (fun (W : World) (q c : Nat) (st : Nat × Nat) (n : Nat) (hn : n ≤ 32) (h : SrcT W q c s st) => srcBits h hs n hn)
  have hx1 := xb_lt (numS s) (8 * s.size) 1 (0, p)
  have hx2 := xb_lt (numS s) (8 * s.size) 2 (xb (numS s) (8 * s.size) 1 (0, p)).2
  unfold RetHead
  obtain ⟨D, hD⟩ : ∃ D, D = headF (numS s) (8 * s.size) p := ⟨_, rfl⟩
  rw [← hD]
  unfold headF at hD
  have HB1 : Hid (∀ (W : World) (q c : Nat), SrcT W q c s (0, p) → Calls Tryz.prog 55 #[.pointer (some ⟨q, 0, none⟩), .int .i64 1] W fun e w' => e = .returned (.int .i64 ((xb (numS s) (8 * s.size) 1 (0, p)).1 : Nat)) ∧ SrcT w' q c s (xb (numS s) (8 * s.size) 1 (0, p)).2 ∧ Two q c W w') := Lib.hid (fun W q c h => HSB.out W q c (0, p) 1 (by omega) h)
  obtain ⟨r1, h1⟩ : ∃ r1, r1 = xb (numS s) (8 * s.size) 1 (0, p) := ⟨_, rfl⟩
  rw [← h1] at hD HB1 hx1 hx2
  have HB2 : Hid (∀ (W : World) (q c : Nat), SrcT W q c s r1.2 → Calls Tryz.prog 55 #[.pointer (some ⟨q, 0, none⟩), .int .i64 2] W fun e w' => e = .returned (.int .i64 ((xb (numS s) (8 * s.size) 2 r1.2).1 : Nat)) ∧ SrcT w' q c s (xb (numS s) (8 * s.size) 2 r1.2).2 ∧ Two q c W w') := Lib.hid (fun W q c h => HSB.out W q c r1.2 2 (by omega) h)
  obtain ⟨r2, h2⟩ : ∃ r2, r2 = xb (numS s) (8 * s.size) 2 r1.2 := ⟨_, rfl⟩
  rw [← h2] at hD HB2 hx2
  clear h1 h2 HSB
  obtain ⟨a, s1⟩ := r1
  obtain ⟨k, s2⟩ := r2
  simp only at hx1 hx2 hD
  have HD := Lib.hid hD
  clear hD h
  have hfe : ((a : Int) == 1) = decide (a = 1) := by
    by_cases h : a = 1
    · subst h; rfl
    · rw [decide_eq_false h]; simp; omega
  generalize decide (a = 1) = fn at *
  go_enter Tryz.func36, Tryz.ntmps36
  go_upto_block 0 with (first | (go_at_call 26; (with_reducible refine (HCP.out _ (by repeat (first | exact Below.refl _ _ | assumption | refine b_drewN ?_ _ | refine Below.drew ?_ | refine b_ext' ?_ _ | refine b_alloc' ?_ _))).mono ?_); rintro e w1 ⟨c, rfl, hb1, hc1, hd1⟩; (have hq1 := hb1.lt; have HR1 : Hid (BoxH w1 w.heap.size false 0 0 (.slice none 0 0) (.slice none 0 0)) := Lib.hid ⟨(own_lit w w.heap.size #[Value.bool false, Value.int .i64 0, Value.int .i64 0, Value.slice none 0 0, Value.slice none 0 0] 90 (by simp) (Nat.le_refl _)).up hd1⟩; have HW1 : Hid (Below w.heap.size w w1) := Lib.hid (below_up (below_alloc _ _) hd1); have hc2 : w.heap.size < c := Nat.lt_of_lt_of_le (by simp) hc1; have HS2 : Hid (SrcT (w1.alloc (.cells #[Value.pointer (some ⟨c, 0, none⟩), Value.int .i64 0] 108)) w1.heap.size c s (0, p)) := Lib.hid ⟨⟨own_lit w1 w1.heap.size #[Value.pointer (some ⟨c, 0, none⟩), Value.int .i64 0] 108 (by simp) (Nat.le_refl _)⟩, hb1.up (below_alloc _ _), by omega, hp, by simp⟩; clear hb1 hc1 hd1 HCP)) | (go_at_call 55; first | ((with_reducible refine (HB1.out _ _ _ HS2.out).mono ?_); rintro e w3 ⟨rfl, hs3, hf3⟩; (have HS3 := Lib.hid hs3; have HF3 := Lib.hid hf3; have hsz3 := hf3.size; clear hs3 hf3 HB1)) | ((with_reducible refine (HB2.out _ _ _ (HS3.out.up (below_alloc _ _))).mono ?_); rintro e w5 ⟨rfl, hs5, hf5⟩; (have HH4 : Hid (BoxH (w3.alloc (.cells #[Value.bool fn, Value.int .i64 0, Value.int .i64 0, Value.slice none 0 0, Value.slice none 0 0] 90)) w3.heap.size fn 0 0 (.slice none 0 0) (.slice none 0 0)) := Lib.hid ⟨own_lit w3 w3.heap.size #[Value.bool fn, Value.int .i64 0, Value.int .i64 0, Value.slice none 0 0, Value.slice none 0 0] 90 (by simp) (Nat.le_refl _)⟩; have hqq := HS3.out.src.lt; have hcc := HS3.out.box.lt; have HH5 := Lib.hid (HH4.out.fx hf5 (fun e => e.elim (fun e => by omega) (fun e => by omega))); have hqw := HW1.out.size; have HR5 := Lib.hid (((((HR1.out.up (below_alloc _ _)).fx HF3.out (fun e => e.elim (fun e => by omega) (fun e => by omega))).up (below_alloc _ _)).fx hf5 (fun e => e.elim (fun e => by omega) (fun e => by omega)))); have hb5 := HH5.out.lt; have cc5 := HH5.out.c1; have ff5 := HH5.out.free 1; have HST := Lib.hid (HH5.out.set1 k); have HS5 := Lib.hid hs5; have HF5 := Lib.hid hf5; clear hs5 hf5 HB2 HH4))))
  have HS6 : Hid (SrcT (w5.setCell ⟨w3.heap.size, 1, none⟩ (.int .i64 (k : Int))) w1.heap.size c s s2) := Lib.hid (HS5.out.kept HST.out.2 (fun e => by injection e with e; omega) (fun e => by injection e with e; omega))
  have HH6 := Lib.hid HST.out.1
  have HR6 := Lib.hid (HR5.out.stay HST.out.2 (fun e => by injection e with e; omega))
  have HW5 : Hid (Below w.heap.size w w5) := Lib.hid (by
    have h2 : Below w.heap.size w (w1.alloc (.cells #[Value.pointer (some ⟨c, 0, none⟩), Value.int .i64 0] 108)) := HW1.out.alloc HW1.out.size _
    have h3 : Below w.heap.size w w3 := HF3.out.below h2 h2.size (fun k hk => hk.elim (fun e => by omega) (fun e => by omega))
    have h4 : Below w.heap.size w (w3.alloc (.cells #[Value.bool fn, Value.int .i64 0, Value.int .i64 0, Value.slice none 0 0, Value.slice none 0 0] 90)) := h3.alloc h3.size _
    exact HF5.out.below h4 h4.size (fun k hk => hk.elim (fun e => by omega) (fun e => by omega)))
  have HW6 : Hid (Below w.heap.size w (w5.setCell ⟨w3.heap.size, 1, none⟩ (.int .i64 (k : Int)))) := Lib.hid (HW5.out.grown HST.out.2 HW5.out.size (fun k e => by injection e with e; omega))
  have hb6 := HH6.out.lt
  clear HST HS5 HH5 HR5 HW5 HF5 HF3 HS3 HS2 HW1 HR1 hb5 cc5 ff5 hsz3 hcc
  have hrc : w.heap.size < w1.heap.size := by omega
  generalize w5.setCell ⟨w3.heap.size, 1, none⟩ (.int .i64 (k : Int)) = w6 at *
  generalize w1.heap.size = q at *
  generalize w3.heap.size = b at *
  go_cut [] (fun wx => ∃ kk z v1 v2 en p', SrcT wx q c s (en, p') ∧ BoxH wx b fn kk z v1 v2 ∧ BoxH wx w.heap.size false 0 0 (.slice none 0 0) (.slice none 0 0) ∧ Below w.heap.size w wx ∧ Hid ((en ≠ 0 → D = (HeadN.zero, en, p)) ∧ (en = 0 → ∃ L1 L2, D = (⟨fn, kk, z, L1, L2⟩, 0, p') ∧ Own wx w6.heap.size 3 v1 (ints (nls L1)) ∧ Own wx w6.heap.size 3 v2 (ints (nls L2)))))
  case first =>
    clear hfe hx1
    obtain ⟨en, p2⟩ := s2
    have c1 := HS6.out.src.c1
    have hee : (((en, p2).1 : Nat) : Int) = (en : Int) := rfl
    rw [hee] at c1
    clear hee
    have cq := HH6.out.c1
    have hq6 := HS6.out.src.lt
    have hle : p2 ≤ 8 * s.size := HS6.out.le
    have hnb : q ≠ b := by omega
    have hcb : c ≠ b := by omega
    have HTR : Hid (∀ {w7 : World}, Three q c b w6 w7 → BoxH w7 w.heap.size false 0 0 (.slice none 0 0) (.slice none 0 0) ∧ Below w.heap.size w w7) := Lib.hid (fun hf => ⟨HR6.out.fx hf (fun e => e.elim (fun e => by omega) (fun e => e.elim (fun e => by omega) (fun e => by omega))), hf.below HW6.out HW6.out.size (fun k hk => hk.elim (fun e => by omega) (fun e => e.elim (fun e => by omega) (fun e => by omega)))⟩)
    by_cases h0 : en = 0
    · subst h0
      have hd := HD.out
      unfold kindN at hd
      rw [if_neg (fun h => h rfl)] at hd
      by_cases hk0 : k = 0
      · subst hk0
        rw [if_pos rfl] at hd
        have HD2 := Lib.hid hd
        have HST := Lib.hid (storedS HS6.out HH6.out hnb hcb hs)
        clear hd HD
        generalize storedN (numS s) (8 * s.size) (0, p2) = r at *
        obtain ⟨sz, e2, p3⟩ := r
        go_wp2_with (go_at_call 56; (with_reducible refine HST.out.mono ?_); rintro e w7 ⟨rfl, h1, h2, h3⟩; (have H1 := Lib.hid h1; have H2 := Lib.hid h2; have H3 := Lib.hid h3; clear h1 h2 h3))
        go_meet
        case rel =>
          obtain ⟨hr, hw⟩ := HTR.out H3.out
          refine ⟨0, sz, _, _, e2, p3, H1.out, H2.out, hr, hw, Lib.hid ⟨fun h => by rw [HD2.out]; exact if_pos h, fun h => ⟨[], [], by rw [HD2.out]; subst h; rfl, Own.nil _ _ _, Own.nil _ _ _⟩⟩⟩
      · rw [if_neg hk0] at hd
        have hki : ((k : Int) == 0) = false := by simpa using hk0
        by_cases hk1 : k = 1
        · subst hk1
          rw [if_pos rfl] at hd
          have HD2 := Lib.hid hd
          clear hd HD
          have HFL := Lib.hid (fixLP w6)
          have HFD := Lib.hid (fun W => fixDP W)
          unfold RetRow at HFL HFD
          generalize fixL = L1 at *
          generalize fixD = L2 at *
          go_wp2_with (first | (go_at_call 57; (with_reducible refine HFL.out.mono ?_); rintro e w7 ⟨v1, rfl, ho1, hb1⟩; (have HO1 := Lib.hid ho1; have HB1 := Lib.hid hb1; have hs1 := hb1.size; clear ho1 hb1)) | (go_at_call 58; (with_reducible refine (HFD.out w7).mono ?_); rintro e w8 ⟨v2, rfl, ho2, hb2⟩; (have HO2 := Lib.hid (ho2.mono hs1); have HO1' := Lib.hid (HO1.out.up hb2); have HB2 := Lib.hid (below_up HB1.out hb2); obtain ⟨o1, e1, g1, hv1, -⟩ := HO1.out.cases; obtain ⟨o2, e2, g2, hv2, -⟩ := ho2.cases; subst hv1 hv2; generalize (ints (nls L1)).length = n1 at *; generalize (ints (nls L2)).length = n2 at *; have HH8 := Lib.hid (HH6.out.up HB2.out); have hb8 := HH8.out.lt; have hf83 := HH8.out.free 3; have hc83 := HH8.out.c3; have HS3 := Lib.hid (HH8.out.set3 (.slice o1 n1 e1)); have hb9 := HS3.out.1.lt; have hf94 := HS3.out.1.free 4; have hc94 := HS3.out.1.c4; have HS4 := Lib.hid (HS3.out.1.set4 (.slice o2 n2 e2)); clear ho2 hb2)))
          go_meet
          case rel =>
            have hg := grown_trans HS3.out.2 HS4.out.2
            have hf : Three q c b w6 _ := (fx_below HB2.out).trans (Three.ofb hg)
            obtain ⟨hr, hw⟩ := HTR.out hf
            refine ⟨1, 0, _, _, 0, p2, (HS6.out.up HB2.out).kept hg (fun e => by injection e with e; omega) (fun e => by injection e with e; omega), HS4.out.1, hr, hw, Lib.hid ⟨fun h => absurd rfl h, fun _ => ⟨L1, L2, by rw [HD2.out], HO1'.out.keep hg (ne_of_row (fun k hk e => by have := (HO1'.out.lt k hk).1; injection e with e; omega)), HO2.out.keep hg (ne_of_row (fun k hk e => by have := (HO2.out.lt k hk).1; injection e with e; omega))⟩⟩⟩
        · rw [if_neg hk1] at hd
          have hki1 : ((k : Int) == 1) = false := by simp; omega
          by_cases hk2 : k = 2
          · subst hk2
            rw [if_pos rfl] at hd
            have HD2 := Lib.hid hd
            have HST := Lib.hid (dynamicS HS6.out HH6.out hnb hcb hs)
            clear hd HD
            generalize dynN (numS s) (8 * s.size) (0, p2) = r at *
            obtain ⟨L1, L2, e2, p3⟩ := r
            go_wp2_with (go_at_call 59; (with_reducible refine HST.out.mono ?_); rintro e w7 ⟨rfl, h1, h2, v1, v2, h3, h4⟩; (have H1 := Lib.hid h1; have H2 := Lib.hid h2; have H3 := Lib.hid h3; have H4 := Lib.hid h4; clear h1 h2 h3 h4))
            go_meet
            case rel =>
              obtain ⟨hr, hw⟩ := HTR.out H2.out
              refine ⟨2, 0, v1, v2, e2, p3, H1.out, H3.out, hr, hw, Lib.hid ⟨fun h => by rw [HD2.out]; exact if_pos h, fun h => ⟨L1, L2, by rw [HD2.out]; subst h; rfl, (H4.out h).1, (H4.out h).2⟩⟩⟩
          · rw [if_neg hk2] at hd
            have hki2 : ((k : Int) == 2) = false := by simp; omega
            have HD2 := Lib.hid hd
            have HFA := Lib.hid (failS HS6.out 11 (by omega))
            rw [show ((11 : Nat) : Int) = 11 from rfl] at HFA
            clear hd HD
            go_wp2_with (go_at_call 60; (with_reducible refine HFA.out.mono ?_); rintro e w7 ⟨rfl, h1, h2⟩; (have H1 := Lib.hid h1; have H2 := Lib.hid (Three.of2 (b := b) h2); have H3 := Lib.hid (HH6.out.fx h2 (fun e => e.elim (fun e => by omega) (fun e => by omega))); clear h1 h2))
            go_meet
            case rel =>
              obtain ⟨hr, hw⟩ := HTR.out H2.out
              refine ⟨k, 0, _, _, 11, p2, H1.out, H3.out, hr, hw, Lib.hid ⟨fun _ => HD2.out, fun h => by cases h⟩⟩
    · have h0' : ((en : Int) != 0) = true := by simpa using h0
      have HD2 : Hid (D = (HeadN.zero, en, p)) := Lib.hid (by rw [HD.out]; unfold kindN; exact if_pos h0)
      clear HD
      go_wp2
      go_meet
      case rel => exact ⟨k, 0, _, _, en, p2, HS6.out, HH6.out, HR6.out, HW6.out, Lib.hid ⟨fun _ => HD2.out, fun h => absurd h h0⟩⟩
  case rest =>
    obtain ⟨kk, z, v1, v2, en, p', hs7, hh7, hr7, hw7, HE⟩ := hcut
    have HS7 := Lib.hid hs7
    have HH7 := Lib.hid hh7
    have HR7 := Lib.hid hr7
    have HW7 := Lib.hid hw7
    have c1 := hs7.src.c1
    have hq7 := hs7.src.lt
    have hee : (((en, p').1 : Nat) : Int) = (en : Int) := rfl
    rw [hee] at c1
    clear hs7 hh7 hr7 hw7 hee HS6 HH6 HR6 HW6
    by_cases h0 : en = 0
    · subst h0
      obtain ⟨L1, L2, hd, ho1, ho2⟩ := HE.out.2 rfl
      obtain ⟨o1, e1, g1, hv1, -⟩ := ho1.cases
      obtain ⟨o2, e2, g2, hv2, -⟩ := ho2.cases
      have HDX := Lib.hid hd
      have HO1 := Lib.hid ho1
      have HO2 := Lib.hid ho2
      subst hv1 hv2
      clear HE hd ho1 ho2
      generalize (ints (nls L1)).length = n1 at *
      generalize (ints (nls L2)).length = n2 at *
      obtain ⟨A, hA, hAs, hAl⟩ := HS7.out.box.own.whole
      have hA1 : ∀ u ∈ A.toList, u.oneCell' = true := by
        rw [hAl]; intro u hu; simp at hu; rcases hu with rfl | rfl | rfl <;> rfl
      have HAL := Lib.hid hAl
      have HB7 := Lib.hid (HB.out.up HW7.out)
      clear hAl
      go_wp2_with (first | (refine load_box rfl 86 3 _ rfl c rfl A hAs hA _ Tryz.underlying86 rfl (by kernel_rfl) ?_) | (refine wpList_store_agg rfl 86 _ _ rfl g 86 g 3 3 rfl A rfl (by rw [hAs]; kernel_rfl) _ HB7.out.own (by rw [hAs]; simp) hA1 ?_; intro w8 hown8 hg8; (have HG8 := Lib.hid hg8; have HB8 := Lib.hid hown8; have HH8 := Lib.hid (HH7.out.stay hg8 (fun e => by injection e with e; omega)); have HR8 := Lib.hid (HR7.out.stay hg8 (fun e => by injection e with e; omega)); obtain ⟨A5, hA5, hAs5, hAl5⟩ := HH8.out.own.whole; have HAL5 := Lib.hid hAl5; have hA51 : ∀ u ∈ A5.toList, u.oneCell' = true := (by rw [hAl5]; exact head_one fn kk z o1 o2 n1 n2 e1 e2); clear hown8 hg8 hAl5)) | (refine load_box rfl 90 5 _ rfl b rfl A5 hAs5 hA5 _ Tryz.underlying90 rfl (by kernel_rfl) ?_) | (refine wpList_store_agg rfl 90 _ _ rfl w.heap.size 90 w.heap.size 5 5 rfl A5 rfl (by rw [hAs5]; kernel_rfl) _ HR8.out.own (by rw [hAs5]; simp) hA51 ?_; intro w9 hown9 hg9; (have HG9 := Lib.hid hg9; have HR9 := Lib.hid hown9; clear hown9 hg9)))
      have hr9 := HR9.out
      rw [hAs5, List.drop_of_length_le (by simp), List.append_nil] at hr9
      have hb8 := HB8.out
      rw [hAs, List.drop_of_length_le (by simp), List.append_nil, HAL.out] at hb8
      have HR10 := Lib.hid hr9
      have HB10 := Lib.hid hb8
      clear hr9 hb8
      refine ret_cell_tmp (s := 2) (b := 3) (ad := ⟨w.heap.size, 0, none⟩) (x := .agg A5) (y := .int .i64 0) rfl rfl rfl rfl (load_whole (n := 5) HR10.out _ Tryz.underlying90 rfl (by kernel_rfl)) ?_
      have hA5e : A5 = #[.bool fn, .int .i64 (kk : Nat), .int .i64 (z : Nat), .slice o1 n1 e1, .slice o2 n2 e2] := by
        rw [← Array.toArray_toList (xs := A5), HAL5.out]
      have hw67 : ∀ {v : Value} {xs : List Value}, Own wc w6.heap.size 3 v xs → Own w9 w.heap.size 3 v xs := fun ho =>
        ((ho.keep HG8.out (ne_of_row (fun k hk e => by have := (ho.lt k hk).1; injection e with e; omega))).keep HG9.out (ne_of_row (fun k hk e => by have := (ho.lt k hk).1; injection e with e; omega))).mono (by omega)
      rw [HDX.out, hA5e]
      exact ⟨_, _, rfl, hw67 HO1.out, hw67 HO2.out, ⟨HB10.out.keep HG9.out (.inr (fun e => by have e2 : some g = some w.heap.size := e; injection e2 with e2; omega))⟩, grown_new (grown_trans (grown_below HW7.out _) HG8.out) HG9.out (Nat.le_refl _)⟩
    · have h0' : ((en : Int) != 0) = true := by simpa using h0
      have HDX := Lib.hid (HE.out.1 h0)
      clear HE h0
      go_wp2
      refine wp_region_scr (C := fun w' => ∃ x, w' = chg wc (some w.heap.size) x) (.q 0 (.q 1 (.q 2 (.q 3 (.q 4 (.br 5 (.q 6 .done) .no)))))) (by kernel_rfl) (by kernel_rfl) (ex_chg (grown_drew _ _)) ?_
      have HG8 : Hid (wc.grownBy wc.drew (some w.heap.size)) := Lib.hid (grown_drew _ _)
      have HR8 : Hid (BoxH wc.drew w.heap.size false 0 0 (.slice none 0 0) (.slice none 0 0)) := Lib.hid (HR7.out.up (b_drew1 (Below.refl _ _)))
      have hqr : some q ≠ some w.heap.size := fun e => by injection e with e; omega
      generalize wc.drew = w8 at *
      (repeat ((unfold wpScr; simp only [pick, List.map_cons, List.map_nil, List.getD_cons_zero, List.getD_cons_succ]); go_big_quiet_step (fail); refine wpQuiet_nil ?_))
      ((unfold wpScr; simp only [pick, List.map_cons, List.map_nil, List.getD_cons_zero, List.getD_cons_succ]); refine ⟨?_, by unfold wpScr; trivial⟩; unfold wpAct)
      go_wp2_with (refine wpList_store_agg rfl 90 _ _ rfl w.heap.size 90 w.heap.size 5 5 rfl zH rfl (by kernel_rfl) _ HR8.out.own (by simp [zH]) zH_one ?_; intro w9 hown9 hg9; (have HG9 := Lib.hid (grown_trans HG8.out hg9); have HR9 : Hid (Own w9 w.heap.size 90 (.slice (some ⟨w.heap.size, 0, none⟩) 5 5) zH.toList) := Lib.hid hown9; clear hown9 hg9))
      refine ⟨ex_chg HG9.out, ?_⟩
      unfold wpAct
      (repeat ((unfold wpScr; simp only [pick, List.map_cons, List.map_nil, List.getD_cons_zero, List.getD_cons_succ]); go_big_quiet_step (fail); refine wpQuiet_nil ?_))
      unfold wpScr
      first | (intro _ hqq; clear hqq) | (intro hqq; clear hqq)
      go_wp2
      refine ret_cell_tmp (s := 2) (b := 3) (ad := ⟨w.heap.size, 0, none⟩) (x := .agg zH) (y := .int .i64 (en : Nat)) rfl rfl rfl rfl (load_whole (n := 5) HR9.out _ Tryz.underlying90 rfl (by kernel_rfl)) ?_
      rw [HDX.out]
      exact ⟨_, _, rfl, Own.nil _ _ _, Own.nil _ _ _, (HB.out.up HW7.out).stay HG9.out (fun e => by injection e with e; omega), grown_new (grown_below HW7.out _) HG9.out (Nat.le_refl _)⟩
end Go.Cm

/- The walk of the document's row of lengths. Conditions: the reader is there, the code is right. -/
namespace Go.Cm
open Go.RowKit Go.Proofs

theorem grown_far {w w1 w2 : World} {row row' : Option Nat} (h : w.grownBy w1 row) (hg : w1.grownBy w2 row') (hr : ∀ k, row' = some k → w.heap.size ≤ k) : w.grownBy w2 row :=
  ⟨hg.os.trans h.os, hg.tape.trans h.tape, hg.output.trans h.output, Nat.le_trans h.size hg.size, fun k hk hne => by rw [hg.block k (Nat.lt_of_lt_of_le hk h.size) (fun e => by have := hr k e.symm; omega), h.block k hk hne]⟩
def nbOf (a : Nat) : Nat := if a = 16 then 2 else if a = 17 then 3 else 7
def nlOf (a : Nat) : Nat := if a = 18 then 11 else 3
def nvOf (a : Nat) (l : List Nat) : Nat := if a = 16 then l.getD (l.length - 1) 0 else 0
theorem nbOf_le (a : Nat) : nbOf a ≤ 7 := by
  unfold nbOf
  split
  · omega
  · split <;> omega
theorem nlOf_le (a : Nat) : 3 ≤ nlOf a ∧ nlOf a ≤ 11 := by
  unfold nlOf
  split <;> omega
theorem repN_eq {N T a : Nat} {l : List Nat} {p : Nat} (ha : a = 16 ∨ a = 17 ∨ a = 18) (h : ¬ (a = 16 ∧ l = [])) :
    repN N T a l (0, p) = (nlOf a + (bitsA N T p (nbOf a)).1, nvOf a l, (bitsA N T p (nbOf a)).2.1, (bitsA N T p (nbOf a)).2.2) := by
  rcases ha with rfl | rfl | rfl
  · have hl : l ≠ [] := fun e => h ⟨rfl, e⟩
    unfold repN; rw [if_neg (by decide), if_pos rfl, if_neg hl]; rfl
  · rfl
  · rfl
theorem bitsA_lt {N T p n : Nat} : (bitsA N T p n).1 < 2 ^ n := by
  unfold bitsA; split
  · exact Nat.mod_lt _ (Nat.two_pow_pos n)
  · exact Nat.two_pow_pos n
/-- what the document's row answers -/
def RetRowR (R : List Nat × (Nat × Nat)) (s : ByteArray) (g : Nat) (w : World) (e : Ending) (w' : World) : Prop :=
  ∃ v' p', e = .returned (.tuple #[v', .int .i64 (R.2.1 : Nat)]) ∧ (R.2.1 = 0 → Own w' w.heap.size 3 v' (ints (nls R.1)) ∧ p' = R.2.2) ∧ BoxT w' g s p' ∧ p' ≤ 8 * s.size ∧ w.grownBy w' (some g)
set_option maxRecDepth 100000 in
set_option maxHeartbeats 4000000 in
theorem rowRR {w : World} {B g p n : Nat} {s : ByteArray} {v : Value} {L : List Nat} (h : BoxT w g s p) (hv : Own w B 3 v (ints (nls L))) (hB : g < B) (hL : errI (nls L) = 0) (hl19 : L.length ≤ 19) (hn : n ≤ 1000) (hs : s.size ≤ 4294967296) (hp : p ≤ 8 * s.size) :
    Calls Tryz.prog 71 #[.pointer (some ⟨g, 0, none⟩), v, .int .i64 n] w (RetRowR (rowN (numS s) (8 * s.size) L n (n + 1) [] (0, p)) s g w) := by
  obtain ⟨L', hL', hlen, h15, hk⟩ := errI_list hL
  have hLL' : L' = L := by
    have := congrArg (List.map Int.toNat) hL'
    rw [nls_toNat, nls_toNat] at this
    exact this.symm
  subst hLL'
  clear hL' hL
  have HH := Lib.hid h
  have hgw := h.lt
  have HRD : Hid (∀ W p, w.grownBy W (some g) → BoxT W g s p → p ≤ 8 * s.size → Calls Tryz.prog 33 #[.pointer (some ⟨g, 0, none⟩), v] W fun e w' => e = .returned (.tuple #[.int .i64 ((readF L' (numS s / 2 ^ p) (8 * s.size - p)).1 : Nat), .int .i64 ((readF L' (numS s / 2 ^ p) (8 * s.size - p)).2.1 : Nat)]) ∧ BoxT w' g s (p + (readF L' (numS s / 2 ^ p) (8 * s.size - p)).2.2) ∧ W.grownBy w' (some g)) := Lib.hid (fun W p hg hb hp => (readR0 v L' (show IntsAt W v (nls L') from (hv.keep hg (ne_of_row (fun k hk e => by have := (hv.lt k hk).1; injection e with e; omega))).sl) (Below.refl _ _) hb hlen h15 hk hs hp).mono fun e w' ⟨a, er, d, he, hr, hb, hg⟩ => by
    have := readF_of hr
    rw [this]
    exact ⟨he, hb, hg⟩)
  have HBT : Hid (∀ (W : World) (p n : Nat), n ≤ 32 → BoxT W g s p → p ≤ 8 * s.size → Calls Tryz.prog 31 #[.pointer (some ⟨g, 0, none⟩), .int .i64 n] W (RetBits BoxT s p n g W)) := Lib.hid (fun W p n hn hb hp => bitsT hb hs n hn hp)
  obtain ⟨R, hR⟩ : ∃ R, R = rowN (numS s) (8 * s.size) L' n (n + 1) [] (0, p) := ⟨_, rfl⟩
  rw [← hR]
  have HR := Lib.hid hR.symm
  have HSTOP := Lib.hid (rowN_stop (numS s) (8 * s.size) L' n)
  have HSTEP := Lib.hid (rowN_step (numS s) (8 * s.size) L' n)
  obtain ⟨oc, cc, gc, hvc, -⟩ := hv.cases
  generalize (ints (nls L')).length = nL at hvc
  subst hvc
  clear hR h hv h15 hk hlen
  unfold RetRowR
  go_enter Tryz.func71, Tryz.ntmps71
  go_wp2
  go_loopg [8] (n + 1) (fun gk r wr => ∃ l p, Own wr w.heap.size 3 r (ints (nls l)) ∧ BoxT wr g s p ∧ p ≤ 8 * s.size ∧ w.grownBy wr (some g) ∧ Hid (rowN (numS s) (8 * s.size) L' n gk l (0, p) = R) ∧ l.length ≤ n ∧ n - l.length < gk)
  case atStart => exact ⟨[], p, Own.nil _ _ _, HH.out, hp, grown_refl _ _, HR, Nat.zero_le _, by simp⟩
  case round =>
    obtain ⟨l, p, ho, hbx, hple, hgr, HRN, hll, hf⟩ := hrel
    have HO := Lib.hid ho
    have HX := Lib.hid hbx
    have HG := Lib.hid hgr
    have hsz := hgr.size
    have hlen : (ints (nls l)).length = l.length := by simp [ints, nls]
    obtain ⟨oa, cap, b, hv, hd, -, hc, -, -⟩ := ho.cases
    rw [hlen] at hv hd hc
    subst hv
    have HLEN := Lib.hid hlen
    have HC := Lib.hid hc
    have HD := Lib.hid hd
    clear ho hbx hgr hlen hc hd
    by_cases hlt : l.length < n
    · have hlti : (l.length : Int) < (n : Int) := by omega
      obtain ⟨f, rfl⟩ : ∃ f, gk = f + 1 := ⟨gk - 1, by omega⟩
      have HE := Lib.hid (HSTEP.out f l p hlt)
      rw [HRN.out] at HE
      have hcall := HRD.out wr p HG.out HX.out hple
      have hfa := readF_facts L' (numS s / 2 ^ p) (8 * s.size - p)
      generalize readF L' (numS s / 2 ^ p) (8 * s.size - p) = rd at *
      obtain ⟨a, er, d⟩ := rd
      obtain ⟨hf1, hf2, hf3, hf4⟩ := hfa
      have HCALL := Lib.hid hcall
      have hpd : p + d ≤ 8 * s.size := by simp at hf2 hple; omega
      clear hcall HRN HSTEP HSTOP hf2
      by_cases hz : er = 0
      · subst hz
        have haL := hf4 rfl
        simp at haL
        clear hf1 hf3 hf4
        by_cases ha : a < 16
        · have hai : (a : Int) < 16 := by omega
          have HST2 : Hid (R = rowN (numS s) (8 * s.size) L' n f (l ++ [a]) (0, p + d)) := Lib.hid (by rw [HE.out]; unfold rowStep; rw [if_neg (by simp), if_pos ha])
          have HAPP : Hid (ints (nls (l ++ [a])) = ints (nls l) ++ ints (nls [a])) := Lib.hid (by simp [ints, nls])
          clear ha HE
          have HLL : Hid ((ints (nls l)).length + 1 ≤ 4294967296) := Lib.hid (by rw [HLEN.out]; omega)
          go_wp2_with (first | (go_at_call 33; (with_reducible refine HCALL.out.mono ?_); rintro e w4 ⟨rfl, hb1, hb2⟩; (have HX4 := Lib.hid hb1; have HG4 := Lib.hid (grown_trans HG.out hb2); have hs4 := hb2.size; have HO4 := Lib.hid (HO.out.keep hb2 (ne_of_row (fun k hk e => by have := (HO.out.lt k hk).1; injection e with e; omega))); clear hb1 hb2)) | (at_builtin; refine wpList_app rfl (.tmp 31) (.tmp 33) 35 rfl w.heap.size 3 (.int .i64 0) 8 Tryz.underlying35 (by kernel_rfl) rfl (by decide) (.slice oa l.length cap) (ints (nls l)) rfl (HO4.out.up (below_alloc _ _)) (.slice (some ⟨w4.heap.size, 0, none⟩) 1 1) (ints (nls [a])) rfl (by simpa [ints, nls] using sl_lit w4 #[.int .i64 (a : Int)] 3 (by simp)) (ints_cell _) (by have := HLL.out; simpa [ints, nls] using this) (Nat.le_trans hsz (Nat.le_trans hs4 (by simp))) ?_; intro v' w5 hown1 hg1 hk1; (have HO5 := Lib.hid hown1; have HG5 := Lib.hid hg1; clear hown1 hg1 hk1)))
          go_roundg f
          case measure => omega
          case rel =>
            have hr2 : (Value.slice oa l.length cap).ownBlock ≠ some g := fun e => by have := (HO4.out.lt g e).1; omega
            exact ⟨l ++ [a], p + d, by rw [HAPP.out]; exact HO5.out, (HX4.out.up (below_alloc w4 _)).stay HG5.out hr2, hpd, grown_far (grown_trans HG4.out (grown_below (below_alloc w4 _) _)) HG5.out (fun k hk => (HO4.out.lt k hk).1), Lib.hid HST2.out.symm, by simp; omega, by simp; omega⟩
        · have hai : ¬ (a : Int) < 16 := by omega
          have hsym : a = 16 ∨ a = 17 ∨ a = 18 := by omega
          have HST2 : Hid (R = if n < l.length + (repN (numS s) (8 * s.size) a l (0, p + d)).1 then ([], xf 3 (repN (numS s) (8 * s.size) a l (0, p + d)).2.2) else rowN (numS s) (8 * s.size) L' n f (l ++ List.replicate (repN (numS s) (8 * s.size) a l (0, p + d)).1 (repN (numS s) (8 * s.size) a l (0, p + d)).2.1) (repN (numS s) (8 * s.size) a l (0, p + d)).2.2) := Lib.hid (by rw [HE.out]; unfold rowStep; rw [if_neg (by simp), if_neg ha])
          clear ha HE haL
          by_cases hsp : a = 16 ∧ l = []
          · obtain ⟨rfl, rfl⟩ := hsp
            have hr : repN (numS s) (8 * s.size) 16 [] (0, p + d) = (0, 0, 4, p + d) := rfl
            have HST3 : Hid (R.2.1 = 4) := Lib.hid (by rw [HST2.out, hr, if_neg (by simp), rowN_stop _ _ _ _ _ _ _ (fun h => by cases h.1)])
            clear hr HST2
            go_wp2_with (go_at_call 33; (with_reducible refine HCALL.out.mono ?_); rintro e w4 ⟨rfl, hb1, hb2⟩; (have HX4 := Lib.hid hb1; have HG4 := Lib.hid (grown_trans HG.out hb2); have hs4 := hb2.size; have HO4 := Lib.hid (HO.out.keep hb2 (ne_of_row (fun k hk e => by have := (HO.out.lt k hk).1; injection e with e; omega))); clear hb1 hb2))
            go_ret2
            exact ⟨_, p + d, (by rw [HST3.out]; rfl), fun h => absurd (HST3.out.symm.trans h) (by decide), HX4.out, hpd, HG4.out⟩
          · have hrep := repN_eq (N := numS s) (T := 8 * s.size) (p := p + d) hsym hsp
            rw [hrep] at HST2
            have hml := bitsA_lt (N := numS s) (T := 8 * s.size) (p := p + d) (n := nbOf a)
            have hp2 := (bitsA_le (N := numS s) (n := nbOf a) hpd).1
            have hbo := nbOf_le a
            have hlo := nlOf_le a
            have HBTC := Lib.hid (fun W h => HBT.out W (p + d) (nbOf a) (by omega) h hpd)
            unfold RetBits at HBTC
            clear hrep HBT HRD
            generalize bitsA (numS s) (8 * s.size) (p + d) (nbOf a) = r2 at *
            obtain ⟨m, e2, p2⟩ := r2
            go_upto_block 2 with (go_at_call 33; (with_reducible refine HCALL.out.mono ?_); rintro e w4 ⟨rfl, hb1, hb2⟩; (have HX4 := Lib.hid hb1; have HG4 := Lib.hid (grown_trans HG.out hb2); have hs4 := hb2.size; have HO4 := Lib.hid (HO.out.keep hb2 (ne_of_row (fun k hk e => by have := (HO.out.lt k hk).1; injection e with e; omega))); clear hb1 hb2))
            go_cut [11, 12, 13] from 16 to 77 (fun x11 x12 x13 wx => x11 = .int .i64 (nbOf a : Nat) ∧ x12 = .int .i64 (nlOf a : Nat) ∧ x13 = .int .i64 (nvOf a l : Nat) ∧ wx = w4)
            case first =>
              rcases hsym with rfl | rfl | rfl
              · have hln0 : l ≠ [] := fun e => hsp ⟨rfl, e⟩
                have hln : 0 < l.length := List.length_pos_iff.2 hln0
                obtain ⟨oa2, cap2, b2, hv2, hd2, -, hc2, -, -⟩ := HO4.out.cases
                rw [HLEN.out] at hv2 hd2 hc2
                injection hv2 with q1 q2 q3
                subst q1 q3
                have hix := index_any (P := Tryz.prog) 35 3 Tryz.underlying35 (by kernel_rfl) hd2
                have hbb := hd2.hblk hln
                have hcell := hc2 (l.length - 1) (by omega)
                rw [last_cell l hln0] at hcell
                have hm := hd2.len
                have HVO : Hid (nvOf 16 l = l.getD (l.length - 1) 0) := Lib.hid rfl
                have hpred : (l.length : Int) - 1 = ((l.length - 1 : Nat) : Int) := by omega
                have hplt : l.length - 1 < l.length := by omega
                have hl0 : ((l.length : Int) == 0) = false := by simp; omega
                clear hd2 hc2 hln0 hsp HST2 HBTC HC HD
                generalize hyy : l.getD (l.length - 1) 0 = y at *
                generalize l.length - 1 = j at *
                generalize l.length = nl at *
                go_wp2
                go_meet
                case rel => exact ⟨rfl, rfl, by rw [HVO.out], rfl⟩
              · clear HST2 HBTC hsp
                go_wp2
                go_meet
                case rel => exact ⟨rfl, rfl, rfl, rfl⟩
              · clear HST2 HBTC hsp
                go_wp2
                go_meet
                case rel => exact ⟨rfl, rfl, rfl, rfl⟩
            case rest =>
              obtain ⟨rfl, rfl, rfl, hwc⟩ := hcut
              subst hwc
              have HC5 := Lib.hid (HBTC.out _ HX4.out)
              have hszw := HG4.out.size
              clear HBTC hsp hsym HC HD
              generalize nbOf a = bo at *
              generalize nlOf a = lo at *
              generalize nvOf a l = vo at *
              have hb7 : 2 ^ bo ≤ 2 ^ 7 := Nat.pow_le_pow_right (by decide) hbo
              try simp only at hml
              have hm : m ≤ 128 := by omega
              clear hml hb7
              have hlo1 := hlo.1
              have hlo2 := hlo.2
              try simp only at hp2 HST2
              by_cases he2 : e2 = 0
              · subst he2
                by_cases hbig : n < l.length + (lo + m)
                · have hbi : (l.length : Int) + (lo : Int) + (m : Int) > (n : Int) := by omega
                  have HST3 : Hid (R = ([], (3, p2))) := Lib.hid (by rw [HST2.out]; exact if_pos hbig)
                  clear hbig HST2
                  go_wp2_with (go_at_call 31; (with_reducible refine HC5.out.mono ?_); rintro e w5 ⟨rfl, hb1, hb2⟩; (have HX5 := Lib.hid hb1; have HG5 := Lib.hid (grown_trans HG4.out hb2); clear hb1 hb2))
                  go_ret2
                  rw [HST3.out]
                  exact ⟨_, p2, rfl, (fun h => by cases h), HX5.out, hp2, HG5.out⟩
                · have hbi : ¬ (l.length : Int) + (lo : Int) + (m : Int) > (n : Int) := by omega
                  have HST3 : Hid (R = rowN (numS s) (8 * s.size) L' n f (l ++ List.replicate (lo + m) vo) (0, p2)) := Lib.hid (by rw [HST2.out]; exact if_neg hbig)
                  have HTM : Hid (∀ W, Own W w.heap.size 3 (.slice oa l.length cap) (ints (nls l)) → w.heap.size ≤ W.heap.size → Calls Tryz.prog 68 #[.slice oa l.length cap, .int .i64 ((lo : Int) + (m : Int)), .int .i64 (vo : Nat)] W fun e w' => ∃ v', e = .returned v' ∧ Own w' w.heap.size 3 v' (ints (nls (l ++ List.replicate (lo + m) vo))) ∧ Below w.heap.size W w') := Lib.hid (fun W ho hB => by
                    have := timesB (.slice oa l.length cap) l (lo + m) vo W w.heap.size ho hB (by omega)
                    rw [Int.natCast_add] at this
                    exact this)
                  clear HST2
                  go_wp2_with (first | (go_at_call 31; (with_reducible refine HC5.out.mono ?_); rintro e w5 ⟨rfl, hb1, hb2⟩; (have HX5 := Lib.hid hb1; have HG5 := Lib.hid (grown_trans HG4.out hb2); have HO5 := Lib.hid (HO4.out.keep hb2 (ne_of_row (fun k hk e => by have := (HO4.out.lt k hk).1; injection e with e; omega))); clear hb1 hb2)) | (go_at_call 68; (with_reducible refine (HTM.out _ HO5.out HG5.out.size).mono ?_); rintro e w6 ⟨v6, rfl, hb1, hb2⟩; (have HO6 := Lib.hid hb1; have HB6 := Lib.hid hb2; clear hb1 hb2)))
                  go_roundg f
                  case measure => omega
                  case rel =>
                    have hbelow : w.grownBy w6 (some g) := ⟨HB6.out.os.trans HG5.out.os, HB6.out.tape.trans HG5.out.tape, HB6.out.output.trans HG5.out.output, Nat.le_trans HG5.out.size HB6.out.size, fun k hk hne => by rw [HB6.out.block k hk, HG5.out.block k hk hne]⟩
                    have hbx : BoxT w6 g s p2 := ⟨HX5.out.own.of_blk (fun k hk => HB6.out.block k (by have e2 : some g = some k := hk; injection e2 with e2; omega))⟩
                    exact ⟨l ++ List.replicate (lo + m) vo, p2, HO6.out, hbx, hp2, hbelow, Lib.hid HST3.out.symm, by simp; omega, by simp; omega⟩
              · have he2i : ((e2 : Int) != 0) = true := by simpa using he2
                have HST3 : Hid (R.2.1 = e2) := Lib.hid (by
                  rw [HST2.out]
                  by_cases hbig : n < l.length + (lo + m)
                  · rw [if_pos hbig]; show (xf 3 (e2, p2)).1 = e2; rw [xf_of (by exact he2)]
                  · rw [if_neg hbig, rowN_stop _ _ _ _ _ _ _ (fun h => he2 h.1)])
                have HNE := Lib.hid he2
                clear HST2 he2
                go_wp2_with (go_at_call 31; (with_reducible refine HC5.out.mono ?_); rintro e w5 ⟨rfl, hb1, hb2⟩; (have HX5 := Lib.hid hb1; have HG5 := Lib.hid (grown_trans HG4.out hb2); clear hb1 hb2))
                go_ret2
                rw [HST3.out]
                exact ⟨_, p2, rfl, fun h => absurd h HNE.out, HX5.out, hp2, HG5.out⟩
      · have hz' : ((er : Int) != 0) = true := by simpa using hz
        have hd0 := hf3 hz
        have HST2 : Hid (R = (l, er, p)) := Lib.hid (by rw [HE.out]; unfold rowStep; exact if_pos hz)
        simp at hd0
        subst hd0
        have HNE := Lib.hid hz
        clear hf3 hf4 HE hz HC HD
        go_wp2_with (go_at_call 33; (with_reducible refine HCALL.out.mono ?_); rintro e w4 ⟨rfl, hb1, hb2⟩; (have HX4 := Lib.hid hb1; have HG4 := Lib.hid (grown_trans HG.out hb2); have hs4 := hb2.size; have HO4 := Lib.hid (HO.out.keep hb2 (ne_of_row (fun k hk e => by have := (HO.out.lt k hk).1; injection e with e; omega))); clear hb1 hb2))
        go_ret2
        rw [HST2.out]
        exact ⟨_, p + 0, rfl, fun h => absurd h HNE.out, HX4.out, hpd, HG4.out⟩
    · have hlti : ¬ (l.length : Int) < (n : Int) := by omega
      have HE := Lib.hid (HSTOP.out gk l (0, p) (fun h => hlt h.2))
      rw [HRN.out] at HE
      clear hlt hf HC HD
      go_wp2
      go_ret2
      rw [HE.out]
      first | exact ⟨_, p, rfl, fun _ => ⟨HO.out, rfl⟩, HX.out, hple, HG.out⟩ | exact ⟨_, rfl, p, fun _ => ⟨HO.out, rfl⟩, HX.out, hple, HG.out⟩
end Go.Cm

/- The walk of the document's stored head. Conditions: the reader is there. -/
namespace Go.Cm
open Go.RowKit Go.Proofs

theorem Own.keepN {w w' : World} {B E b n cap : Nat} {xs : List Value} {row : Option Nat} (h : Own w B E (.slice (some ⟨b, 0, none⟩) n cap) xs) (hg : w.grownBy w' row) (hne : row ≠ some b) : Own w' B E (.slice (some ⟨b, 0, none⟩) n cap) xs := h.keep hg (.inr (fun e => hne e.symm))
theorem bitsA_two {N T p n : Nat} (h : (bitsA N T p n).2.1 ≠ 0) : (bitsA N T p n).2.1 = 2 := by
  unfold bitsA at h ⊢
  split
  · rename_i hc
    rw [if_pos hc] at h
    exact absurd rfl h
  · rfl
theorem xb_zero (N T n p : Nat) : xb N T n (0, p) = bitsA N T p n := rfl
theorem xb_bad {N T n e p : Nat} (h : e ≠ 0) : xb N T n (e, p) = (0, (e, p)) := if_neg h
/-- what a function of the document's that reads a head answers -/
def RetHR (H : HeadN) (er pf : Nat) (s : ByteArray) (g : Nat) (w : World) (e : Ending) (w' : World) : Prop :=
  ∃ v1 v2 p', e = .returned (.tuple #[.agg #[.bool H.fin, .int .i64 (H.kind : Nat), .int .i64 (H.size : Nat), v1, v2], .int .i64 (er : Nat)]) ∧ Own w' w.heap.size 3 v1 (ints (nls H.lits)) ∧ Own w' w.heap.size 3 v2 (ints (nls H.dists)) ∧ BoxT w' g s p' ∧ p' ≤ 8 * s.size ∧ (er = 0 → p' = pf) ∧ w.grownBy w' (some g)
set_option maxRecDepth 100000 in
set_option maxHeartbeats 1000000 in
theorem storedRR {w : World} {g p k : Nat} {s : ByteArray} {fin : Bool} (h : BoxT w g s p) (hs : s.size ≤ 4294967296) (hp : p ≤ 8 * s.size) :
    Calls Tryz.prog 42 #[.pointer (some ⟨g, 0, none⟩), .agg #[.bool fin, .int .i64 (k : Nat), .int .i64 0, .slice none 0 0, .slice none 0 0]] w
      (RetHR (if (storedN (numS s) (8 * s.size) (0, p)).2.1 = 0 then ⟨fin, k, (storedN (numS s) (8 * s.size) (0, p)).1, [], []⟩ else HeadN.zero) (storedN (numS s) (8 * s.size) (0, p)).2.1 (storedN (numS s) (8 * s.size) (0, p)).2.2 s g w) := by
  have HB := Lib.hid h
  have hgw := h.lt
  have hp8 : alignN p ≤ 8 * s.size := by unfold alignN; omega
  have HAL := Lib.hid (fun (W : World) (h : BoxT W g s p) => alignT h hs hp)
  have HBT : Hid (∀ (W : World) (p : Nat), BoxT W g s p → p ≤ 8 * s.size → Calls Tryz.prog 31 #[.pointer (some ⟨g, 0, none⟩), .int .i64 16] W (RetBits BoxT s p 16 g W)) := Lib.hid (fun W p hb hp => bitsT hb hs 16 (by omega) hp)
  have HP1 := Lib.hid (bitsA_le (N := numS s) (n := 16) hp8).1
  have HB1 := Lib.hid (fun W h => HBT.out W (alignN p) h hp8)
  have ht1 := bitsA_two (N := numS s) (T := 8 * s.size) (p := alignN p) (n := 16)
  have hl1 := bitsA_lt (N := numS s) (T := 8 * s.size) (p := alignN p) (n := 16)
  obtain ⟨D, hD⟩ : ∃ D, D = storedN (numS s) (8 * s.size) (0, p) := ⟨_, rfl⟩
  rw [← hD]
  obtain ⟨H, hH⟩ : ∃ H, H = if D.2.1 = 0 then (⟨fin, k, D.1, [], []⟩ : HeadN) else HeadN.zero := ⟨_, rfl⟩
  rw [← hH]
  have HHD := Lib.hid hH
  clear hH
  unfold storedN at hD
  dsimp only at hD
  rw [xb_zero] at hD
  unfold RetBits at HB1
  obtain ⟨r1, h1⟩ : ∃ r1, r1 = bitsA (numS s) (8 * s.size) (alignN p) 16 := ⟨_, rfl⟩
  rw [← h1] at hD HB1 HP1 ht1 hl1
  clear h1
  obtain ⟨n, e1, p1⟩ := r1
  have HP1' := HP1.out
  have HB2 := Lib.hid (fun W h => HBT.out W p1 h HP1')
  have HP2 := Lib.hid (bitsA_le (N := numS s) (n := 16) HP1').1
  have ht2 := bitsA_two (N := numS s) (T := 8 * s.size) (p := p1) (n := 16)
  have hl2 := bitsA_lt (N := numS s) (T := 8 * s.size) (p := p1) (n := 16)
  have HX2 : Hid (e1 = 0 → xb (numS s) (8 * s.size) 16 (e1, p1) = bitsA (numS s) (8 * s.size) p1 16) := Lib.hid (fun h => by rw [h]; rfl)
  unfold RetBits at HB2
  generalize bitsA (numS s) (8 * s.size) p1 16 = r2 at *
  obtain ⟨m, e2, p2⟩ := r2
  simp only at hl1 hl2 ht1 ht2 hD
  have HD := Lib.hid hD
  have HR0 : Hid (∀ w1 : World, (w.alloc (.cells #[Value.bool fin, .int .i64 (k : Nat), .int .i64 0, .slice none 0 0, .slice none 0 0] 60)).alloc (.cells #[Value.bool false, .int .i64 0, .int .i64 0, .slice none 0 0, .slice none 0 0] 60) = w1 → Own w1 (w.heap.size + 1) 60 (.slice (some ⟨w.heap.size + 1, 0, none⟩) 5 5) zH.toList ∧ Own w1 w.heap.size 60 (.slice (some ⟨w.heap.size, 0, none⟩) 5 5) [Value.bool fin, .int .i64 (k : Nat), .int .i64 (0 : Nat), .slice none 0 0, .slice none 0 0] ∧ BoxT w1 g s p ∧ Below w.heap.size w w1) := Lib.hid (fun w1 e => by
    subst e
    have h1 := own_lit (w.alloc (.cells #[Value.bool fin, .int .i64 (k : Nat), .int .i64 0, .slice none 0 0, .slice none 0 0] 60)) (w.heap.size + 1) zH 60 (by simp [zH]) (by simp)
    have h2 := (own_lit w w.heap.size #[Value.bool fin, .int .i64 (k : Nat), .int .i64 0, .slice none 0 0, .slice none 0 0] 60 (by simp) (Nat.le_refl _)).up (below_alloc _ (.cells zH 60))
    refine ⟨by simpa [zH] using h1, by simpa [zH] using h2, HB.out.up (by repeat (first | exact Below.refl _ _ | assumption | refine b_drewN ?_ _ | refine Below.drew ?_ | refine b_ext' ?_ _ | refine b_alloc' ?_ _)), (by repeat (first | exact Below.refl _ _ | assumption | refine b_drewN ?_ _ | refine Below.drew ?_ | refine b_ext' ?_ _ | refine b_alloc' ?_ _))⟩)
  clear hD h HBT hp8 HP1'
  unfold RetHR
  go_enter Tryz.func42, Tryz.ntmps42
  go_upto_region 4 with (first | (go_at_call 67; (obtain ⟨hr0, hh0, hx0, hbl0⟩ := HR0.out _ rfl); (with_reducible refine (HAL.out _ hx0).mono ?_); rintro e w2 ⟨rfl, hb1, hg1⟩; (have hne1 := hbl0.size; have HR2 := Lib.hid (hr0.keepN hg1 (fun e => by injection e with e; omega)); have HH2 := Lib.hid (hh0.keepN hg1 (fun e => by injection e with e; omega)); have HG2 := Lib.hid (grown_trans (grown_below hbl0 (some g)) hg1); have HX2' := Lib.hid hb1; have HC2 := Lib.hid (HB1.out w2 hb1); clear hr0 hh0 hx0 hbl0 hb1 hg1 HR0 HAL HB1)) | (go_at_call 31; first | ((with_reducible refine HC2.out.mono ?_); rintro e w3 ⟨rfl, hb1, hg1⟩; (have HR3 := Lib.hid (HR2.out.keepN hg1 (fun e => by injection e with e; omega)); have HH3 := Lib.hid (HH2.out.keepN hg1 (fun e => by injection e with e; omega)); have HG3 := Lib.hid (grown_trans HG2.out hg1); have HC3 := Lib.hid (HB2.out w3 hb1); clear hb1 hg1 HC2 HB2 HR2 HH2 HG2)) | ((with_reducible refine HC3.out.mono ?_); rintro e w4 ⟨rfl, hb1, hg1⟩; (have HR4 := Lib.hid (HR3.out.keepN hg1 (fun e => by injection e with e; omega)); have HH4 := Lib.hid (HH3.out.keepN hg1 (fun e => by injection e with e; omega)); have HG4 := Lib.hid (grown_trans HG3.out hg1); have HX4 := Lib.hid hb1; clear hb1 hg1 HC3 HR3 HH3 HG3))))
  by_cases h1 : e1 = 0
  · subst h1
    have HDB := Lib.hid HD.out
    rw [HX2.out rfl] at HDB
    by_cases h2 : e2 = 0
    · subst h2
      by_cases hc : m + n = 65535
      · have hci : ((n : Int) + (m : Int) != 65535) = false := by simp; omega
        have HDE : Hid (D = (n, (0, p2))) := Lib.hid (by rw [HDB.out]; exact congrArg (Prod.mk n) (if_pos hc))
        have hhz : H = ⟨fin, k, n, [], []⟩ := by rw [HHD.out, HDE.out]; rfl
        have HHZ := Lib.hid hhz
        clear hc hhz HD HDB HHD HX2
        have hf4 := HH4.out.free 2
        have hc4 := HH4.out.cell (i := 2) (by simp)
        have hb4 := HH4.out.blk.2
        have hst := HH4.out.store 2 (.int .i64 (n : Nat))
        have HST := Lib.hid hst.1
        have HSG := Lib.hid hst.2
        have HR5 := Lib.hid (HR4.out.keepN hst.2 (fun e => by injection e with e; omega))
        obtain ⟨A, hA, hAs, hAl⟩ := hst.1.whole
        have hA1 : ∀ u ∈ A.toList, u.oneCell' = true := by
          rw [hAl]; exact head_one fin k n none none 0 0 0 0
        have HAL := Lib.hid hAl
        clear hst hAl
        go_wp2_with (first | (refine load_box rfl 60 5 _ rfl w.heap.size rfl A hAs hA _ Tryz.underlying60 rfl (by kernel_rfl) ?_) | (refine wpList_store_agg rfl 60 _ _ rfl (w.heap.size + 1) 60 (w.heap.size + 1) 5 5 rfl A rfl (by rw [hAs]; kernel_rfl) _ HR5.out (by rw [hAs]; simp [zH]) hA1 ?_; intro w9 hown9 hg9; (have HG9 := Lib.hid hg9; have HR9 := Lib.hid hown9; clear hown9 hg9)))
        have hr9 := HR9.out
        rw [hAs, List.drop_of_length_le (by simp [zH]), List.append_nil] at hr9
        refine ret_cell_tmp (s := 4) (b := 5) (ad := ⟨w.heap.size + 1, 0, none⟩) (x := .agg A) (y := .int .i64 0) rfl rfl rfl rfl (load_whole (n := 5) hr9 _ Tryz.underlying60 rfl (by kernel_rfl)) ?_
        have hAe : A = #[.bool fin, .int .i64 (k : Nat), .int .i64 (n : Nat), .slice none 0 0, .slice none 0 0] := by
          rw [← Array.toArray_toList (xs := A), HAL.out]; rfl
        rw [HHZ.out, HDE.out, hAe]
        exact ⟨_, _, p2, rfl, Own.nil _ _ _, Own.nil _ _ _, (HX4.out.stay HSG.out (fun e => by injection e with e; omega)).stay HG9.out (fun e => by injection e with e; omega), HP2.out, fun _ => rfl, grown_new (grown_new HG4.out HSG.out (Nat.le_refl _)) HG9.out (by omega)⟩
      · have hci : ((n : Int) + (m : Int) != 65535) = true := by simp; omega
        have HDE : Hid (D = (n, (6, p2))) := Lib.hid (by rw [HDB.out]; exact congrArg (Prod.mk n) (if_neg hc))
        clear hc HD HDB HX2
        go_wp2_with (refine wpList_store_agg rfl 60 _ _ rfl (w.heap.size + 1) 60 (w.heap.size + 1) 5 5 rfl zH rfl (by kernel_rfl) _ HR4.out (by simp [zH]) zH_one ?_; intro w9 hown9 hg9; (have HG9 := Lib.hid hg9; have HR9 : Hid (Own w9 (w.heap.size + 1) 60 (.slice (some ⟨w.heap.size + 1, 0, none⟩) 5 5) zH.toList) := Lib.hid hown9; clear hown9 hg9))
        refine ret_cell_tmp (s := 4) (b := 5) (ad := ⟨w.heap.size + 1, 0, none⟩) (x := .agg zH) (y := .int .i64 6) rfl rfl rfl rfl (load_whole (n := 5) HR9.out _ Tryz.underlying60 rfl (by kernel_rfl)) ?_
        have hhz : H = HeadN.zero := by rw [HHD.out, HDE.out]; rfl
        rw [hhz, HDE.out]
        exact ⟨_, _, p2, rfl, Own.nil _ _ _, Own.nil _ _ _, HX4.out.stay HG9.out (fun e => by injection e with e; omega), HP2.out, (fun h => by cases h), grown_new HG4.out HG9.out (by omega)⟩
    · have h2i : ((e2 : Int) != 0) = true := by simpa using h2
      have HDE : Hid (D = (n, (2, p2))) := Lib.hid (by
        rw [HDB.out]
        refine congrArg (Prod.mk n) ?_
        have e := ht2 h2
        show (if m + n = 65535 then (e2, p2) else xf 6 (e2, p2)) = _
        rw [xf_of (by exact h2), e]
        split <;> rfl)
      clear h2 HD HDB HX2 ht2
      go_wp2_with (refine wpList_store_agg rfl 60 _ _ rfl (w.heap.size + 1) 60 (w.heap.size + 1) 5 5 rfl zH rfl (by kernel_rfl) _ HR4.out (by simp [zH]) zH_one ?_; intro w9 hown9 hg9; (have HG9 := Lib.hid hg9; have HR9 : Hid (Own w9 (w.heap.size + 1) 60 (.slice (some ⟨w.heap.size + 1, 0, none⟩) 5 5) zH.toList) := Lib.hid hown9; clear hown9 hg9))
      refine ret_cell_tmp (s := 4) (b := 5) (ad := ⟨w.heap.size + 1, 0, none⟩) (x := .agg zH) (y := .int .i64 2) rfl rfl rfl rfl (load_whole (n := 5) HR9.out _ Tryz.underlying60 rfl (by kernel_rfl)) ?_
      have hhz : H = HeadN.zero := by rw [HHD.out, HDE.out]; rfl
      rw [hhz, HDE.out]
      exact ⟨_, _, p2, rfl, Own.nil _ _ _, Own.nil _ _ _, HX4.out.stay HG9.out (fun e => by injection e with e; omega), HP2.out, (fun h => by cases h), grown_new HG4.out HG9.out (by omega)⟩
  · have h1i : ((e1 : Int) != 0) = true := by simpa using h1
    have HDE : Hid (D = (n, (2, p1))) := Lib.hid (by
      rw [HD.out]
      refine congrArg (Prod.mk n) ?_
      have e := ht1 h1
      rw [xb_bad h1, xf_of (by exact h1), e]
      split <;> rfl)
    clear h1 HD HX2 ht1
    go_wp2_with (refine wpList_store_agg rfl 60 _ _ rfl (w.heap.size + 1) 60 (w.heap.size + 1) 5 5 rfl zH rfl (by kernel_rfl) _ HR4.out (by simp [zH]) zH_one ?_; intro w9 hown9 hg9; (have HG9 := Lib.hid hg9; have HR9 : Hid (Own w9 (w.heap.size + 1) 60 (.slice (some ⟨w.heap.size + 1, 0, none⟩) 5 5) zH.toList) := Lib.hid hown9; clear hown9 hg9))
    refine ret_cell_tmp (s := 4) (b := 5) (ad := ⟨w.heap.size + 1, 0, none⟩) (x := .agg zH) (y := .int .i64 2) rfl rfl rfl rfl (load_whole (n := 5) HR9.out _ Tryz.underlying60 rfl (by kernel_rfl)) ?_
    have hhz : H = HeadN.zero := by rw [HHD.out, HDE.out]; rfl
    rw [hhz, HDE.out]
    exact ⟨_, _, p2, rfl, Own.nil _ _ _, Own.nil _ _ _, HX4.out.stay HG9.out (fun e => by injection e with e; omega), HP2.out, (fun h => by cases h), grown_new HG4.out HG9.out (by omega)⟩
end Go.Cm
