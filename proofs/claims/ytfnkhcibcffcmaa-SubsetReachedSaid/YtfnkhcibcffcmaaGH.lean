/- Texts of this claim, joined: walks of small functions and plain facts about them. Conditions: as each says. -/
import Derived.Test.YtfnkhcibcffcmaaGD
import Derived.Test.YtfnkhcibcffcmaaGC
import Derived.Test.YtfnkhcibcffcmaaGF
import Derived.Laws.EntriesVeiled
/- What Make lays of trees, in plain Lean. Conditions: none. -/
namespace Go.Cm

def treeF (f : Fo) (s : St) : Pc × St := match f with
  | .cons x k _ => nodeS x (fun s => layF k s) s
  | .nil => (zP, s)
def stepF (f : Fo) (i : Nat) (s : St) : St :=
  let y := treeF f s
  let t := freeS 0 y.1.f y.2
  ⟨t.e, t.r.set y.1.l (i : Int)⟩
/-- the maker's state behind the first i trees -/
def mkF (fs : List Fo) : Nat → St
  | 0 => newS ⟨[], []⟩
  | i + 1 => stepF (fs.getD i .nil) i (mkF fs i)
noncomputable def mkS (ll : List (List Nd)) (i : Nat) : St := mkF (ll.map treeOf) i

theorem getD_treeOf (ll : List (List Nd)) (i : Nat) (h : i < ll.length) : (ll.map treeOf).getD i .nil = treeOf (ll.getD i []) := by simp [List.getD, h]
structure MkOk (s : St) (n : Int) (i : Nat) : Prop where
  len : (s.e.length : Int) = n
  rlen : (s.r.length : Int) = n
  tot : (tot s.e : Int) ≤ 2 * n + i
theorem sumS_le (ll : List (List Nd)) (i : Nat) (_hi : i ≤ ll.length) : 0 ≤ sumS ll i ∧ sumS ll i ≤ (ll.map sizeL).sum := by
  have key : ∀ l : List (List Nd), 0 ≤ (l.map sizeL).sum := fun l => by
    induction l with
    | nil => simp
    | cons a l ih => simp only [List.map_cons, List.sum_cons]; have := (sizeL_le a).1; omega
  refine ⟨key _, ?_⟩
  have h : ll = ll.take i ++ ll.drop i := (List.take_append_drop i ll).symm
  have h2 : (ll.map sizeL).sum = ((ll.take i).map sizeL).sum + ((ll.drop i).map sizeL).sum := by
    rw [← List.sum_append, ← List.map_append, List.take_append_drop]
  have := key (ll.drop i)
  unfold sumS; omega
theorem mk_ok (ll : List (List Nd)) (hc : ∀ l ∈ ll, Chk l) (hs : 1 + (ll.map sizeL).sum ≤ 3000) : ∀ i, i ≤ ll.length → MkOk (mkS ll i) (1 + sumS ll i) i
  | 0, _ => ⟨by simp [mkS, mkF, newS, sumS], by simp [mkS, mkF, newS, sumS], by simp [mkS, mkF, newS, sumS, tot]⟩
  | i + 1, h => by
    have ih := mk_ok ll hc hs i (by omega)
    have hl := hc (ll.getD i []) (by simp [List.getD, show i < ll.length by omega])
    obtain ⟨x, k, h1, h2, h3, h4, h5, h6, h7, h8⟩ := chk_facts hl
    rw [List.append_nil] at h1
    have hss := sumS_succ ll i (by omega)
    have hsl := (sumS_le ll (i + 1) h).2
    have hs0 := (sumS_le ll i (by omega)).1
    rw [h8] at hss
    have hz := sizeN_nonneg h4 (sizeF_le k h5).1
    have hu : sizeN x (sizeF k) = unodeN x (usz k) := by
      have := usz_eq (f := .cons x k .nil) ⟨h4, h5, trivial⟩ (by simp only [sizeF]; omega)
      simpa [sizeF, usz] using this
    have hok := node_ok x (fun s => layF k s) (usz k) (cnt k) h4 h2 (lay_ok k h3 h5) (mkS ll i)
    have a1 := hok.len
    have a2 := hok.rlen
    have a4 := hok.tot
    simp only at a1 a2 a4
    have e : mkS ll (i + 1) = stepF (.cons x k .nil) i (mkS ll i) := by
      show stepF _ _ _ = _
      rw [getD_treeOf ll i (by omega), h1, treeOf_flat x k h2 h3]
      rfl
    rw [e]
    have b1 := ih.len
    have b2 := ih.rlen
    have b3 := ih.tot
    have hf := freeS_tot 0 (nodeS x (fun s => layF k s) (mkS ll i)).1.f (nodeS x (fun s => layF k s) (mkS ll i)).2
    refine ⟨?_, ?_, ?_⟩
    · simp only [stepF, treeF, freeS_len]; omega
    · simp only [stepF, treeF, freeS_r, List.length_set]; omega
    · simp only [stepF, treeF]; push_cast; omega
end Go.Cm

/- The walks of the maker's start and of Make. Conditions: none. -/
namespace Go.Cm
open Go.RowKit Go.Proofs

set_option maxRecDepth 100000 in
theorem startP {w : World} : Calls Try.prog 35 #[] w fun e w' => ∃ S, e = .returned (.pointer (some ⟨w.heap.size, 0, none⟩)) ∧ MkT w' S w.heap.size (w.heap.size + 1) ⟨[], []⟩ 0 ∧ Below w.heap.size w w' ∧ (∀ k, S k → w.heap.size ≤ k) := by
  go_enter Try.func35, Try.ntmps35
  go_wp2
  go_ret
  have hb1 := below_alloc w (.cells #[.slice none 0 0, .int .i64 0, .slice none 0 0, stV (w.heap.size + 1), ffV (w.heap.size + 1)] 80)
  have hb2 := below_alloc (w.alloc (.cells #[.slice none 0 0, .int .i64 0, .slice none 0 0, stV (w.heap.size + 1), ffV (w.heap.size + 1)] 80)) (.cells #[.pointer (some ⟨w.heap.size, 0, none⟩)] 75)
  refine ⟨MkS w.heap.size (.slice none 0 0) (.slice none 0 0) [], rfl, ⟨.slice none 0 0, [], .slice none 0 0, ⟨?_, ?_, ?_, Own.nil _ _ _, rfl, fun i hi => absurd hi (Nat.not_lt_zero i), Own.nil _ _ _, ?_⟩, rfl⟩, hb1.trans (hb2.mono (by simp)), ?_⟩
  · have h := own_lit w 0 #[.slice none 0 0, .int .i64 0, .slice none 0 0, stV (w.heap.size + 1), ffV (w.heap.size + 1)] 80 (by simp) (Nat.zero_le _)
    have h2 := h.up hb2
    simpa [stV, ffV] using h2
  · have h : (w.alloc (.cells #[.slice none 0 0, .int .i64 0, .slice none 0 0, stV (w.heap.size + 1), ffV (w.heap.size + 1)] 80)).heap.size = w.heap.size + 1 := by simp
    have h2 := World.cell?_alloc_new (w.alloc (.cells #[.slice none 0 0, .int .i64 0, .slice none 0 0, stV (w.heap.size + 1), ffV (w.heap.size + 1)] 80)) #[.pointer (some ⟨w.heap.size, 0, none⟩)] 75 0
    rw [h] at h2
    exact h2
  · simp
  · intro i j k hi hj
    have key : ∀ i : Nat, (mkL (w.heap.size + 1) w.heap.size (.slice none 0 0) (.slice none 0 0) [])[i]? = some (some k) → (i = 0 ∧ k = w.heap.size + 1) ∨ (i = 1 ∧ k = w.heap.size) := fun i h => by
      rcases i with _ | _ | _ | _ | i
      · simp [mkL] at h; exact .inl ⟨rfl, h.symm⟩
      · simp [mkL] at h; exact .inr ⟨rfl, h.symm⟩
      · simp [mkL, Value.ownBlock] at h
      · simp [mkL, Value.ownBlock] at h
      · simp [mkL] at h
    rcases key i hi with ⟨h1, h2⟩ | ⟨h1, h2⟩ <;> rcases key j hj with ⟨h3, h4⟩ | ⟨h3, h4⟩ <;> omega
  · rintro k (rfl | h | h | ⟨i, hi, -⟩)
    · exact Nat.le_refl _
    · cases h
    · cases h
    · exact absurd hi (Nat.not_lt_zero i)

/-- a slice of slices of edges -/
def EdgesAt (w : World) (v : Value) (ll : List (List Ed)) : Prop := ∃ vs, Sl w v vs ∧ vs.length = ll.length ∧ ∀ i, i < ll.length → SlK 6 w (vs.getD i undef) ((ll.getD i []).map edC)
theorem EdgesAt.up {w w' : World} {v : Value} {ll : List (List Ed)} (h : EdgesAt w v ll) (hb : Below w.heap.size w w') : EdgesAt w' v ll := by
  obtain ⟨vs, h1, h2, h3⟩ := h
  exact ⟨vs, h1.up hb, h2, fun i hi => (h3 i hi).up hb⟩
/-- an automaton as a value -/
def NfaV (w : World) (A : Array Value) (e : List (List Ed)) (F : Int) (r : List Int) : Prop := ∃ ve vr, A = #[ve, .int .i64 F, vr] ∧ EdgesAt w ve e ∧ IntsAt w vr r
theorem NfaV.up {w w' : World} {A : Array Value} {e : List (List Ed)} {F : Int} {r : List Int} (h : NfaV w A e F r) (hb : Below w.heap.size w w') : NfaV w' A e F r := by
  obtain ⟨ve, vr, h1, h2, h3⟩ := h
  exact ⟨ve, vr, h1, h2.up hb, h3.up hb⟩
theorem Mk.nfa {w : World} {g q : Nat} {ve : Value} {vs : List Value} {vr : Value} {ll : List (List Ed)} {rl : List Int} {F : Int} (h : Mk w g q ve vs vr ll rl F) : NfaV w #[ve, .int .i64 F, vr] ll F rl :=
  ⟨ve, vr, rfl, ⟨vs, h.outer.sl, h.len, fun i hi => (h.rows i hi).sl⟩, h.rules.sl⟩
theorem nodesB_of {w : World} {v : Value} {l : List Nd} (h : NodesAt w v l) (hp : 0 < l.length) : ∃ b, NodesB w b v l := by
  have h0 := h
  obtain ⟨oa, cap, b, off, hv, hd, hc⟩ := h.open
  obtain rfl := hd.hat hp
  exact ⟨b, h0, by rw [hv]; rfl, hp, by rw [hv]; rfl⟩

theorem zero_nfa (W : World) : (zeroValue 25).run Try.prog W = .ok (.agg #[.slice none 0 0, .int .i64 0, .slice none 0 0]) W := by kernel_rfl
theorem nfa_one (ve vr : Value) (F : Int) (h1 : ve.oneCell' = true) (h2 : vr.oneCell' = true) : ∀ u ∈ (#[ve, .int .i64 F, vr] : Array Value).toList, u.oneCell' = true := by
  intro u hu
  simp at hu
  rcases hu with rfl | rfl | rfl
  · exact h1
  · rfl
  · exact h2
theorem MkW.f1 {w : World} {S : Nat → Prop} {g q : Nat} {ll : List (List Ed)} {rl : List Int} {F : Int} (h : MkW w S g q ll rl F) : w.cell? ⟨g, 1, none⟩ = some (.int .i64 F) := by
  obtain ⟨ve, vs, vr, h1, rfl⟩ := h; exact h1.c1
theorem own_oneCell {w : World} {B E : Nat} {v : Value} {xs : List Value} (h : Own w B E v xs) : v.oneCell' = true := by
  rcases h.1.2 with ⟨rfl, _⟩ | ⟨g, cap, cur, rfl, _⟩ <;> rfl
theorem nfa_load {w : World} {p : Nat} {C : Array Value} {xs : List Value} (h : Own w 0 25 (.slice (some ⟨p, 0, none⟩) 3 3) (C.toList ++ xs.drop C.size)) (hs : C.size = 3 := by rfl) : (loadVar 25 ⟨p, 0, none⟩).run Try.prog w = .ok (.agg C) w :=
  run_loadVar_cells w p 0 3 25 C _ (fun c hc => by
    rw [Nat.zero_add, h.cell (by simp; omega), List.getD_eq_getElem?_getD, List.getElem?_append_left (by simp; omega)]
    simp [Array.getD_eq_getD_getElem?]) hs Try.underlying25 rfl (by kernel_rfl)
theorem Mk.nfaKeep {w w' : World} {g q : Nat} {ve : Value} {vs : List Value} {vr : Value} {ll : List (List Ed)} {rl : List Int} {F : Int} (h : Mk w g q ve vs vr ll rl F) {p : Nat} (hg : w.grownBy w' (some p)) (hp : ∀ k, MkS g ve vr vs k → p < k) (hq : p < q) : NfaV w' #[ve, .int .i64 F, vr] ll F rl :=
  (h.keep hg (fun j k hj e => by
    have e2 := Option.some.inj e
    rcases Nat.eq_zero_or_pos j with h0 | h0
    · subst h0
      have : q = k := Option.some.inj (Option.some.inj hj)
      omega
    · have hk : MkS g ve vr vs k := by
        rcases j with _ | _ | _ | _ | j
        · omega
        · exact .inl (Option.some.inj (Option.some.inj hj)).symm
        · exact .inr (.inl (by simpa [mkL] using hj))
        · exact .inr (.inr (.inl (by simpa [mkL] using hj)))
        · by_cases hjl : j < vs.length
          · rw [mkL_row _ _ _ _ _ j hjl] at hj
            exact .inr (.inr (.inr ⟨j, hjl, Option.some.inj hj⟩))
          · simp [mkL, List.getElem?_eq_none (show vs.length ≤ j by omega)] at hj
      have := hp k hk
      omega)).nfa
set_option maxRecDepth 100000 in
set_option maxHeartbeats 4000000 in
theorem makeP {w : World} {v : Value} {ll : List (List Nd)} (h : TreesAt w v ll) :
    Calls Try.prog 14 #[v] w fun e w' => ∃ A, e = .returned (.tuple #[.agg A, .int .i64 (mayL ll)]) ∧ (mayL ll = 0 → NfaV w' A (mkS ll ll.length).e 0 (mkS ll ll.length).r) ∧ (mayL ll ≠ 0 → A = #[.slice none 0 0, .int .i64 0, .slice none 0 0]) ∧ Below w.heap.size w w' := by
  have hA := below_alloc w (.cells #[.slice none 0 0, .int .i64 0, .slice none 0 0] 25)
  have HMY := Lib.hid (mayP (h.up hA))
  have HBX := Lib.hid (by simpa using own_lit w 0 #[.slice none 0 0, .int .i64 0, .slice none 0 0] 25 (by simp) (Nat.zero_le _) : Own (w.alloc (.cells #[.slice none 0 0, .int .i64 0, .slice none 0 0] 25)) 0 25 (.slice (some ⟨w.heap.size, 0, none⟩) 3 3) [.slice none 0 0, .int .i64 0, .slice none 0 0])
  have HTR := Lib.hid h
  obtain ⟨oa, cap, b, off, rfl, hd, hc⟩ := h.open
  have hix := index_tree hd
  have hm := hd.len
  have HB := Lib.hid hd.hblk
  have HC := Lib.hid hc
  obtain ⟨R, hR⟩ : ∃ R, R = mayL ll := ⟨_, rfl⟩
  rw [← hR] at HMY ⊢
  have HR := Lib.hid hR
  clear h hd hc hR
  have hSZ : (w.alloc (.cells #[.slice none 0 0, .int .i64 0, .slice none 0 0] 25)).heap.size = w.heap.size + 1 := by simp
  by_cases h0 : R = 0
  · have hbe : (R == 0) = true := by simpa using h0
    have HR0 := Lib.hid h0
    have HCK : Hid ((∀ l ∈ ll, Chk l) ∧ 1 + (ll.map sizeL).sum ≤ 3000 ∧ ll.length ≤ 32) := Lib.hid (by
      have h1 := HR.out
      rw [h0] at h1
      unfold mayL at h1
      by_cases c1 : ll.length = 0
      · rw [if_pos c1] at h1; cases h1
      rw [if_neg c1] at h1
      by_cases c2 : 32 < ll.length
      · rw [if_pos c2] at h1; cases h1
      rw [if_neg c2] at h1
      by_cases c3 : ∀ l ∈ ll, Chk l
      · rw [if_neg (fun h => h c3)] at h1
        by_cases c4 : 3000 < 1 + (ll.map sizeL).sum
        · rw [if_pos c4] at h1; cases h1
        · exact ⟨c3, by omega, by omega⟩
      · rw [if_pos c3] at h1; cases h1)
    have HMO := Lib.hid (fun i hi => mk_ok ll HCK.out.1 HCK.out.2.1 i hi)
    clear h0
    go_enter Try.func14, Try.ntmps14
    go_upto_region 4 with ((with_reducible go_at_call 34); refine HMY.out.mono ?_; rintro en w1 ⟨rfl, x1, rfl⟩)
    have HW1 := Lib.hid (b_ext' hA x1)
    have HBX1 := Lib.hid (HBX.out.up (ext_below _ x1))
    have hsz1 := size_ext (w.alloc (.cells #[.slice none 0 0, .int .i64 0, .slice none 0 0] 25)) x1
    rw [hSZ] at hsz1
    clear HMY HBX hA hSZ
    generalize ext (w.alloc (.cells #[.slice none 0 0, .int .i64 0, .slice none 0 0] 25)) x1 = w1 at *
    have HST := Lib.hid (startP (w := w1))
    generalize hg : w1.heap.size = g at HST
    have HGE := Lib.hid hg
    have hgw : w.heap.size + 1 ≤ g := by omega
    clear hg hsz1
    go_upto_region 6 with (first | ((with_reducible go_at_call 35); refine HST.out.mono ?_; rintro en w2 ⟨S2, rfl, hm2, hb2, hS2⟩; have HM2 := Lib.hid hm2; have HB2 := Lib.hid hb2; have HS2 := Lib.hid hS2; (have hc3 := hm2.f3); (have hgl := hm2.glt); clear hm2 hb2 hS2) | ((with_reducible go_at_call 53); refine (stateP HM2.out (by simp) (by simp)).mono ?_; rintro en w3 ⟨rfl, S3, hm3, hg3⟩; obtain ⟨ve, vz, vr, hmk, hS3⟩ := hm3; have HMK := Lib.hid hmk; have HG3 := Lib.hid hg3; (have hc1 := hmk.c1); (have hf1 := hmk.f 1); (have hgl3 := hmk.lt); clear hmk hg3))
    have hSF := HMK.out.setF 0
    rw [← hS3] at hSF
    have HW4 : Hid (Below w.heap.size w (w3.setCell ⟨g, 1, none⟩ (.int .i64 0))) := Lib.hid (by
      have e1 : Below w.heap.size w w2 := HW1.out.trans (HB2.out.mono (by have := HGE.out; omega))
      have e2 := (HG3.out.trans hSF.2).below (n := w.heap.size) e1.size (fun k hk => by have := HS2.out k hk; omega)
      exact e1.trans e2)
    have HM4 : Hid (MkT (w3.setCell ⟨g, 1, none⟩ (.int .i64 0)) S3 g (g + 1) (mkS ll 0) 0) := Lib.hid ⟨ve, vz, vr, hSF.1, hS3⟩
    have HS3 : Hid (∀ k, S3 k → w.heap.size + 1 ≤ k) := Lib.hid (fun k hk => by
      rcases HG3.out.sub k hk with h | h
      · have := HS2.out k h; omega
      · have := HB2.out.size; have := HGE.out; omega)
    have HBX4 : Hid (Own (w3.setCell ⟨g, 1, none⟩ (.int .i64 0)) 0 25 (.slice (some ⟨w.heap.size, 0, none⟩) 3 3) [.slice none 0 0, .int .i64 0, .slice none 0 0]) := Lib.hid (by
      refine (HG3.out.trans hSF.2).own (HBX1.out.up (HB2.out.mono (by have := HGE.out; omega))) (fun k hk e => ?_)
      have := HS2.out k e
      have : w.heap.size = k := Option.some.inj hk
      omega)
    clear HM2 HB2 HS2 hc3 hgl HMK HG3 hc1 hf1 hgl3 hSF hS3 HW1 HBX1 HST HGE
    generalize w3.setCell ⟨g, 1, none⟩ (.int .i64 0) = w4 at *
    go_wp2
    go_loopg [27] (ll.length) (fun gk iv wr => ∃ (i : Nat) (Sr : Nat → Prop), iv = .int .i64 i ∧ i ≤ ll.length ∧ MkT wr Sr g (g + 1) (mkS ll i) 0 ∧ Below w.heap.size w wr ∧ (∀ k, Sr k → w.heap.size + 1 ≤ k) ∧ Own wr 0 25 (.slice (some ⟨w.heap.size, 0, none⟩) 3 3) [.slice none 0 0, .int .i64 0, .slice none 0 0] ∧ gk = ll.length - i)
    case atStart => exact ⟨0, S3, rfl, Nat.zero_le _, HM4.out, HW4.out, HS3.out, HBX4.out, rfl⟩
    case round =>
      obtain ⟨i, Sr, rfl, hi, hm1, hw, hS, hbx, rfl⟩ := hrel
      have HM1 := Lib.hid hm1
      have HW := Lib.hid hw
      have HS1 := Lib.hid hS
      have HBX1 := Lib.hid hbx
      clear hm1 hw hS hbx HM4 HW4 HS3 HBX4
      by_cases hlt : i < ll.length
      · obtain ⟨u, hcu, hnu⟩ := HC.out i hlt
        have hb := HB.out (by omega)
        have hcw := (HW.out.cell (p := ⟨b, off + i, none⟩) hb).trans hcu
        have hbw : b < wr.heap.size := by have := HW.out.size; omega
        have hck := HCK.out.1 (ll.getD i []) (by simp [List.getD, hlt])
        obtain ⟨x, k, h1, h2, h3, h4, h5, h6, h7, h8⟩ := chk_facts hck
        rw [List.append_nil] at h1
        rw [h1] at hnu
        obtain ⟨b1, hnb⟩ := nodesB_of hnu (by simp)
        have hbl := hnb.lt
        have hmo := HMO.out i hi
        have hmo2 := HMO.out (i + 1) hlt
        have q1 := hmo.len
        have q2 := hmo.rlen
        have q3 := hmo.tot
        have hsl := (sumS_le ll (i + 1) hlt).2
        have hs0 := (sumS_le ll i hi).1
        have hss := sumS_succ ll i hlt
        rw [h8] at hss
        have hz := sizeN_nonneg h4 (sizeF_le k h5).1
        have hck2 := HCK.out.2
        have hu : sizeN x (sizeF k) = unodeN x (usz k) := by
          have := usz_eq (f := .cons x k .nil) ⟨h4, h5, trivial⟩ (by simp only [sizeF]; omega)
          simpa [sizeF, usz] using this
        have hok := node_ok x (fun s => layF k s) (usz k) (cnt k) h4 h2 (lay_ok k h3 h5) (mkS ll i)
        have hms : mkS ll (i + 1) = stepF (.cons x k .nil) i (mkS ll i) := by
          show stepF _ _ _ = _
          rw [getD_treeOf ll i hlt, h1, treeOf_flat x k h2 h3]
          rfl
        have k1 := hok.len
        have k2 := hok.rlen
        have k3 := hok.rng 0 (by omega)
        have k4 := hok.tot
        simp only [List.getD_cons_zero] at k1 k2 k3 k4
        obtain ⟨Y, hY⟩ : ∃ Y, Y = nodeS x (fun s => layF k s) (mkS ll i) := ⟨_, rfl⟩
        obtain ⟨pf, hpf⟩ : ∃ pf, pf = Y.1.f := ⟨_, rfl⟩
        obtain ⟨pl, hpl⟩ : ∃ pl, pl = Y.1.l := ⟨_, rfl⟩
        have HTR2 := Lib.hid (treeM 400 wr Sr g (g + 1) (mkS ll i) 0 u b1 x k h7 (hnb.up HW.out) (fun e => by have := HS1.out _ e; omega) h7 h2 h3 h4 h5 HM1.out (by omega) (by omega) (by omega) pf pl (by rw [← hY]; exact hpf) (by rw [← hY]; exact hpl))
        rw [← hY] at HTR2 k1 k2 k3 k4
        rw [← hpf, ← hpl] at k3
        have HMS : Hid (mkS ll (i + 1) = ⟨(freeS 0 pf Y.2).e, (freeS 0 pf Y.2).r.set pl (i : Int)⟩) := Lib.hid (by rw [hms]; simp only [stepF, treeF]; rw [← hY, hpf, hpl])
        have HRB : Hid (Y.2.r.length ≤ 5000) := Lib.hid (by omega)
        have HKK : Hid (0 < Y.2.e.length ∧ pl < Y.2.r.length ∧ Y.2.e.length ≤ 5000 ∧ tot Y.2.e ≤ 20000) := Lib.hid ⟨by omega, by omega, by omega, by omega⟩
        have hi32 : i ≤ 32 := by omega
        clear hcu hck h1 h2 h3 h4 h5 h6 h7 h8 hnu hnb hbl hmo hmo2 q1 q2 q3 hsl hs0 hss hz hck2 hu hok hms k1 k2 k3 k4 hY hpf hpl
        go_wp2_with ((with_reducible go_at_call 36); refine HTR2.out.mono ?_; rintro en w5 ⟨rfl, S5, hm5, hg5⟩; have HM5 := Lib.hid hm5; have HG5 := Lib.hid hg5; clear hm5 hg5)
        have HM6 := Lib.hid (HM5.out.up (below_alloc w5 (.cells #[.int .i64 (pf : Nat), .int .i64 (pl : Nat)] 82)))
        have HG6 := Lib.hid (HG5.out.up (below_alloc w5 (.cells #[.int .i64 (pf : Nat), .int .i64 (pl : Nat)] 82)))
        have P86 : Hid (LB (w5.alloc (.cells #[.int .i64 (pf : Nat), .int .i64 (pl : Nat)] 82)) S5 w5.heap.size pf pl) := Lib.hid ⟨pcB_new w5 _ _, HM5.out.no (Nat.le_refl _)⟩
        clear HM5 HG5 HTR2
        generalize w5.heap.size = p8 at *
        generalize w5.alloc (.cells #[.int .i64 (pf : Nat), .int .i64 (pl : Nat)] 82) = w6 at *
        have hc4 := HM6.out.f4
        have hgl := HM6.out.glt
        have hc1 := HM6.out.f1
        have P8a := P86.out.box.c0
        have P8l := P86.out.box.lt
        have HFR := Lib.hid (freeT (HM6.out.up (drew_b _)) 0 pf HKK.out.1 (by have := HKK.out; omega) (by have := HKK.out; omega))
        rw [show ((0 : Nat) : Int) = 0 from rfl] at HFR
        go_wp2
        refine wp_region_tailg [0,1,2,3,4,5,6,7,8,9,10] [] [11] (by kernel_rfl) (by kernel_rfl) ?_
        simp only [pick, List.map_cons, List.map_nil, List.getD_cons_zero, List.getD_cons_succ]
        repeat (go_big_quiet_step (fail))
        refine wpQuiet_nil ?_
        unfold wpAct
        unfold wpAct
        go_wp2_with ((with_reducible go_at_call 54); refine HFR.out.mono ?_; rintro en w7 ⟨rfl, S7, hm, hg⟩; have HM7 := Lib.hid hm; have HG7 := Lib.hid ((HG6.out.up (drew_b _)).trans hg); have P87 := Lib.hid ((P86.out.up (drew_b _)).gw hg); clear hm hg)
        refine ⟨trivial, ?_⟩
        unfold wpAct
        clear HM6 HG6 P86 hc4 hgl hc1 P8a P8l HFR
        obtain ⟨ve, vz, vr, hmk, hS7⟩ := HM7.out
        have hpl := HKK.out.2.1
        have hrl : (ints (freeS 0 pf Y.2).r).length = Y.2.r.length := by simp
        obtain ⟨orr, cr, gr, hvr, hdr, -, hcr, hfr, -⟩ := hmk.rules.cases
        rw [hrl] at hvr hdr hcr hfr
        have hor := hdr.hat (by omega)
        subst hor
        subst hvr
        have hixr := fun (W : World) => index_any (P := Try.prog) 23 3 Try.underlying23 (by kernel_rfl) hdr W .i64 pl (by omega) (by omega)
        simp only [Int.toNat_natCast, Nat.zero_add] at hixr
        have hcrp := hcr pl hpl
        have hfrp := hfr pl hpl
        have hgrl := hdr.hblk (by omega)
        have hc2 := hmk.c2
        have hgl := hmk.lt
        have P8a := P87.out.box.c1
        have P8l := P87.out.box.lt
        have HSR := Lib.hid (hmk.setRule pl (i : Int))
        have hrb : Y.2.r.length ≤ 100000 := by have := hdr.hsml; have := HRB.out; omega
        clear hmk hdr hcr hfr hrl hpl
        go_wp2
        refine wp_region_tailg [0,1,2,3,4,5,6,7,8] [] [9] (by kernel_rfl) (by kernel_rfl) ?_
        simp only [pick, List.map_cons, List.map_nil, List.getD_cons_zero, List.getD_cons_succ]
        repeat (go_big_quiet_step (fail))
        refine wpQuiet_nil ?_
        unfold wpAct
        unfold wpAct
        go_wp2
        refine ⟨trivial, ?_⟩
        unfold wpAct
        go_wp2
        go_roundg (ll.length - (i + 1))
        case measure => omega
        case rel =>
          have hgz : Gw Sr wr S7 (w7.setCell ⟨gr, pl, none⟩ (.int .i64 (i : Int))).drew := (HG7.out.trans (by rw [hS7]; exact HSR.out.2)).up (drew_b _)
          have hbz := hgz.below (n := w.heap.size) HW.out.size (fun k hk => by have := HS1.out k hk; omega)
          refine ⟨i + 1, S7, by go_num, by omega, ?_, HW.out.trans hbz, fun k hk => ?_, ?_, rfl⟩
          · rw [HMS.out]
            exact MkW.up ⟨_, _, _, HSR.out.1, hS7⟩ (drew_b _)
          · rcases hgz.sub k hk with h | h
            · exact HS1.out k h
            · have := HBX1.out.blk.2; omega
          · exact hgz.own HBX1.out (fun k hk e => by have := HS1.out k e; have : w.heap.size = k := Option.some.inj hk; omega)
      · have hie : i = ll.length := by omega
        subst hie
        obtain ⟨ve, vz, vr, hmk, hS7⟩ := HM1.out
        have HMK := Lib.hid hmk
        have HCL : Hid (∀ c, c < 3 → wr.cell? ⟨g, 0 + c, none⟩ = some ((#[ve, .int .i64 0, vr] : Array Value).getD c undef)) := Lib.hid (fun c hcl => by
          rw [Nat.zero_add]
          rcases (show c = 0 ∨ c = 1 ∨ c = 2 by omega) with rfl | rfl | rfl
          · exact hmk.c0
          · exact hmk.c1
          · exact hmk.c2)
        have HON := Lib.hid (nfa_one ve vr 0 (own_oneCell hmk.outer) (own_oneCell hmk.rules))
        have hgl := hmk.lt
        clear hmk
        go_wp2_with (first | (refine wpList_load_cells rfl 25 _ rfl g 0 3 rfl _ _ HCL.out rfl Try.underlying25 rfl (by kernel_rfl) ?_) | (refine wpList_store_agg rfl 25 _ _ rfl 0 25 w.heap.size 3 3 rfl #[ve, .int .i64 0, vr] rfl (by kernel_rfl) _ HBX1.out (Nat.le_refl 3) HON.out ?_; intro wF hF hgF; have HF := Lib.hid hF; have HGF := Lib.hid hgF; clear hF hgF))
        refine ret_cell_tmp rfl rfl rfl rfl (nfa_load HF.out) ?_
        refine ⟨#[ve, .int .i64 0, vr], by rw [HR0.out]; rfl, fun _ => ?_, fun h => absurd HR0.out h, HW.out.grown HGF.out HW.out.size (fun j hj => by cases hj; exact Nat.le_refl _)⟩
        exact HMK.out.nfaKeep HGF.out (fun k hk => by rw [← hS7] at hk; have := HS1.out k hk; omega) (by omega)
  · have hbe : (R == 0) = false := by simpa using h0
    have HR0 := Lib.hid h0
    clear h0
    go_enter Try.func14, Try.ntmps14
    go_upto_region 3 with ((with_reducible go_at_call 34); refine HMY.out.mono ?_; rintro en w1 ⟨rfl, x1, rfl⟩)
    have HBX1 := Lib.hid (HBX.out.up (ext_below _ x1))
    have HW1 := Lib.hid (b_ext' hA x1)
    generalize ext (w.alloc (.cells #[.slice none 0 0, .int .i64 0, .slice none 0 0] 25)) x1 = w1 at *
    go_wp2_with (refine wpList_store_agg rfl 25 _ _ rfl 0 25 w.heap.size 3 3 rfl #[.slice none 0 0, .int .i64 0, .slice none 0 0] rfl (by kernel_rfl) _ HBX1.out (Nat.le_refl 3) (nfa_one _ _ _ rfl rfl) ?_; intro wF hF hgF; have HF := Lib.hid hF; have HGF := Lib.hid hgF; clear hF hgF)
    refine ret_cell_tmp rfl rfl rfl rfl (nfa_load HF.out) ?_
    exact ⟨_, rfl, fun h => absurd h HR0.out, fun _ => rfl, HW1.out.grown HGF.out HW1.out.size (fun j hj => by cases hj; exact Nat.le_refl _)⟩
end Go.Cm

/- The walks of the marks of states, and of whether two lists are alike. Conditions: none. -/
namespace Go.Cm
open Go.RowKit Go.Proofs

def mk1 (m : List Int) (s : Int) : List Int := if 0 ≤ s ∧ s < m.length then m.set s.toNat 1 else m
theorem mk1_length (m : List Int) (s : Int) : (mk1 m s).length = m.length := by unfold mk1; split <;> simp
def marksN (n : Nat) (st : List Int) : List Int := st.foldl mk1 (List.replicate n 0)
def markedN (m : List Int) : List Nat := (List.range m.length).filter fun i => decide (0 < m.getD i 0)
theorem foldl_take {α β : Type} (f : β → α → β) (b : β) (l : List α) (d : α) (j : Nat) (h : j < l.length) : (l.take (j + 1)).foldl f b = f ((l.take j).foldl f b) (l.getD j d) := by
  rw [List.take_succ_eq_append_getElem h, List.foldl_append]
  simp [List.getD, h]
theorem foldl_mk1_length (l : List Int) : ∀ m : List Int, (l.foldl mk1 m).length = m.length := by
  induction l with
  | nil => intro m; rfl
  | cons a l ih => intro m; simp only [List.foldl_cons]; rw [ih, mk1_length]
theorem range_filter_succ (p : Nat → Bool) (j : Nat) : (List.range (j + 1)).filter p = (List.range j).filter p ++ (if p j then [j] else []) := by
  rw [List.range_succ, List.filter_append]
  by_cases h : p j <;> simp [h]
theorem filter_len (p : Nat → Bool) (j : Nat) : ((List.range j).filter p).length ≤ j := Nat.le_trans (List.length_filter_le _ _) (by simp)

set_option maxRecDepth 100000 in
theorem markedP {w : World} {v : Value} {m : List Int} (h : IntsAt w v m) (hm : m.length ≤ 100000) :
    Calls Try.prog 65 #[v] w fun e w' => ∃ u, e = .returned u ∧ Own w' w.heap.size 3 u (ints (nz (markedN m))) ∧ Below w.heap.size w w' := by
  obtain ⟨oa, cap, b, off, rfl, hd, hc⟩ := h.open
  have hix := fun (W : World) (i : Nat) (hi : i < m.length) => index_any (P := Try.prog) 23 3 Try.underlying23 (by kernel_rfl) hd W .i64 i (by omega) (by omega)
  simp only [Int.toNat_natCast] at hix
  have HB := Lib.hid hd.hblk
  have HC := Lib.hid hc
  obtain ⟨n, hn⟩ : ∃ n, n = m.length := ⟨_, rfl⟩
  have HMN : Hid (markedN m = (List.range n).filter fun i => decide (0 < m.getD i 0)) := Lib.hid (by rw [hn]; rfl)
  rw [← hn] at hix HB HC hm ⊢
  clear h hd hc hn
  go_enter Try.func65, Try.ntmps65
  go_wp2
  go_loopg [3, 8] n (fun gk ov iv wr => ∃ i : Nat, iv = .int .i64 i ∧ i ≤ n ∧ Own wr w.heap.size 3 ov (ints (nz ((List.range i).filter fun i => decide (0 < m.getD i 0)))) ∧ Below w.heap.size w wr ∧ gk = n - i)
  case atStart => exact ⟨0, rfl, Nat.zero_le _, Own.nil _ _ _, Below.refl _ _, rfl⟩
  case round =>
    obtain ⟨i, rfl, hi, hown, hbel, rfl⟩ := hrel
    have HO := Lib.hid hown
    have HW := Lib.hid hbel
    clear hown hbel
    by_cases hlt : i < n
    · have hcell := (HW.out.cell (p := ⟨b, off + i, none⟩) (HB.out (by omega))).trans (HC.out i hlt)
      have hbw : b < wr.heap.size := by have := HW.out.size; have := HB.out (by omega); omega
      have hixi := fun W => hix W i hlt
      have HRS := Lib.hid (range_filter_succ (fun i => decide (0 < m.getD i 0)) i)
      have hfl := filter_len (fun i => decide (0 < m.getD i 0)) i
      have hsz := HW.out.size
      obtain ⟨x, hx⟩ : ∃ x, x = m.getD i 0 := ⟨_, rfl⟩
      rw [← hx] at hcell
      have HX := Lib.hid hx
      clear hx
      by_cases hp : 0 < x
      · have HRT : Hid ((List.range (i + 1)).filter (fun i => decide (0 < m.getD i 0)) = (List.range i).filter (fun i => decide (0 < m.getD i 0)) ++ [i]) := Lib.hid (by
          have hf : decide (0 < m.getD i 0) = true := by rw [← HX.out]; exact decide_eq_true hp
          rw [HRS.out]
          simp only [hf, if_true])
        generalize (List.range i).filter (fun i => decide (0 < m.getD i 0)) = fl at *
        have hlW := below_alloc wr (.cells #[.int .i64 (i : Int)] 3)
        have HLW := Lib.hid hlW
        clear hlW
        go_wp2_with (at_builtin; refine wpList_app rfl (.tmp 15) (.tmp 17) 23 rfl w.heap.size 3 (.int .i64 0) 8 Try.underlying23 (by kernel_rfl) rfl (by decide) u3 (ints (nz fl)) rfl (HO.out.up HLW.out) (.slice (some ⟨wr.heap.size, 0, none⟩) 1 1) (ints (nz [i])) rfl (by simpa [ints, nz] using sl_lit wr #[.int .i64 (i : Int)] 3 (by simp)) (ints_sing _) (by simp [nz]; omega) (Nat.le_trans hsz HLW.out.size) ?_; intro v' w5 hown1 hg1 hk1; have HO1 := Lib.hid hown1; have HG1 := Lib.hid hg1; clear hown1 hg1 hk1)
        go_roundg (n - (i + 1))
        case measure => omega
        case rel =>
          refine ⟨i + 1, by go_num, by omega, ?_, below_grown (HW.out.trans (HLW.out.mono hsz)) (Nat.le_trans hsz HLW.out.size) (HO.out.up HLW.out) HG1.out, rfl⟩
          rw [HRT.out, nz_append, ints_app]; exact HO1.out
      · have HRT : Hid ((List.range (i + 1)).filter (fun i => decide (0 < m.getD i 0)) = (List.range i).filter (fun i => decide (0 < m.getD i 0))) := Lib.hid (by
          have hf : decide (0 < m.getD i 0) = false := by rw [← HX.out]; exact decide_eq_false hp
          rw [HRS.out]
          simp only [hf, Bool.false_eq_true, if_false, List.append_nil])
        go_wp2
        go_roundg (n - (i + 1))
        case measure => omega
        case rel => exact ⟨i + 1, by go_num, by omega, by rw [HRT.out]; exact HO.out, HW.out, rfl⟩
    · have hie : i = n := by omega
      subst hie
      go_wp2
      go_ret
      exact ⟨u3, rfl, by rw [HMN.out]; exact HO.out, HW.out⟩

set_option maxRecDepth 100000 in
theorem intsR {w : World} {v u : Value} {a b : List Int} (h : IntsAt w v a) (h2 : IntsAt w u b) :
    Calls Try.prog 47 #[v, u] w fun e w' => e = .returned (.bool (decide (a = b))) ∧ ∃ x, w' = ext w x := by
  obtain ⟨oa, ca, ba, fa, rfl, hda, hca⟩ := h.open
  obtain ⟨ob, cb, bb, fb, rfl, hdb, hcb⟩ := h2.open
  have hia := fun (W : World) (i : Nat) (hi : i < a.length) => index_any (P := Try.prog) 23 3 Try.underlying23 (by kernel_rfl) hda W .i64 i (by omega) (by omega)
  have hib := fun (W : World) (i : Nat) (hi : i < b.length) => index_any (P := Try.prog) 23 3 Try.underlying23 (by kernel_rfl) hdb W .i64 i (by omega) (by omega)
  simp only [Int.toNat_natCast] at hia hib
  have HBA := Lib.hid hda.hblk
  have HBB := Lib.hid hdb.hblk
  have HCA := Lib.hid hca
  have HCB := Lib.hid hcb
  have hma := hda.len
  have hmb := hdb.len
  obtain ⟨R, hR⟩ : ∃ R, R = decide (a = b) := ⟨_, rfl⟩
  have HR := Lib.hid hR
  rw [← hR]
  obtain ⟨n, hn⟩ : ∃ n, n = a.length := ⟨_, rfl⟩
  obtain ⟨m, hm⟩ : ∃ m, m = b.length := ⟨_, rfl⟩
  have HN := Lib.hid hn
  have HM := Lib.hid hm
  rw [← hn] at hia HBA HCA hma ⊢
  rw [← hm] at hib HBB HCB hmb ⊢
  clear h h2 hda hdb hca hcb hR hn hm
  by_cases hl : n = m
  · subst hl
    go_enter Try.func47, Try.ntmps47
    go_wp2
    go_loopg [5] n (fun gk iv wr => ∃ i : Nat, iv = .int .i64 i ∧ i ≤ n ∧ (∀ q, q < i → a.getD q 0 = b.getD q 0) ∧ Below w.heap.size w wr ∧ gk = n - i)
    case atStart => exact ⟨0, rfl, Nat.zero_le _, fun q hq => absurd hq (Nat.not_lt_zero q), Below.refl _ _, rfl⟩
    case round =>
      obtain ⟨i, rfl, hi, hall, hbel, rfl⟩ := hrel
      have HA := Lib.hid hall
      have HW := Lib.hid hbel
      clear hall hbel
      by_cases hlt : i < n
      · have h1 := HBA.out (by omega)
        have h2 := HBB.out (by omega)
        have hcell := (HW.out.cell (p := ⟨ba, fa + i, none⟩) h1).trans (HCA.out i hlt)
        have hcell2 := (HW.out.cell (p := ⟨bb, fb + i, none⟩) h2).trans (HCB.out i hlt)
        have hbw : ba < wr.heap.size := by have := HW.out.size; omega
        have hbw2 : bb < wr.heap.size := by have := HW.out.size; omega
        have hixi := fun W => hia W i hlt
        have hixj := fun W => hib W i hlt
        obtain ⟨x, hx⟩ : ∃ x, x = a.getD i 0 := ⟨_, rfl⟩
        obtain ⟨y, hy⟩ : ∃ y, y = b.getD i 0 := ⟨_, rfl⟩
        rw [← hx] at hcell
        rw [← hy] at hcell2
        have HX := Lib.hid hx
        have HY := Lib.hid hy
        clear hx hy
        by_cases hxy : x = y
        · have hb1 : (x != y) = false := by simpa using hxy
          have HXY := Lib.hid hxy
          clear hxy
          go_wp2
          go_quiet (fail)
          go_wp2
          go_roundg (n - (i + 1))
          case measure => omega
          case rel =>
            refine ⟨i + 1, by go_num, by omega, fun q hq => ?_, b_drewN HW.out _, rfl⟩
            by_cases hqi : q = i
            · rw [hqi, ← HX.out, ← HY.out, HXY.out]
            · exact HA.out q (by omega)
        · have hb1 : (x != y) = true := by simpa using hxy
          have HV : Hid (R = false) := Lib.hid (by
            rw [HR.out]
            exact decide_eq_false (fun e => hxy (by rw [HX.out, HY.out, e])))
          clear hxy
          go_wp2
          go_quiet (fail)
          go_wp2
          go_ret
          exact ⟨by rw [HV.out]; rfl, ex_ext (b_drewN HW.out _)⟩
      · have HV : Hid (R = true) := Lib.hid (by
          rw [HR.out]
          refine decide_eq_true (List.ext_getElem? fun q => ?_)
          by_cases hq : q < n
          · have := HA.out q (by omega)
            have e1 := HN.out
            have e2 := HM.out
            rw [List.getElem?_eq_getElem (by omega), List.getElem?_eq_getElem (by omega)]
            simp only [List.getD_eq_getElem?_getD, List.getElem?_eq_getElem (show q < a.length by omega), List.getElem?_eq_getElem (show q < b.length by omega), Option.getD_some] at this
            rw [this]
          · have e1 := HN.out
            have e2 := HM.out
            rw [List.getElem?_eq_none (by omega), List.getElem?_eq_none (by omega)])
        go_wp2
        go_ret
        exact ⟨by rw [HV.out]; rfl, ex_ext HW.out⟩
  · have HV : Hid (R = false) := Lib.hid (by
      rw [HR.out]
      exact decide_eq_false (fun e => hl (by rw [HN.out, HM.out, e])))
    go_enter Try.func47, Try.ntmps47
    go_wp2
    go_ret
    exact ⟨by rw [HV.out]; rfl, refl_ext _⟩
end Go.Cm

/- Whether an automaton can be: the walks of the program's and the document's Right. Conditions: none. -/
namespace Go.Cm
open Go.RowKit Go.Proofs

def zE : Ed := ⟨0, false, 0, 0, 0, 0⟩
def edOk (n : Nat) (x : Ed) : Bool := decide (0 ≤ x.to ∧ x.to < n) && (!x.free || decide (x.a = 0 ∧ x.b = 0 ∧ x.c = 0 ∧ x.d = 0))
def rowOkE (n : Nat) (r : Int) (row : List Ed) : Bool := decide (-1 ≤ r ∧ r < 32) && row.all (edOk n)
def headOk (e : List (List Ed)) (F : Int) (r : List Int) : Bool := decide (1 ≤ e.length ∧ e.length ≤ 3000 ∧ r.length = e.length ∧ 0 ≤ F ∧ F < e.length)
def rightN (e : List (List Ed)) (F : Int) (r : List Int) : Bool := headOk e F r && (List.range e.length).all fun i => rowOkE e.length (r.getD i 0) (e.getD i [])
theorem rightN_iff {e : List (List Ed)} {F : Int} {r : List Int} : rightN e F r = true ↔ headOk e F r = true ∧ ∀ i, i < e.length → rowOkE e.length (r.getD i 0) (e.getD i []) = true := by
  unfold rightN
  rw [Bool.and_eq_true, List.all_eq_true]
  simp only [List.mem_range]
theorem row_iff {n : Nat} {r : Int} {row : List Ed} : rowOkE n r row = true ↔ (-1 ≤ r ∧ r < 32) ∧ ∀ j, j < row.length → edOk n (row.getD j zE) = true := by
  unfold rowOkE
  rw [Bool.and_eq_true, List.all_eq_true, decide_eq_true_iff]
  refine and_congr_right fun _ => ⟨fun h j hj => h _ (by simp [List.getD, hj]), fun h x hx => ?_⟩
  obtain ⟨j, hj, rfl⟩ := List.getElem_of_mem hx
  have := h j hj
  simpa [List.getD, hj] using this

theorem EdgesAt.open {w : World} {v : Value} {ll : List (List Ed)} (h : EdgesAt w v ll) :
    ∃ oa cap b off, v = .slice oa ll.length cap ∧ Hd w oa ll.length cap b off ∧ ∀ i, i < ll.length →
      ∃ oi ci bi fi, w.cell? ⟨b, off + i, none⟩ = some (.slice oi (ll.getD i []).length ci) ∧ Hd w oi (ll.getD i []).length ci bi fi ∧ ∀ j, j < (ll.getD i []).length → ∀ c, c < 6 → w.cell? ⟨bi, fi + j * 6 + c, none⟩ = some ((edC ((ll.getD i []).getD j zE)).getD c undef) := by
  obtain ⟨vs, ⟨oa, cap, b, off, rfl, hd, hc⟩, h2, h3⟩ := h
  rw [h2] at hd hc ⊢
  refine ⟨oa, cap, b, off, rfl, hd, fun i hi => ?_⟩
  obtain ⟨oi, ci, bi, fi, he, hdi, hci⟩ := h3 i hi
  rw [List.length_map] at he hdi hci
  refine ⟨oi, ci, bi, fi, by rw [hc i hi, he], hdi, fun j hj c hcl => ?_⟩
  rw [hci j hj c hcl]
  have e1 : ((ll.getD i []).map edC).getD j [] = edC ((ll.getD i []).getD j zE) := by
    generalize ll.getD i [] = row at *
    simp [List.getD, hj]
  rw [e1]
def edA (x : Ed) : Array Value := #[.int .i64 x.to, .bool x.free, .int .u64 x.a, .int .u64 x.b, .int .u64 x.c, .int .u64 x.d]
theorem edC_get (x : Ed) (c : Nat) : (edC x).getD c undef = (edA x).getD c undef := by unfold edC edA; simp [List.getD, Array.getD_eq_getD_getElem?]
theorem index_edge {w : World} {oa : Option Addr} {b off len cap : Nat} (h : Hd w oa len cap b off) :
    ∀ (W : World) (i : Nat), i < len → (Instr.indexAt 85 (.slice oa len cap) (.int .i64 i)).run Try.prog W = .ok (.pointer (some ⟨b, off + i * 6, none⟩)) W := fun W i hi => by
  have := index_anyK (P := Try.prog) 6 85 92 Try.underlying85 (by kernel_rfl) h W .i64 i (by omega) (by omega)
  simpa using this
theorem index_row {w : World} {oa : Option Addr} {b off len cap : Nat} (h : Hd w oa len cap b off) :
    ∀ (W : World) (i : Nat), i < len → (Instr.indexAt 22 (.slice oa len cap) (.int .i64 i)).run Try.prog W = .ok (.pointer (some ⟨b, off + i, none⟩)) W := fun W i hi => by
  have := index_any (P := Try.prog) 22 85 Try.underlying22 (by kernel_rfl) h W .i64 i (by omega) (by omega)
  simpa using this
theorem index_int {w : World} {oa : Option Addr} {b off len cap : Nat} (h : Hd w oa len cap b off) :
    ∀ (W : World) (i : Nat), i < len → (Instr.indexAt 23 (.slice oa len cap) (.int .i64 i)).run Try.prog W = .ok (.pointer (some ⟨b, off + i, none⟩)) W := fun W i hi => by
  have := index_any (P := Try.prog) 23 3 Try.underlying23 (by kernel_rfl) h W .i64 i (by omega) (by omega)
  simpa using this

set_option maxRecDepth 100000 in
set_option maxHeartbeats 8000000 in
theorem rightP {w : World} {A : Array Value} {e : List (List Ed)} {F : Int} {r : List Int} (h : NfaV w A e F r) :
    Calls Try.prog 20 #[.agg A] w fun en w' => en = .returned (.bool (rightN e F r)) ∧ ∃ x, w' = ext w x := by
  obtain ⟨ve, vr, rfl, he, hr⟩ := h
  obtain ⟨oe, ce, be, fe, rfl, hde, hce⟩ := he.open
  obtain ⟨orr, cr, br, fr, rfl, hdr, hcr⟩ := hr.open
  have hixe := index_row hde
  have hixr := index_int hdr
  have hme := hde.len
  have hmr := hdr.len
  have hbe := hde.hblk
  have hbr := hdr.hblk
  have HCE := Lib.hid hce
  have HCR := Lib.hid hcr
  have HIF := Lib.hid (rightN_iff (e := e) (F := F) (r := r))
  obtain ⟨R, hR⟩ : ∃ R, R = rightN e F r := ⟨_, rfl⟩
  have HR := Lib.hid hR
  have HF0 : Hid (headOk e F r = false → R = false) := Lib.hid (fun h => by rw [hR]; unfold rightN; rw [h]; rfl)
  have HHD : Hid (headOk e F r = decide (1 ≤ e.length ∧ e.length ≤ 3000 ∧ r.length = e.length ∧ 0 ≤ F ∧ F < e.length)) := Lib.hid rfl
  have c1 := cmp_ne
  have g1 := eqGuard_set
  rw [← hR]
  obtain ⟨n, hn⟩ : ∃ n, n = e.length := ⟨_, rfl⟩
  obtain ⟨m, hm⟩ : ∃ m, m = r.length := ⟨_, rfl⟩
  have HN := Lib.hid hn
  have HM := Lib.hid hm
  rw [← hn] at hixe hme hbe HCE ⊢
  rw [← hm] at hixr hmr hbr HCR ⊢
  have hHD := HHD.out
  rw [← hn, ← hm] at hHD
  clear he hr hde hdr hce hcr hR hn hm HHD
  by_cases hok : 1 ≤ n ∧ n ≤ 3000 ∧ m = n ∧ 0 ≤ F ∧ F < n
  · obtain ⟨k1, k2, k3, k4, k5⟩ := hok
    have HH : Hid (headOk e F r = true) := Lib.hid (by rw [hHD]; simp; omega)
    subst k3
    have HFB : Hid (∀ i, i < m → rowOkE m (r.getD i 0) (e.getD i []) = false → R = false) := Lib.hid (fun i hi hf => by
      rw [HR.out]
      cases hq : rightN e F r with
      | false => rfl
      | true => have := (HIF.out.1 hq).2 i (by rw [← HN.out]; exact hi); rw [← HN.out, hf] at this; cases this)
    have HTB : Hid ((∀ i, i < m → rowOkE m (r.getD i 0) (e.getD i []) = true) → R = true) := Lib.hid (fun h => by
      rw [HR.out]; exact HIF.out.2 ⟨HH.out, fun i hi => by rw [← HN.out] at hi ⊢; exact h i hi⟩)
    have d1 : decide ((m : Int) < 1) = false := by simp; omega
    have d2 : decide ((3000 : Int) < m) = false := by simp; omega
    have d3 : decide (F < 0) = false := by simp; omega
    have d4 : decide ((m : Int) ≤ F) = false := by simp; omega
    have hbe2 := hbe (by omega)
    have hbr2 := hbr (by omega)
    have HA := Lib.hid (below_alloc w (.cells #[.slice oe m ce, .int .i64 F, .slice orr m cr] 25))
    have hsz : (w.alloc (.cells #[.slice oe m ce, .int .i64 F, .slice orr m cr] 25)).heap.size = w.heap.size + 1 := by simp
    have HB0 : Hid ((w.alloc (.cells #[.slice oe m ce, .int .i64 F, .slice orr m cr] 25)).cell? ⟨w.heap.size, 0, none⟩ = some (.slice oe m ce)) := Lib.hid (by rw [World.cell?_alloc_new]; rfl)
    have HB2 : Hid ((w.alloc (.cells #[.slice oe m ce, .int .i64 F, .slice orr m cr] 25)).cell? ⟨w.heap.size, 2, none⟩ = some (.slice orr m cr)) := Lib.hid (by rw [World.cell?_alloc_new]; rfl)
    clear hHD HF0 hbe hbr
    go_enter Try.func20, Try.ntmps20
    go_wp2
    generalize w.alloc (.cells #[.slice oe m ce, .int .i64 F, .slice orr m cr] 25) = w1 at *
    have hszw : w.heap.size < w1.heap.size := by omega
    clear hsz
    go_loopg [38] m (fun gk iv wr => ∃ i : Nat, iv = .int .i64 i ∧ i ≤ m ∧ (∀ q, q < i → rowOkE m (r.getD q 0) (e.getD q []) = true) ∧ Below w1.heap.size w1 wr ∧ gk = m - i)
    case atStart => exact ⟨0, rfl, Nat.zero_le _, fun q hq => absurd hq (Nat.not_lt_zero q), Below.refl _ _, rfl⟩
    case round =>
      obtain ⟨i, rfl, hi, hall, hbel, rfl⟩ := hrel
      have HALL := Lib.hid hall
      have HW := Lib.hid hbel
      have HWW := Lib.hid (HA.out.trans (hbel.mono HA.out.size))
      clear hall hbel
      have b0 := (HW.out.cell (p := ⟨w.heap.size, 0, none⟩) hszw).trans HB0.out
      have b2 := (HW.out.cell (p := ⟨w.heap.size, 2, none⟩) hszw).trans HB2.out
      have bl : w.heap.size < wr.heap.size := by have := HW.out.size; omega
      by_cases hlt : i < m
      · obtain ⟨oi, ci, bi, fi, hrow, hdi, hcell⟩ := HCE.out i hlt
        have hrow2 := (HWW.out.cell (p := ⟨be, fe + i, none⟩) hbe2).trans hrow
        have hri := (HWW.out.cell (p := ⟨br, fr + i, none⟩) hbr2).trans (HCR.out i hlt)
        have hber : be < wr.heap.size := by omega
        have hbrr : br < wr.heap.size := by omega
        have hixe2 := fun W => hixe W i hlt
        have hixr2 := fun W => hixr W i hlt
        have hixi := index_edge hdi
        have hbi := hdi.hblk
        have hmi := hdi.len
        have HCI := Lib.hid hcell
        have HRW := Lib.hid (row_iff (n := m) (r := r.getD i 0) (row := e.getD i []))
        have HFI := Lib.hid (HFB.out i hlt)
        obtain ⟨row, hrw⟩ : ∃ row, row = e.getD i [] := ⟨_, rfl⟩
        have HRO := Lib.hid hrw
        obtain ⟨ri, hrr⟩ : ∃ ri, ri = r.getD i 0 := ⟨_, rfl⟩
        have HRR := Lib.hid hrr
        rw [← hrw] at hrow2 hixi hbi hmi HCI HRW HFI
        rw [← hrr] at hri HRW HFI
        obtain ⟨ln, hln⟩ : ∃ ln, ln = row.length := ⟨_, rfl⟩
        rw [← hln] at hrow2 hixi hbi hmi HCI HRW
        clear hrow hdi hcell hrw hrr hln
        by_cases hr1 : ri < -1
        · have HV := Lib.hid (HFI.out (by
            cases hq : rowOkE m ri row with
            | false => rfl
            | true => have := (HRW.out.1 hq).1; omega))
          go_wp2
          go_ret
          exact ⟨by rw [HV.out]; rfl, ex_ext HWW.out⟩
        · by_cases hr2 : 32 ≤ ri
          · have HV := Lib.hid (HFI.out (by
              cases hq : rowOkE m ri row with
              | false => rfl
              | true => have := (HRW.out.1 hq).1; omega))
            go_wp2
            go_ret
            exact ⟨by rw [HV.out]; rfl, ex_ext HWW.out⟩
          · have f1 : decide (ri < -1) = false := by simp; omega
            have f2 : decide ((32 : Int) ≤ ri) = false := by simp; omega
            have f3 : decide ((31 : Int) < ri) = false := by simp; omega
            go_wp2
            generalize wr = wo at *
            go_loopg [59] ln (fun gk jv wr => ∃ j : Nat, jv = .int .i64 j ∧ j ≤ ln ∧ (∀ q, q < j → edOk m (row.getD q zE) = true) ∧ Below w1.heap.size w1 wr ∧ gk = ln - j)
            case atStart => exact ⟨0, rfl, Nat.zero_le _, fun q hq => absurd hq (Nat.not_lt_zero q), HW.out, rfl⟩
            case round =>
              obtain ⟨j, rfl, hj, hallj, hbel, rfl⟩ := hrel
              have HAJ := Lib.hid hallj
              have HWQ := Lib.hid hbel
              have HWZ := Lib.hid (HA.out.trans (hbel.mono HA.out.size))
              have z0 := (HWQ.out.cell (p := ⟨w.heap.size, 0, none⟩) hszw).trans HB0.out
              have z2 := (HWQ.out.cell (p := ⟨w.heap.size, 2, none⟩) hszw).trans HB2.out
              have zl : w.heap.size < wr.heap.size := by have := HWQ.out.size; omega
              obtain ⟨oi2, ci2, bi2, fi2, hrow, -, -⟩ := HCE.out i hlt
              have zrow := (HWZ.out.cell (p := ⟨be, fe + i, none⟩) hbe2).trans ((HWW.out.cell (p := ⟨be, fe + i, none⟩) hbe2).symm.trans hrow2)
              have zber : be < wr.heap.size := by omega
              clear hallj hbel hrow b0 b2 bl hrow2 hri hber hbrr HW
              by_cases hltj : j < ln
              · obtain ⟨ed, hed⟩ : ∃ ed, ed = row.getD j zE := ⟨_, rfl⟩
                have HED := Lib.hid hed
                have hbi2 := hbi (by omega)
                have HCD : Hid (∀ c, c < 6 → wr.cell? ⟨bi, fi + j * 6 + c, none⟩ = some ((edA ed).getD c undef)) := Lib.hid (fun c hcl => by
                  rw [HWZ.out.cell (p := ⟨bi, fi + j * 6 + c, none⟩) hbi2, HCI.out j hltj c hcl, edC_get, hed])
                obtain ⟨tq, fr', a, b, c, d⟩ := ed
                unfold edA at HCD
                simp only at HCD
                have hixj := fun W => hixi W j hltj
                have HFE : Hid (edOk m ⟨tq, fr', a, b, c, d⟩ = false → R = false) := Lib.hid (fun hf => HFI.out (by
                  cases hq : rowOkE m ri row with
                  | false => rfl
                  | true => have := (HRW.out.1 hq).2 j hltj; rw [← HED.out, hf] at this; cases this))
                have HB6 := below_alloc wr (.cells #[.int .i64 tq, .bool fr', .int .u64 a, .int .u64 b, .int .u64 c, .int .u64 d] 92)
                have HB7 := Lib.hid (HWZ.out.trans (HB6.mono HWZ.out.size))
                have HB8 := Lib.hid (HWQ.out.trans (HB6.mono HWQ.out.size))
                clear hed HB6
                by_cases e1 : tq < 0
                · have HV := Lib.hid (HFE.out (by unfold edOk; simp; omega))
                  clear c1
                  go_upto_region 12 with (refine wpList_load_cells rfl 92 _ rfl bi (fi + j * 6) 6 rfl _ _ HCD.out rfl Try.underlying92 rfl (by kernel_rfl) ?_)
                  go_upto_region 13 with fail
                  go_wp2
                  go_ret
                  exact ⟨by rw [HV.out]; rfl, ex_ext HB7.out⟩
                · by_cases e2 : (m : Int) ≤ tq
                  · have HV := Lib.hid (HFE.out (by unfold edOk; simp; omega))
                    clear c1
                    go_upto_region 12 with (refine wpList_load_cells rfl 92 _ rfl bi (fi + j * 6) 6 rfl _ _ HCD.out rfl Try.underlying92 rfl (by kernel_rfl) ?_)
                    go_upto_region 13 with fail
                    go_wp2
                    go_ret
                    exact ⟨by rw [HV.out]; rfl, ex_ext HB7.out⟩
                  · cases fr' with
                    | false =>
                      have HOK : Hid (edOk m ⟨tq, false, a, b, c, d⟩ = true) := Lib.hid (by unfold edOk; simp; omega)
                      go_wp2_with (refine wpList_load_cells rfl 92 _ rfl bi (fi + j * 6) 6 rfl _ _ HCD.out rfl Try.underlying92 rfl (by kernel_rfl) ?_)
                      go_roundg (ln - (j + 1))
                      case measure => omega
                      case rel =>
                        refine ⟨j + 1, by go_num, by omega, fun q hq => ?_, HB8.out, rfl⟩
                        by_cases hqj : q = j
                        · rw [hqj, ← HED.out]; exact HOK.out
                        · exact HAJ.out q (by omega)
                    | true =>
                      by_cases e3 : a = 0 ∧ b = 0 ∧ c = 0 ∧ d = 0
                      · obtain ⟨rfl, rfl, rfl, rfl⟩ := e3
                        have HOK : Hid (edOk m ⟨tq, true, 0, 0, 0, 0⟩ = true) := Lib.hid (by unfold edOk; simp; omega)
                        go_wp2_with (refine wpList_load_cells rfl 92 _ rfl bi (fi + j * 6) 6 rfl _ _ HCD.out rfl Try.underlying92 rfl (by kernel_rfl) ?_)
                        go_roundg (ln - (j + 1))
                        case measure => omega
                        case rel =>
                          refine ⟨j + 1, by go_num, by omega, fun q hq => ?_, HB8.out, rfl⟩
                          by_cases hqj : q = j
                          · rw [hqj, ← HED.out]; exact HOK.out
                          · exact HAJ.out q (by omega)
                      · have HV := Lib.hid (HFE.out (by unfold edOk; simp; omega))
                        have e4 : (!decide (a = 0 ∧ b = 0 ∧ c = 0 ∧ d = 0)) = true := by rw [decide_eq_false e3]; rfl
                        have c2 : ∀ W, (binOp .neq 55 (.agg #[.int .u64 a, .int .u64 b, .int .u64 c, .int .u64 d]) (.agg #[.int .u64 0, .int .u64 0, .int .u64 0, .int .u64 0])).run Try.prog W = .ok (.bool true) W := fun W => by rw [cmp_ne W a b c d 0 0 0 0, e4]
                        clear e3 e4 c1
                        go_wp2_with (refine wpList_load_cells rfl 92 _ rfl bi (fi + j * 6) 6 rfl _ _ HCD.out rfl Try.underlying92 rfl (by kernel_rfl) ?_)
                        all_goals (go_ret; exact ⟨by rw [HV.out]; rfl, ex_ext HB7.out⟩)
              · have HRT : Hid (rowOkE m ri row = true) := Lib.hid (HRW.out.2 ⟨⟨by omega, by omega⟩, fun q hq => HAJ.out q (by omega)⟩)
                go_wp2
                go_roundg (m - (i + 1))
                case measure => omega
                case rel =>
                  refine ⟨i + 1, by go_num, by omega, fun q hq => ?_, HWQ.out, rfl⟩
                  by_cases hqi : q = i
                  · rw [hqi, ← HRO.out, ← HRR.out]; exact HRT.out
                  · exact HALL.out q (by omega)
      · have HV := Lib.hid (HTB.out (fun q hq => HALL.out q (by omega)))
        go_wp2
        go_ret
        exact ⟨by rw [HV.out]; rfl, ex_ext HWW.out⟩
  · have HV := Lib.hid (HF0.out (by rw [hHD]; simp; omega))
    clear hHD
    have HA := Lib.hid (below_alloc w (.cells #[.slice oe n ce, .int .i64 F, .slice orr m cr] 25))
    go_enter Try.func20, Try.ntmps20
    go_upto_region 4 with fail
    all_goals first
      | (go_ret; exact ⟨by rw [HV.out]; rfl, ex_ext HA.out⟩)
      | (exfalso; omega)
      | (exfalso; simp_all; omega)

set_option maxRecDepth 100000 in
set_option maxHeartbeats 8000000 in
theorem rightD {w : World} {A : Array Value} {e : List (List Ed)} {F : Int} {r : List Int} (h : NfaV w A e F r) :
    Calls Try.prog 22 #[.agg A] w fun en w' => en = .returned (.bool (rightN e F r)) ∧ ∃ x, w' = ext w x := by
  obtain ⟨ve, vr, rfl, he, hr⟩ := h
  obtain ⟨oe, ce, be, fe, rfl, hde, hce⟩ := he.open
  obtain ⟨orr, cr, br, fr, rfl, hdr, hcr⟩ := hr.open
  have hixe := index_row hde
  have hixr := index_int hdr
  have hme := hde.len
  have hmr := hdr.len
  have hbe := hde.hblk
  have hbr := hdr.hblk
  have HCE := Lib.hid hce
  have HCR := Lib.hid hcr
  have HIF := Lib.hid (rightN_iff (e := e) (F := F) (r := r))
  obtain ⟨R, hR⟩ : ∃ R, R = rightN e F r := ⟨_, rfl⟩
  have HR := Lib.hid hR
  have HF0 : Hid (headOk e F r = false → R = false) := Lib.hid (fun h => by rw [hR]; unfold rightN; rw [h]; rfl)
  have HHD : Hid (headOk e F r = decide (1 ≤ e.length ∧ e.length ≤ 3000 ∧ r.length = e.length ∧ 0 ≤ F ∧ F < e.length)) := Lib.hid rfl
  have c1 := cmp_ne
  have g1 := eqGuard_set
  rw [← hR]
  obtain ⟨n, hn⟩ : ∃ n, n = e.length := ⟨_, rfl⟩
  obtain ⟨m, hm⟩ : ∃ m, m = r.length := ⟨_, rfl⟩
  have HN := Lib.hid hn
  have HM := Lib.hid hm
  rw [← hn] at hixe hme hbe HCE ⊢
  rw [← hm] at hixr hmr hbr HCR ⊢
  have hHD := HHD.out
  rw [← hn, ← hm] at hHD
  clear he hr hde hdr hce hcr hR hn hm HHD
  by_cases hok : 1 ≤ n ∧ n ≤ 3000 ∧ m = n ∧ 0 ≤ F ∧ F < n
  · obtain ⟨k1, k2, k3, k4, k5⟩ := hok
    have HH : Hid (headOk e F r = true) := Lib.hid (by rw [hHD]; simp; omega)
    subst k3
    have HFB : Hid (∀ i, i < m → rowOkE m (r.getD i 0) (e.getD i []) = false → R = false) := Lib.hid (fun i hi hf => by
      rw [HR.out]
      cases hq : rightN e F r with
      | false => rfl
      | true => have := (HIF.out.1 hq).2 i (by rw [← HN.out]; exact hi); rw [← HN.out, hf] at this; cases this)
    have HTB : Hid ((∀ i, i < m → rowOkE m (r.getD i 0) (e.getD i []) = true) → R = true) := Lib.hid (fun h => by
      rw [HR.out]; exact HIF.out.2 ⟨HH.out, fun i hi => by rw [← HN.out] at hi ⊢; exact h i hi⟩)
    have d1 : decide ((m : Int) < 1) = false := by simp; omega
    have d2 : decide ((3000 : Int) < m) = false := by simp; omega
    have d3 : decide (F < 0) = false := by simp; omega
    have d4 : decide ((m : Int) ≤ F) = false := by simp; omega
    have hbe2 := hbe (by omega)
    have hbr2 := hbr (by omega)
    have HA := Lib.hid (below_alloc w (.cells #[.slice oe m ce, .int .i64 F, .slice orr m cr] 25))
    have hsz : (w.alloc (.cells #[.slice oe m ce, .int .i64 F, .slice orr m cr] 25)).heap.size = w.heap.size + 1 := by simp
    have HB0 : Hid ((w.alloc (.cells #[.slice oe m ce, .int .i64 F, .slice orr m cr] 25)).cell? ⟨w.heap.size, 0, none⟩ = some (.slice oe m ce)) := Lib.hid (by rw [World.cell?_alloc_new]; rfl)
    have HB2 : Hid ((w.alloc (.cells #[.slice oe m ce, .int .i64 F, .slice orr m cr] 25)).cell? ⟨w.heap.size, 2, none⟩ = some (.slice orr m cr)) := Lib.hid (by rw [World.cell?_alloc_new]; rfl)
    clear hHD HF0 hbe hbr
    go_enter Try.func22, Try.ntmps22
    go_wp2
    generalize w.alloc (.cells #[.slice oe m ce, .int .i64 F, .slice orr m cr] 25) = w1 at *
    have hszw : w.heap.size < w1.heap.size := by omega
    clear hsz
    go_loopg [4] m (fun gk iv wr => ∃ i : Nat, iv = .int .i64 i ∧ i ≤ m ∧ (∀ q, q < i → rowOkE m (r.getD q 0) (e.getD q []) = true) ∧ Below w1.heap.size w1 wr ∧ gk = m - i)
    case atStart => exact ⟨0, rfl, Nat.zero_le _, fun q hq => absurd hq (Nat.not_lt_zero q), Below.refl _ _, rfl⟩
    case round =>
      obtain ⟨i, rfl, hi, hall, hbel, rfl⟩ := hrel
      have HALL := Lib.hid hall
      have HW := Lib.hid hbel
      have HWW := Lib.hid (HA.out.trans (hbel.mono HA.out.size))
      clear hall hbel
      have b0 := (HW.out.cell (p := ⟨w.heap.size, 0, none⟩) hszw).trans HB0.out
      have b2 := (HW.out.cell (p := ⟨w.heap.size, 2, none⟩) hszw).trans HB2.out
      have bl : w.heap.size < wr.heap.size := by have := HW.out.size; omega
      by_cases hlt : i < m
      · obtain ⟨oi, ci, bi, fi, hrow, hdi, hcell⟩ := HCE.out i hlt
        have hrow2 := (HWW.out.cell (p := ⟨be, fe + i, none⟩) hbe2).trans hrow
        have hri := (HWW.out.cell (p := ⟨br, fr + i, none⟩) hbr2).trans (HCR.out i hlt)
        have hber : be < wr.heap.size := by omega
        have hbrr : br < wr.heap.size := by omega
        have hixe2 := fun W => hixe W i hlt
        have hixr2 := fun W => hixr W i hlt
        have hixi := index_edge hdi
        have hbi := hdi.hblk
        have hmi := hdi.len
        have HCI := Lib.hid hcell
        have HRW := Lib.hid (row_iff (n := m) (r := r.getD i 0) (row := e.getD i []))
        have HFI := Lib.hid (HFB.out i hlt)
        obtain ⟨row, hrw⟩ : ∃ row, row = e.getD i [] := ⟨_, rfl⟩
        have HRO := Lib.hid hrw
        obtain ⟨ri, hrr⟩ : ∃ ri, ri = r.getD i 0 := ⟨_, rfl⟩
        have HRR := Lib.hid hrr
        rw [← hrw] at hrow2 hixi hbi hmi HCI HRW HFI
        rw [← hrr] at hri HRW HFI
        obtain ⟨ln, hln⟩ : ∃ ln, ln = row.length := ⟨_, rfl⟩
        rw [← hln] at hrow2 hixi hbi hmi HCI HRW
        clear hrow hdi hcell hrw hrr hln
        by_cases hr1 : ri < -1
        · have HV := Lib.hid (HFI.out (by
            cases hq : rowOkE m ri row with
            | false => rfl
            | true => have := (HRW.out.1 hq).1; omega))
          go_wp2
          go_ret
          exact ⟨by rw [HV.out]; rfl, ex_ext HWW.out⟩
        · by_cases hr2 : 32 ≤ ri
          · have HV := Lib.hid (HFI.out (by
              cases hq : rowOkE m ri row with
              | false => rfl
              | true => have := (HRW.out.1 hq).1; omega))
            go_wp2
            go_ret
            exact ⟨by rw [HV.out]; rfl, ex_ext HWW.out⟩
          · have f1 : decide (ri < -1) = false := by simp; omega
            have f2 : decide ((32 : Int) ≤ ri) = false := by simp; omega
            have f3 : decide ((31 : Int) < ri) = false := by simp; omega
            go_wp2
            generalize wr = wo at *
            go_loopg [5] ln (fun gk jv wr => ∃ j : Nat, jv = .int .i64 j ∧ j ≤ ln ∧ (∀ q, q < j → edOk m (row.getD q zE) = true) ∧ Below w1.heap.size w1 wr ∧ gk = ln - j)
            case atStart => exact ⟨0, rfl, Nat.zero_le _, fun q hq => absurd hq (Nat.not_lt_zero q), HW.out, rfl⟩
            case round =>
              obtain ⟨j, rfl, hj, hallj, hbel, rfl⟩ := hrel
              have HAJ := Lib.hid hallj
              have HWQ := Lib.hid hbel
              have HWZ := Lib.hid (HA.out.trans (hbel.mono HA.out.size))
              have z0 := (HWQ.out.cell (p := ⟨w.heap.size, 0, none⟩) hszw).trans HB0.out
              have z2 := (HWQ.out.cell (p := ⟨w.heap.size, 2, none⟩) hszw).trans HB2.out
              have zl : w.heap.size < wr.heap.size := by have := HWQ.out.size; omega
              obtain ⟨oi2, ci2, bi2, fi2, hrow, -, -⟩ := HCE.out i hlt
              have zrow := (HWZ.out.cell (p := ⟨be, fe + i, none⟩) hbe2).trans ((HWW.out.cell (p := ⟨be, fe + i, none⟩) hbe2).symm.trans hrow2)
              have zber : be < wr.heap.size := by omega
              clear hallj hbel hrow b0 b2 bl hrow2 hri hber hbrr HW
              by_cases hltj : j < ln
              · obtain ⟨ed, hed⟩ : ∃ ed, ed = row.getD j zE := ⟨_, rfl⟩
                have HED := Lib.hid hed
                have hbi2 := hbi (by omega)
                have HCD : Hid (∀ c, c < 6 → wr.cell? ⟨bi, fi + j * 6 + c, none⟩ = some ((edA ed).getD c undef)) := Lib.hid (fun c hcl => by
                  rw [HWZ.out.cell (p := ⟨bi, fi + j * 6 + c, none⟩) hbi2, HCI.out j hltj c hcl, edC_get, hed])
                obtain ⟨tq, fr', a, b, c, d⟩ := ed
                unfold edA at HCD
                simp only at HCD
                have hixj := fun W => hixi W j hltj
                have HFE : Hid (edOk m ⟨tq, fr', a, b, c, d⟩ = false → R = false) := Lib.hid (fun hf => HFI.out (by
                  cases hq : rowOkE m ri row with
                  | false => rfl
                  | true => have := (HRW.out.1 hq).2 j hltj; rw [← HED.out, hf] at this; cases this))
                have HB6 := below_alloc wr (.cells #[.int .i64 tq, .bool fr', .int .u64 a, .int .u64 b, .int .u64 c, .int .u64 d] 92)
                have HB7 := Lib.hid (HWZ.out.trans (HB6.mono HWZ.out.size))
                have HB8 := Lib.hid (HWQ.out.trans (HB6.mono HWQ.out.size))
                clear hed HB6
                by_cases e1 : tq < 0
                · have HV := Lib.hid (HFE.out (by unfold edOk; simp; omega))
                  clear c1
                  go_upto_region 13 with (refine wpList_load_cells rfl 92 _ rfl bi (fi + j * 6) 6 rfl _ _ HCD.out rfl Try.underlying92 rfl (by kernel_rfl) ?_)
                  go_upto_region 14 with fail
                  go_wp2
                  go_ret
                  exact ⟨by rw [HV.out]; rfl, ex_ext HB7.out⟩
                · by_cases e2 : (m : Int) ≤ tq
                  · have HV := Lib.hid (HFE.out (by unfold edOk; simp; omega))
                    clear c1
                    go_upto_region 13 with (refine wpList_load_cells rfl 92 _ rfl bi (fi + j * 6) 6 rfl _ _ HCD.out rfl Try.underlying92 rfl (by kernel_rfl) ?_)
                    go_upto_region 14 with fail
                    go_wp2
                    go_ret
                    exact ⟨by rw [HV.out]; rfl, ex_ext HB7.out⟩
                  · cases fr' with
                    | false =>
                      have HOK : Hid (edOk m ⟨tq, false, a, b, c, d⟩ = true) := Lib.hid (by unfold edOk; simp; omega)
                      go_wp2_with (refine wpList_load_cells rfl 92 _ rfl bi (fi + j * 6) 6 rfl _ _ HCD.out rfl Try.underlying92 rfl (by kernel_rfl) ?_)
                      go_roundg (ln - (j + 1))
                      case measure => omega
                      case rel =>
                        refine ⟨j + 1, by go_num, by omega, fun q hq => ?_, HB8.out, rfl⟩
                        by_cases hqj : q = j
                        · rw [hqj, ← HED.out]; exact HOK.out
                        · exact HAJ.out q (by omega)
                    | true =>
                      by_cases e3 : a = 0 ∧ b = 0 ∧ c = 0 ∧ d = 0
                      · obtain ⟨rfl, rfl, rfl, rfl⟩ := e3
                        have HOK : Hid (edOk m ⟨tq, true, 0, 0, 0, 0⟩ = true) := Lib.hid (by unfold edOk; simp; omega)
                        go_wp2_with (refine wpList_load_cells rfl 92 _ rfl bi (fi + j * 6) 6 rfl _ _ HCD.out rfl Try.underlying92 rfl (by kernel_rfl) ?_)
                        go_roundg (ln - (j + 1))
                        case measure => omega
                        case rel =>
                          refine ⟨j + 1, by go_num, by omega, fun q hq => ?_, HB8.out, rfl⟩
                          by_cases hqj : q = j
                          · rw [hqj, ← HED.out]; exact HOK.out
                          · exact HAJ.out q (by omega)
                      · have HV := Lib.hid (HFE.out (by unfold edOk; simp; omega))
                        have e4 : (!decide (a = 0 ∧ b = 0 ∧ c = 0 ∧ d = 0)) = true := by rw [decide_eq_false e3]; rfl
                        have c2 : ∀ W, (binOp .neq 55 (.agg #[.int .u64 a, .int .u64 b, .int .u64 c, .int .u64 d]) (.agg #[.int .u64 0, .int .u64 0, .int .u64 0, .int .u64 0])).run Try.prog W = .ok (.bool true) W := fun W => by rw [cmp_ne W a b c d 0 0 0 0, e4]
                        clear e3 e4 c1
                        go_wp2_with (refine wpList_load_cells rfl 92 _ rfl bi (fi + j * 6) 6 rfl _ _ HCD.out rfl Try.underlying92 rfl (by kernel_rfl) ?_)
                        all_goals (go_ret; exact ⟨by rw [HV.out]; rfl, ex_ext HB7.out⟩)
              · have HRT : Hid (rowOkE m ri row = true) := Lib.hid (HRW.out.2 ⟨⟨by omega, by omega⟩, fun q hq => HAJ.out q (by omega)⟩)
                go_wp2
                go_roundg (m - (i + 1))
                case measure => omega
                case rel =>
                  refine ⟨i + 1, by go_num, by omega, fun q hq => ?_, HWQ.out, rfl⟩
                  by_cases hqi : q = i
                  · rw [hqi, ← HRO.out, ← HRR.out]; exact HRT.out
                  · exact HALL.out q (by omega)
      · have HV := Lib.hid (HTB.out (fun q hq => HALL.out q (by omega)))
        go_wp2
        go_ret
        exact ⟨by rw [HV.out]; rfl, ex_ext HWW.out⟩
  · have HV := Lib.hid (HF0.out (by rw [hHD]; simp; omega))
    clear hHD
    have HA := Lib.hid (below_alloc w (.cells #[.slice oe n ce, .int .i64 F, .slice orr m cr] 25))
    go_enter Try.func22, Try.ntmps22
    go_upto_region 4 with fail
    all_goals first
      | (go_ret; exact ⟨by rw [HV.out]; rfl, ex_ext HA.out⟩)
      | (exfalso; omega)
      | (exfalso; simp_all; omega)

end Go.Cm
