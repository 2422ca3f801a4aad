/- Texts of this claim, joined: walks of small functions and plain facts about them. Conditions: as each says. -/
import Derived.Test.YtmophmeiemfikaaGreatBQ
import Derived.Test.YtmophmeiemfikaaGreatRows
import Derived.WalkKit
import Derived.WalkSpells
import Derived.WalkLawsBesides
import Derived.Deep.QuietTactic
import Derived.BigQuiet
import Derived.Lib.Hide
import Derived.Laws.Small
import Derived.Deep.LoopGhost
import Derived.Laws.BitsLemmas
import Derived.Deep.DeepCutAuto
import Derived.Deep.CutBlock
import Derived.Deep.CutRange
import Derived.Laws.IdiomStrings
import Derived.Laws.CopyOwn
import Derived.Laws.EntriesVeiled
import Derived.Shelf.Abstract
import Derived.WalkMore
/- A machine by its text, and what it tells: contracts for a caller. Conditions: as each says. -/
namespace Go.Cm
open Go.RowKit Go.Proofs

attribute [local irreducible] lastN
/-- the text of the blocks from bit p on, with t ahead of it; what is wrong; the end; the beginnings -/
noncomputable def txI (s : ByteArray) (t : Byts) (p : Nat) : Byts := textS s (lastN t).length (zNew t p)
noncomputable def erI (s : ByteArray) (t : Byts) (p : Nat) : Nat := (finS s (lastN t).length (zNew t p)).1
noncomputable def enI (s : ByteArray) (t : Byts) (p : Nat) : Nat := (finS s (lastN t).length (zNew t p)).2.p
noncomputable def bgI (s : ByteArray) (t : Byts) (p : Nat) : List (Nat × Nat) := (finS s (lastN t).length (zNew t p)).2.st
/-- a machine that told so many bytes, apart from the blocks V -/
def Mac (w : World) (B gm : Nat) (V : Nat → Prop) (s : ByteArray) (t : Byts) (p told : Nat) : Prop :=
  ∃ gr gw vb m k, Live w B gm gr gw vb (fun _ => False) s (lastN t).length (zNew t p) m k ∧ m.told = told ∧ ∀ q, V q → ¬ FSet gm gr gw vb m.vs q
/-- what its calls may change -/
abbrev MFx (B : Nat) (V : Nat → Prop) (w w' : World) : Prop := Fx (fun q => B ≤ q ∧ ¬ V q) w w'
theorem LiveB.ge {w : World} {B gm gr gw pre k : Nat} {vb : Value} {X : Nat → Prop} {s : ByteArray} {z0 : IS} {m : MV} (h : LiveB w B gm gr gw vb X s pre z0 m k) : (∀ q, FSet gm gr gw vb m.vs q → B ≤ q) ∧ B ≤ w.heap.size := by
  obtain ⟨p, H, st, h, -⟩ := h.bad
  refine ⟨fun q e => ?_, h.mach.B⟩
  obtain ⟨b, hb, -⟩ := h.mach.win
  rcases e with (e | e | e | e) | e
  · rw [e]; exact h.mach.box.blk.1
  · rw [e]; exact h.mach.Br
  · rw [e]; exact hb.box.blk.1
  · exact (hb.own.lt q e).1
  · exact (h.sts.lt q e).1
theorem After.mac {w w' : World} {B gm gr gw k0 : Nat} {vb : Value} {V V' : Nat → Prop} {s : ByteArray} {t : Byts} {p : Nat} {m : MV} {n : Nat} {M : Value → MV → Nat → Prop} (hL : LiveB w B gm gr gw vb (fun _ => False) s (lastN t).length (zNew t p) m k0)
    (h : After w w' B gm gr gw vb (fun _ => False) s (lastN t).length (zNew t p) m k0 M) (hV : ∀ q, V q → ¬ FSet gm gr gw vb m.vs q) (hlt : ∀ q, V q → q < w.heap.size) (hM : ∀ a b c, M a b c → b.told = n ∧ ∀ q, V' q → V q ∨ ¬ FSet gm gr gw a b.vs q) : Mac w' B gm V' s t p n ∧ MFx B V w w' := by
  obtain ⟨vb', m', k', -, hl, hf, h1, h2, hm⟩ := h
  obtain ⟨h3, h4⟩ := hL.ge
  obtain ⟨h5, h6⟩ := hM _ _ _ hm
  refine ⟨⟨gr, gw, vb', m', k', hl, h5, fun q e z => ?_⟩, hf.mono (fun q e => ⟨h3 q e, fun z => hV q z e⟩)⟩
  rcases h6 q e with h7 | h7
  · rcases z with (z | z | z | z) | z
    · exact hV q h7 (.inl (.inl z))
    · exact hV q h7 (.inl (.inr (.inl z)))
    · exact hV q h7 (.inl (.inr (.inr (.inl z))))
    · rcases h1 q z with h8 | h8
      · exact hV q h7 (.inl (.inr (.inr (.inr h8))))
      · have := hlt q h7; omega
    · rcases h2 q z with h8 | h8
      · exact hV q h7 (.inr h8)
      · have := hlt q h7; omega
  · exact h7 z
theorem Mac.up {w w' : World} {B gm : Nat} {V : Nat → Prop} {s : ByteArray} {t : Byts} {p told : Nat} (h : Mac w B gm V s t p told) (hb : Below w.heap.size w w') : Mac w' B gm V s t p told := by
  obtain ⟨gr, gw, vb, m, k, hl, ht, hv⟩ := h
  exact ⟨gr, gw, vb, m, k, ⟨hl.live.up hb, hl.text⟩, ht, hv⟩
theorem Mac.B {w : World} {B gm : Nat} {V : Nat → Prop} {s : ByteArray} {t : Byts} {p told : Nat} (h : Mac w B gm V s t p told) : B ≤ w.heap.size := by
  obtain ⟨gr, gw, vb, m, k, hl, ht, hv⟩ := h
  exact hl.live.ge.2
section
variable {w : World} {B gm : Nat} {V : Nat → Prop} {s : ByteArray} {t : Byts} {p told : Nat} (h : Mac w B gm V s t p told) (hp : p ≤ 8 * s.size) (hs : s.size ≤ 4000000) (hV : ∀ q, V q → q < w.heap.size)
include h hp hs hV
theorem stepC (n : Int) : Calls Tryz.prog 13 #[.pointer (some ⟨gm, 0, none⟩), .int .i64 n] w fun e w' => ∃ (c : ByteArray) (er : Nat), e = .returned (.tuple #[.string c, .int .i64 (er : Nat)]) ∧ (n < 1 → bys c = [] ∧ er = 1) ∧ (1 ≤ n → bys c = ((txI s t p).drop told).take n.toNat ∧ er = if (txI s t p).length ≤ told then erI s t p else 0) ∧ Mac w' B gm V s t p (told + (bys c).length) ∧ MFx B V w w' := by
  obtain ⟨gr, gw, vb, m, k, hl, rfl, hv⟩ := h
  refine (stepM hl (zNew_ok hp) rfl hs (fun _ e => e.elim) n).mono ?_
  rintro e w' ⟨c, er, he, h1, h2, h3⟩
  exact ⟨c, er, he, h1, h2, h3.mac hl.live hv hV (fun _ _ _ e => ⟨e, fun _ => .inl⟩)⟩
theorem doneC : Calls Tryz.prog 15 #[.pointer (some ⟨gm, 0, none⟩)] w fun e w' => ∃ b : Bool, e = .returned (.bool b) ∧ (b = true ↔ (txI s t p).length ≤ told ∧ erI s t p = 0) ∧ Mac w' B gm V s t p told ∧ MFx B V w w' := by
  obtain ⟨gr, gw, vb, m, k, hl, rfl, hv⟩ := h
  refine (doneM hl (zNew_ok hp) rfl hs (fun _ e => e.elim)).mono ?_
  rintro e w' ⟨b, he, h1, h3⟩
  exact ⟨b, he, h1, h3.mac hl.live hv hV (fun _ _ _ e => ⟨e.1, fun _ => .inl⟩)⟩
theorem endC : Calls Tryz.prog 17 #[.pointer (some ⟨gm, 0, none⟩)] w fun e w' => ∃ q : Nat, e = .returned (.int .i64 q) ∧ ((txI s t p).length ≤ told ∧ erI s t p = 0 → q = enI s t p) ∧ (¬ ((txI s t p).length ≤ told ∧ erI s t p = 0) → q = 0) ∧ Mac w' B gm V s t p told ∧ MFx B V w w' := by
  obtain ⟨gr, gw, vb, m, k, hl, rfl, hv⟩ := h
  refine (endM hl (zNew_ok hp) rfl hs (fun _ e => e.elim)).mono ?_
  rintro e w' ⟨q, he, h1, h2, h3⟩
  exact ⟨q, he, h1, h2, h3.mac hl.live hv hV (fun _ _ _ e => ⟨e, fun _ => .inl⟩)⟩
theorem startsC : Calls Tryz.prog 16 #[.pointer (some ⟨gm, 0, none⟩)] w fun e w' => ∃ v : Value, e = .returned v ∧ ((txI s t p).length ≤ told ∧ erI s t p = 0 → OwnK 2 w' w.heap.size 49 v ((bgI s t p).map stC)) ∧ (¬ ((txI s t p).length ≤ told ∧ erI s t p = 0) → v = .slice none 0 0) ∧ Mac w' B gm (fun q => V q ∨ v.ownBlock = some q) s t p told ∧ MFx B V w w' := by
  obtain ⟨gr, gw, vb, m, k, hl, rfl, hv⟩ := h
  refine (startsM hl (zNew_ok hp) rfl hs (fun _ e => e.elim)).mono ?_
  rintro e w' ⟨v, he, h1, h2, h3⟩
  exact ⟨v, he, h1, h2, h3.mac hl.live hv hV (fun _ _ _ e => ⟨e.1, fun q z => z.elim .inl (fun z => .inr (e.2 q z).2)⟩)⟩
end
theorem outC {w : World} {B gm : Nat} {V : Nat → Prop} {s : ByteArray} {t : Byts} {p told : Nat} (h : Mac w B gm V s t p told) : Calls Tryz.prog 14 #[.pointer (some ⟨gm, 0, none⟩)] w fun e w' => e = .returned (.int .i64 (told : Nat)) ∧ w' = w := by
  obtain ⟨gr, gw, vb, m, k, hl, rfl, hv⟩ := h
  exact outM hl.live.box
theorem txI_big {s : ByteArray} {t : Byts} {p : Nat} (hp : p ≤ 8 * s.size) : (txI s t p).length ≤ 16777216 := by
  have h1 := (play_keep (N := numS s) (bs := bys s) (t8 s) (zNew_ok (t := t) hp) (2 * (8 * s.size) + 2)).1.2
  unfold txI textS
  rw [List.length_drop]
  exact h1
theorem newC (s : ByteArray) (t : ByteArray) (p : Nat) (hs : s.size ≤ 4294967296) (hp : p ≤ 8 * s.size) (ht : t.size ≤ 50000000) (w : World) : Calls Tryz.prog 11 #[.string s, .int .i64 p, .string t] w fun e w' => ∃ gm, e = .returned (.tuple #[.pointer (some ⟨gm, 0, none⟩), .int .i64 0]) ∧ Mac w' w.heap.size gm (fun _ => False) s (bys t) p 0 ∧ Below w.heap.size w w' := by
  refine (newM s t p hs hp ht w).mono ?_
  rintro e w' ⟨gm, gr, gw, vb, he, hl, hb⟩
  exact ⟨gm, he, ⟨gr, gw, vb, mNew, 0, hl _, rfl, fun _ e => e.elim⟩, hb⟩
end Go.Cm

/- The walk of a machine's copy. Conditions: the machine is there. -/
namespace Go.Cm
open Go.RowKit Go.Proofs

theorem fnV_one (k : Nat) : (fnV k).oneCell' = true := by
  unfold fnV
  split
  · rfl
  · split <;> rfl
theorem winMono {w : World} {B B' gw : Nat} {vb : Value} {H : Byts} (h : WinAt w B gw vb H) (hB : B' ≤ B) : WinAt w B' gw vb H := by
  obtain ⟨b, ⟨h1, h2, h3⟩, h4⟩ := h
  exact ⟨b, ⟨h1.mono hB, h2.mono hB, h3⟩, h4⟩
def zM : Array Value := #[.pointer none, .pointer none, .int .i64 0, .bool false, .int .i64 0, .pointer none, .pointer none, .int .i64 0, .int .i64 0, .string ⟨#[]⟩, .int .i64 0, .slice none 0 0, .nilFunc]
theorem zero_mc (W : World) : (zeroValue 76).run Tryz.prog W = .ok (.agg zM) W := by kernel_rfl
/-- a machine of one's own that stands where the other one stands -/
def RetCopy0 (s : ByteArray) (p : Nat) (H : Byts) (st : List (Nat × Nat)) (m : MV) (w : World) (e : Ending) (w' : World) : Prop :=
  ∃ gm2 gr2 gw2 vb2 vs2, e = .returned (.pointer (some ⟨gm2, 0, none⟩)) ∧ Full0 w' w.heap.size gm2 gr2 gw2 vb2 s p H st { m with vs := vs2 } ∧ Below w.heap.size w w'
set_option maxRecDepth 100000 in
set_option maxHeartbeats 4000000 in
theorem copyM0 {w : World} {B gm gr gw p : Nat} {vb : Value} {s : ByteArray} {H : Byts} {st : List (Nat × Nat)} {m : MV} (h : Full0 w B gm gr gw vb s p H st m) (hst : st.length ≤ 100000000) : Calls Tryz.prog 12 #[.pointer (some ⟨gm, 0, none⟩)] w (RetCopy0 s p H st m w) := by
  have HF := Lib.hid h
  have HTH := Lib.hid (thereM h.mach.box)
  have hg := h.mach.box.blk.2
  obtain ⟨vo, vc, vbl, vf, hvs, -, -⟩ := h.sts.sl
  rw [List.length_map] at hvs
  have HVS : Hid (m.vs = .slice vo st.length vc) := Lib.hid hvs
  obtain ⟨A, hA, hAs, hAl⟩ := (show Own w B 76 (.slice (some ⟨gm, 0, none⟩) 13 13) (mvC gr gw m) from h.mach.box).whole
  have HAL := Lib.hid hAl
  have hA1 : ∀ u ∈ A.toList, u.oneCell' = true := by
    obtain ⟨q1, q2, q3, q4⟩ := h.one
    rw [hAl]
    intro u hu
    simp only [mvC, List.mem_cons, List.not_mem_nil, or_false] at hu
    rcases hu with rfl | rfl | rfl | rfl | rfl | rfl | rfl | rfl | rfl | rfl | rfl | rfl | rfl
    · rfl
    · rfl
    · rfl
    · rfl
    · rfl
    · exact q1
    · exact q2
    · rfl
    · rfl
    · rfl
    · rfl
    · rw [hvs]; rfl
    · rw [q4]; exact fnV_one _
  have hz := zero_mc
  obtain ⟨Z, hZ⟩ : ∃ Z, Z = zM := ⟨_, rfl⟩
  have hZl : Z.toList.length = 13 := by rw [hZ]; rfl
  have hZs : Z.size = 13 := by rw [hZ]; rfl
  rw [← hZ] at hz
  clear hZ hAl h hvs
  have ho := own_lit w w.heap.size Z 76 (by omega) (Nat.le_refl _)
  rw [hZs] at ho
  have HO := Lib.hid ho
  have HST := Lib.hid hst
  clear ho hst
  go_enter Tryz.func12, Tryz.ntmps12
  go_upto_region 4 with (first | ((with_reducible go_at_call 25); (with_reducible refine HTH.out.mono ?_); rintro e w' ⟨rfl, hw⟩; rw [hw]; clear hw) | (refine load_box rfl 76 13 _ rfl gm rfl A hAs hA _ Tryz.underlying76 rfl (by kernel_rfl) ?_) | (refine wpList_store_agg rfl 76 _ _ rfl w.heap.size 76 w.heap.size 13 13 rfl A rfl (by rw [hAs]; kernel_rfl) Z.toList HO.out (by rw [hAs, hZl]; exact Nat.le_refl _) hA1 ?_; intro w2 hown2 hg2; have HO2 := Lib.hid hown2; have HG2 := Lib.hid hg2; clear hown2 hg2))
  have h2 := HO2.out
  rw [hAs, List.drop_of_length_le (by omega), List.append_nil, HAL.out] at h2
  have HB2 : Hid (Below w.heap.size w w2) := Lib.hid ((below_alloc w _).grown HG2.out (by simp) (fun k hk => by cases hk; exact Nat.le_refl _))
  obtain ⟨g2, hg2⟩ : ∃ g2, g2 = w.heap.size := ⟨_, rfl⟩
  have HM2 : Hid (Own w2 g2 76 (.slice (some ⟨g2, 0, none⟩) 13 13) (mvC gr gw m)) := Lib.hid (by rw [hg2]; exact h2)
  have HB2' : Hid (Below g2 w w2) := Lib.hid (by rw [hg2]; exact HB2.out)
  have HGL : Hid (gm < g2 ∧ gr < g2 ∧ gw < g2 ∧ g2 = w.heap.size) := Lib.hid (by
    obtain ⟨b, hb, -⟩ := HF.out.mach.win
    have l1 := HF.out.mach.box.blk.2
    have l2 := HF.out.mach.rd.lt
    have l3 := hb.box.blk.2
    exact ⟨by omega, by omega, by omega, hg2⟩)
  have HF2 := Lib.hid (HF.out.up HB2.out)
  rw [← hg2]
  have HR2 := Lib.hid (fun (W : World) (hb : Below w2.heap.size w2 W) => copyS2 (HF2.out.mach.rd.up hb))
  have c0 : w2.cell? ⟨gm, 0, none⟩ = some (.pointer (some ⟨gr, 0, none⟩)) := HF2.out.mach.box.cell (by decide)
  have hgm2 := HF2.out.mach.box.blk.2
  have hg22 := (HM2.out.lt g2 rfl).2
  have HG22 : Hid (g2 < w2.heap.size) := Lib.hid hg22
  clear h2 hg2 HO HO2 HG2 hA1 hA hAs HAL hg HTH HB2 hz hZl hZs
  go_upto_region 5 with ((with_reducible go_at_call 26); (with_reducible refine (HR2.out _ (Below.refl _ _)).mono ?_); rintro e w3 ⟨gr2, rfl, hr3, hgr2, hb3⟩; have HR3 := Lib.hid hr3; have HGR2 := Lib.hid hgr2; have HB3 := Lib.hid hb3; have HM3 := Lib.hid (HM2.out.up hb3); have c30 : w3.cell? ⟨g2, 0, none⟩ = some (.pointer (some ⟨gr, 0, none⟩)) := (HM2.out.up hb3).cell (by simp [mvC]); have f30 := (HM2.out.up hb3).free 0; have hg23 : g2 < w3.heap.size := ((HM2.out.up hb3).lt g2 rfl).2; clear hr3 hgr2 hb3)
  obtain ⟨hm4, hg4⟩ := HM3.out.store 0 (.pointer (some ⟨gr2, 0, none⟩))
  have HM4 := Lib.hid hm4
  have hbw4 : Below w2.heap.size w2 w3 := HB3.out
  have HB4 : Hid (Below g2 w (w3.setCell ⟨g2, 0, none⟩ (.pointer (some ⟨gr2, 0, none⟩)))) := Lib.hid ((HB2'.out.trans (hbw4.mono (Nat.le_of_lt hg22))).grown hg4 (Nat.le_of_lt hg23) (fun q e => by injection e with e; omega))
  have HR4 : Hid (BoxS (w3.setCell ⟨g2, 0, none⟩ (.pointer (some ⟨gr2, 0, none⟩))) gr2 s p) := Lib.hid ⟨HR3.out.own.keep hg4 (.inr (fun e => by have h1 := HGR2.out; have h2 := HG22.out; have e' : gr2 = g2 := (by injection e); omega))⟩
  have HS4 : Hid (w3.heap.size ≤ (w3.setCell ⟨g2, 0, none⟩ (.pointer (some ⟨gr2, 0, none⟩))).heap.size) := Lib.hid hg4.size
  generalize w3.setCell ⟨g2, 0, none⟩ (.pointer (some ⟨gr2, 0, none⟩)) = w4 at *
  have HF4 := Lib.hid (HF.out.up (show Below w.heap.size w w4 by rw [← HGL.out.2.2.2]; exact HB4.out))
  have HTW := Lib.hid (twinWn HF4.out.mach.win)
  have d1 : w4.cell? ⟨gm, 1, none⟩ = some (.pointer (some ⟨gw, 0, none⟩)) := HF4.out.mach.box.cell (by decide)
  have hgm4 := HF4.out.mach.box.blk.2
  have hg24 := (HM4.out.lt g2 rfl).2
  have hs34 := HS4.out
  clear c0 hgm2 hg22 c30 f30 hg23 hm4 hg4 hbw4 HR2 HM2 HM3 HF2 HR3 HB3
  go_upto_region 6 with ((with_reducible go_at_call 27); (with_reducible refine HTW.out.mono ?_); rintro e w5 ⟨gw2, v2, rfl, hw5, hgw1, hgw2, hb5⟩; have HW5 := Lib.hid hw5; have HGW := Lib.hid hgw1; have HB5 := Lib.hid hb5; have HM5 := Lib.hid (HM4.out.up hb5); have c51 : w5.cell? ⟨g2, 1, none⟩ = some (.pointer (some ⟨gw, 0, none⟩)) := (HM4.out.up hb5).cell (by simp [mvC]); have f51 := (HM4.out.up hb5).free 1; have hg25 : g2 < w5.heap.size := ((HM4.out.up hb5).lt g2 rfl).2; clear hw5 hgw1 hgw2 hb5)
  obtain ⟨hm6, hg6⟩ := HM5.out.store 1 (.pointer (some ⟨gw2, 0, none⟩))
  have HM6 := Lib.hid hm6
  have hb5 := HB5.out
  have HB6 : Hid (Below g2 w (w5.setCell ⟨g2, 1, none⟩ (.pointer (some ⟨gw2, 0, none⟩)))) := Lib.hid ((HB4.out.trans (hb5.mono (Nat.le_of_lt hg24))).grown hg6 (Nat.le_of_lt hg25) (fun q e => by injection e with e; omega))
  have hgr2l : gr2 < w3.heap.size ∨ True := .inr trivial
  have HGR4 : Hid (gr2 < w4.heap.size ∧ g2 < gr2) := Lib.hid ⟨HR4.out.lt, by have h1 := HGR2.out; have h2 := HG22.out; omega⟩
  have HR6 : Hid (BoxS (w5.setCell ⟨g2, 1, none⟩ (.pointer (some ⟨gw2, 0, none⟩))) gr2 s p) := Lib.hid ⟨(HR4.out.up hb5).own.keep hg6 (.inr (fun e => by have h1 := HGR4.out; have e' : gr2 = g2 := (by injection e); omega))⟩
  have hfx6 : Fx (fun k => k = g2) w5 (w5.setCell ⟨g2, 1, none⟩ (.pointer (some ⟨gw2, 0, none⟩))) := fx_grown hg6 (fun k e => by injection e with e; exact e.symm)
  obtain ⟨bw, hbw, hlw⟩ := HW5.out
  have HWL : Hid (∀ k, v2.ownBlock = some k → w4.heap.size ≤ k ∧ k < w5.heap.size) := Lib.hid (fun k e => hbw.own.lt k e)
  have HWN : Hid (v2.ownBlock ≠ some gw2) := Lib.hid hbw.ne
  have HW6 : Hid (WinAt (w5.setCell ⟨g2, 1, none⟩ (.pointer (some ⟨gw2, 0, none⟩))) w4.heap.size gw2 v2 H) := Lib.hid (HW5.out.fx hfx6 (fun e => by have := HGW.out; omega) (fun k e z => by have := HWL.out k e; omega))
  have HS6 : Hid (w5.heap.size ≤ (w5.setCell ⟨g2, 1, none⟩ (.pointer (some ⟨gw2, 0, none⟩))).heap.size) := Lib.hid hg6.size
  have HS5 := Lib.hid hb5.size
  have HGWL : Hid (gw2 < w5.heap.size) := Lib.hid hbw.box.blk.2
  generalize w5.setCell ⟨g2, 1, none⟩ (.pointer (some ⟨gw2, 0, none⟩)) = w6 at *
  have HF6 := Lib.hid (HF.out.up (show Below w.heap.size w w6 by rw [← HGL.out.2.2.2]; exact HB6.out))
  have d11 : w6.cell? ⟨gm, 11, none⟩ = some (.slice vo st.length vc) := by rw [← HVS.out]; exact HF6.out.mach.box.cell (by decide)
  have hgm6 := HF6.out.mach.box.blk.2
  have HSS : Hid (SlK 2 w6 (.slice vo st.length vc) (st.map stC)) := Lib.hid (by rw [← HVS.out]; exact HF6.out.sts.sl)
  have HLN : Hid (([] : List (List Value)).length + (st.map stC).length ≤ 1000000000) := Lib.hid (by rw [List.length_map, List.length_nil]; have := HST.out; omega)
  have HZ0 : Hid (g2 ≤ w6.heap.size) := Lib.hid (by have := (HM6.out.lt g2 rfl).2; omega)
  clear hfx6 hbw hlw hb5 hm6 hg6 d1 hgm4 hg24 hs34 c51 f51 hg25 hgr2l HM4 HM5 HF4 HTW HB4 HR4 HW5
  go_upto_region 7 with (at_builtin; go_loud ((refine wpList_appK 2 rfl (.const (.slice none 0 0)) (.tmp 25) 24 rfl g2 49 (.agg #[.int .i64 0, .int .i64 0]) 16 Tryz.underlying24 (by kernel_rfl) rfl (by decide) (by decide) (.slice none 0 0) [] rfl (OwnK.nil 2 w6 g2 49) (.slice vo st.length vc) _ rfl HSS.out (stC_len _) (stC_one _) HLN.out HZ0.out ?_); intro v7 w7 hown1 hg0 hk1; have hg1 : w6.grownBy w7 none := hg0; clear hg0; rw [List.nil_append] at hown1; obtain ⟨o7, k7, b7, f7, hv7, -, -⟩ := hown1.sl; obtain ⟨n7, hn7⟩ : ∃ n7, n7 = (st.map stC).length := ⟨_, rfl⟩; rw [← hn7] at hv7; subst hv7; clear hn7; have HO7 := Lib.hid hown1; have HG7 := Lib.hid hg1; have HK7 := Lib.hid hk1; have HM7 := Lib.hid (HM6.out.keep hg1 (.inr (fun e => nomatch (show some g2 = (none : Option Nat) from e)))); have c711 : w7.cell? ⟨g2, 11, none⟩ = some (.slice vo st.length vc) := (by rw [← HVS.out]; exact (HM6.out.keep hg1 (.inr (fun e => nomatch (show some g2 = (none : Option Nat) from e)))).cell (by simp [mvC])); have f711 := (HM6.out.keep hg1 (.inr (fun e => nomatch (show some g2 = (none : Option Nat) from e)))).free 11; have hg27 : g2 < w7.heap.size := ((HM6.out.keep hg1 (.inr (fun e => nomatch (show some g2 = (none : Option Nat) from e)))).lt g2 rfl).2; clear hown1 hg1 hk1))
  obtain ⟨hm8, hg8⟩ := HM7.out.store 11 (.slice o7 n7 k7)
  have HG2 : Hid (g2 < w6.heap.size) := Lib.hid (by have := (HM6.out.lt g2 rfl).2; omega)
  have hne7 : ∀ k, (Value.slice o7 n7 k7).ownBlock = some k → w6.heap.size ≤ k := fun k e => (HK7.out k e).elim (fun h => nomatch (show (none : Option Nat) = some k from h)) id
  have hf68 : Fx (fun k => k = g2) w6 (w7.setCell ⟨g2, 11, none⟩ (.slice o7 n7 k7)) := (fx_grown (S := fun k => k = g2) HG7.out (fun k e => nomatch (show (none : Option Nat) = some k from e))).grown hg8 (fun k e => .inl (by injection e with e; exact e.symm))
  have HB8 : Hid (Below g2 w (w7.setCell ⟨g2, 11, none⟩ (.slice o7 n7 k7))) := Lib.hid ((HB6.out.grown HG7.out (Nat.le_of_lt HG2.out) (fun q e => nomatch (show (none : Option Nat) = some q from e))).grown hg8 (Nat.le_of_lt hg27) (fun q e => by injection e with e; omega))
  have HF8 : Hid (Full0 (w7.setCell ⟨g2, 11, none⟩ (.slice o7 n7 k7)) g2 g2 gr2 gw2 v2 s p H st { m with vs := .slice o7 n7 k7 }) := Lib.hid (by
    have e1 := HGR4.out
    have e2 := HGW.out
    have e3 := HS5.out
    have e4 := HS6.out
    have e5 := HGWL.out
    have e6 := HG2.out
    refine ⟨⟨?_, ?_, ?_, ?_, ?_, ?_, ?_, ?_, ?_⟩, ?_, ?_, ?_⟩
    · exact hm8
    · exact ⟨hf68.own HR6.out.own (fun k e => by have e' : gr2 = k := (by injection e); intro z; omega)⟩
    · exact (winMono HW6.out (by omega)).fx hf68 (fun e => by omega) (fun k e z => by have := HWL.out k e; omega)
    · omega
    · omega
    · omega
    · intro e; have := HWL.out _ e; omega
    · intro e; have := HWL.out _ e; omega
    · omega
    · exact HO7.out.keep hg8 (.inr (fun e => by have := hne7 g2 e; omega))
    · intro k e
      have := hne7 k e
      refine ⟨by omega, by omega, by omega, fun z => ?_⟩
      have := HWL.out k z
      omega
    · exact HF.out.one)
  generalize w7.setCell ⟨g2, 11, none⟩ (.slice o7 n7 k7) = w8 at *
  clear hm8 hg8 hne7 hf68 c711 f711 hg27
  go_wp2
  go_ret
  exact ⟨g2, gr2, gw2, v2, _, rfl, by rw [← HGL.out.2.2.2]; exact HF8.out, by rw [← HGL.out.2.2.2]; exact HB8.out⟩
end Go.Cm

/- A machine's copy, for a caller: the copy stays as it is when the other one plays on. Conditions: as each says. -/
namespace Go.Cm
open Go.RowKit Go.Proofs

attribute [local irreducible] lastN
theorem Full0.ge {w : World} {B gm gr gw p : Nat} {vb : Value} {s : ByteArray} {H : Byts} {st : List (Nat × Nat)} {m : MV} (h : Full0 w B gm gr gw vb s p H st m) : ∀ q, FSet gm gr gw vb m.vs q → B ≤ q := by
  intro q e
  obtain ⟨b, hb, -⟩ := h.mach.win
  rcases e with (e | e | e | e) | e
  · rw [e]; exact h.mach.box.blk.1
  · rw [e]; exact h.mach.Br
  · rw [e]; exact hb.box.blk.1
  · exact (hb.own.lt q e).1
  · exact (h.sts.lt q e).1
theorem Full0.stlen {w : World} {B gm gr gw p p' : Nat} {vb : Value} {s : ByteArray} {H H' : Byts} {st st' : List (Nat × Nat)} {m : MV} (h : Full0 w B gm gr gw vb s p H st m) (h' : Full0 w B gm gr gw vb s p' H' st' m) : st'.length = st.length := by
  obtain ⟨_, _, _, _, e1, -, -⟩ := h.sts.sl
  obtain ⟨_, _, _, _, e2, -, -⟩ := h'.sts.sl
  rw [e1, List.length_map, List.length_map] at e2
  injection e2 with _ a _
  exact a.symm
theorem copyM {w : World} {B gm gr gw pre k : Nat} {vb : Value} {X : Nat → Prop} {s : ByteArray} {z0 : IS} {m : MV} (h : Live w B gm gr gw vb X s pre z0 m k) : Calls Tryz.prog 12 #[.pointer (some ⟨gm, 0, none⟩)] w fun e w' =>
    ∃ gm2 gr2 gw2 vb2 vs2, e = .returned (.pointer (some ⟨gm2, 0, none⟩)) ∧ Live w' w.heap.size gm2 gr2 gw2 vb2 (fun q => FSet gm gr gw vb m.vs q) s pre z0 { m with vs := vs2 } k ∧ Below w.heap.size w w' := by
  obtain ⟨hl, ht⟩ := h
  obtain ⟨p, H, st, hb, hst⟩ := hl.bad
  by_cases h0 : (playS s pre z0 k).1 = 0
  · have hg := hl.good h0
    have hst' : (playS s pre z0 k).2.st.length ≤ 100000000 := by rw [hb.stlen hg.f0]; exact hst
    refine (copyM0 hg.f0 hst').mono ?_
    rintro e w' ⟨gm2, gr2, gw2, vb2, vs2, he, hf, hbl⟩
    refine ⟨gm2, gr2, gw2, vb2, vs2, he, ⟨⟨hl.kb, hl.wrong, hl.made, ⟨_, _, _, hf, hst'⟩, fun _ => ⟨hf, hg.rel, fun e => ?_⟩⟩, ht⟩, hbl⟩
    obtain ⟨ta, tb, tc, td, k1, k2, k3⟩ := hg.tabs e
    have l1 : tb ≤ w.heap.size := by obtain ⟨_, _, q, _⟩ := k1; exact q
    have l2 : td ≤ w.heap.size := by obtain ⟨_, _, q, _⟩ := k2; exact q
    refine ⟨ta, tb, tc, td, k1.fx (fx_below (S := fun _ => False) hbl) (fun _ _ _ e => e), k2.fx (fx_below (S := fun _ => False) hbl) (fun _ _ _ e => e), fun q hq => ⟨fun z => ?_, (k3 q hq).1⟩⟩
    have := hf.ge q z
    omega
  · refine (copyM0 hb hst).mono ?_
    rintro e w' ⟨gm2, gr2, gw2, vb2, vs2, he, hf, hbl⟩
    exact ⟨gm2, gr2, gw2, vb2, vs2, he, ⟨⟨hl.kb, hl.wrong, hl.made, ⟨_, _, _, hf, hst⟩, fun e => absurd e h0⟩, ht⟩, hbl⟩
/-- a machine and its copy, which told so many bytes; both apart from the blocks V -/
def TwoM (w : World) (B gm gm2 : Nat) (V : Nat → Prop) (s : ByteArray) (t : Byts) (p told : Nat) : Prop :=
  ∃ B2 gr gw vb m k gr2 gw2 vb2 m2 k2, B ≤ B2 ∧ Live w B gm gr gw vb (fun _ => False) s (lastN t).length (zNew t p) m k ∧ (∀ q, V q → ¬ FSet gm gr gw vb m.vs q) ∧ Live w B2 gm2 gr2 gw2 vb2 (fun q => FSet gm gr gw vb m.vs q) s (lastN t).length (zNew t p) m2 k2 ∧ m2.told = told ∧ (∀ q, V q → ¬ FSet gm2 gr2 gw2 vb2 m2.vs q) ∧ ∀ q, FSet gm2 gr2 gw2 vb2 m2.vs q → ¬ FSet gm gr gw vb m.vs q
theorem copyC {w : World} {B gm : Nat} {V : Nat → Prop} {s : ByteArray} {t : Byts} {p told : Nat} (h : Mac w B gm V s t p told) (hV : ∀ q, V q → q < w.heap.size) : Calls Tryz.prog 12 #[.pointer (some ⟨gm, 0, none⟩)] w fun e w' => ∃ gm2, e = .returned (.pointer (some ⟨gm2, 0, none⟩)) ∧ TwoM w' B gm gm2 V s t p told ∧ Below w.heap.size w w' := by
  obtain ⟨gr, gw, vb, m, k, hl, rfl, hv⟩ := h
  refine (copyM hl).mono ?_
  rintro e w' ⟨gm2, gr2, gw2, vb2, vs2, he, hl2, hb⟩
  have hge := hl2.live.ge.1
  refine ⟨gm2, he, ⟨w.heap.size, gr, gw, vb, m, k, gr2, gw2, vb2, _, k, hl.live.ge.2, ⟨hl.live.up hb, hl.text⟩, hv, hl2, rfl, fun q e z => ?_, fun q z e => ?_⟩, hb⟩
  · have h1 := hV q e
    have h2 := hge q z
    omega
  · have h1 := hl.live.lt q e
    have h2 := hge q z
    omega
theorem stepTwo {w : World} {B gm gm2 : Nat} {V : Nat → Prop} {s : ByteArray} {t : Byts} {p told : Nat} (h : TwoM w B gm gm2 V s t p told) (hp : p ≤ 8 * s.size) (hs : s.size ≤ 4000000) (n : Int) : Calls Tryz.prog 13 #[.pointer (some ⟨gm, 0, none⟩), .int .i64 n] w fun e w' => ∃ (c : ByteArray) (er : Nat), e = .returned (.tuple #[.string c, .int .i64 (er : Nat)]) ∧ (∃ B2, B ≤ B2 ∧ Mac w' B2 gm2 V s t p told) ∧ MFx B V w w' := by
  obtain ⟨B2, gr, gw, vb, m, k, gr2, gw2, vb2, m2, k2, hB, hl, hv, hl2, htd, hv2, hap⟩ := h
  refine (stepM hl (zNew_ok hp) rfl hs (fun _ e => e.elim) n).mono ?_
  rintro e w' ⟨c, er, he, -, -, h3⟩
  obtain ⟨vb', m', k', -, -, hf, -⟩ := h3
  refine ⟨c, er, he, ⟨B2, hB, gr2, gw2, vb2, m2, k2, ⟨(hl2.live.fx hf hap (fun _ e => e)).reX (fun _ e => e.elim), hl2.text⟩, htd, hv2⟩, hf.mono (fun q e => ⟨hl.live.ge.1 q e, fun z => hv q z e⟩)⟩
/-- what lies above a former world is not the machine's -/
theorem Mac.more {w0 w : World} {B gm : Nat} {V V' : Nat → Prop} {s : ByteArray} {t : Byts} {p told : Nat} (h : Mac w0 B gm V s t p told) (hb : Below w0.heap.size w0 w) (hV : ∀ q, V' q → V q ∨ w0.heap.size ≤ q) : Mac w B gm V' s t p told := by
  obtain ⟨gr, gw, vb, m, k, hl, ht, hv⟩ := h
  refine ⟨gr, gw, vb, m, k, ⟨hl.live.up hb, hl.text⟩, ht, fun q e z => ?_⟩
  rcases hV q e with h1 | h1
  · exact hv q h1 z
  · have := hl.live.lt q z
    omega
/-- A world in which blocks of S may have been written, and more has been laid. -/
noncomputable def fxw (w : World) (S : Nat → Prop) (x : World) : World := @ite _ (Fx S w x) (Classical.propDecidable _) x w
theorem fxw_fx (w x : World) (S : Nat → Prop) : Fx S w (fxw w S x) := by
  unfold fxw; split
  · assumption
  · exact Fx.refl _ _
theorem fxw_of {w x : World} {S : Nat → Prop} (h : Fx S w x) : fxw w S x = x := by unfold fxw; rw [if_pos h]
theorem ex_fxw {w x : World} {S : Nat → Prop} (h : Fx S w x) : ∃ y, x = fxw w S y := ⟨x, (fxw_of h).symm⟩
@[go_sem] theorem cell?_fxw (w x : World) (S : Nat → Prop) (b o : Nat) (h : b < w.heap.size) (hr : ¬ S b) : (fxw w S x).cell? ⟨b, o, none⟩ = w.cell? ⟨b, o, none⟩ := World.cell?_of_block ((fxw_fx w x S).block b h hr)
@[go_sem] theorem frozen?_fxw (w x : World) (S : Nat → Prop) (b o : Nat) (h : b < w.heap.size) (hr : ¬ S b) : (fxw w S x).frozen? ⟨b, o, none⟩ = w.frozen? ⟨b, o, none⟩ := World.frozen?_of_block ((fxw_fx w x S).block b h hr)
theorem Mac.weaken {w : World} {B gm : Nat} {V V' : Nat → Prop} {s : ByteArray} {t : Byts} {p told : Nat} (h : Mac w B gm V s t p told) (hV : ∀ q, V' q → V q) : Mac w B gm V' s t p told := by
  obtain ⟨gr, gw, vb, m, k, hl, ht, hv⟩ := h
  exact ⟨gr, gw, vb, m, k, hl, ht, fun q e => hv q (hV q e)⟩
theorem MFx.low {B B2 : Nat} {V : Nat → Prop} {w w' : World} (h : MFx B2 V w w') (hB : B ≤ B2) : MFx B V w w' := Fx.mono h (fun _ e => ⟨Nat.le_trans hB e.1, e.2⟩)
end Go.Cm

/- A stored block, byte by byte; the ends of steps, in plain Lean. Conditions: as each says. -/
namespace Go.Cm

section
variable {s : ByteArray} {pre M k : Nat} {z0 z : IS}
/-- a step that errs ends the run -/
theorem ps_err (hk : playS s pre z0 k = (0, z)) (hm : z.md ≠ 3) {e : Nat} (he : (stepS s pre z).1 = e) (h0 : e ≠ 0) : playS s pre z0 (k + 1) = (e, z) := by
  have hn : ¬ StopI (playS s pre z0 k) := by rw [hk]; exact fun h => h.elim (fun h => h rfl) hm
  rw [playS_err hn (by rw [hk, he]; exact h0), hk, he]
theorem ps_ok (hM : M = 16777216) (hk : playS s pre z0 k = (0, z)) (hm : z.md ≠ 3) {z' : IS} (he : stepS s pre z = (0, z')) (hb : ¬ M < z'.h.length - pre) : playS s pre z0 (k + 1) = (0, z') := by
  have hn : ¬ StopI (playS s pre z0 k) := by rw [hk]; exact fun h => h.elim (fun h => h rfl) hm
  rw [playS_ok hM hn (by rw [hk, he]) (by rw [hk, he]; exact hb), hk, he]
theorem ps_big (hM : M = 16777216) (hk : playS s pre z0 k = (0, z)) (hm : z.md ≠ 3) {z' : IS} (he : stepS s pre z = (0, z')) (hb : M < z'.h.length - pre) : playS s pre z0 (k + 1) = (3, { z' with h := z'.h.take (pre + M) }) := by
  have hn : ¬ StopI (playS s pre z0 k) := by rw [hk]; exact fun h => h.elim (fun h => h rfl) hm
  rw [playS_big hM hn (by rw [hk, he]) (by rw [hk, he]; exact hb), hk, he]
/-- where a stored block stands behind i bytes -/
structure StorAt (s : ByteArray) (pre M : Nat) (z : IS) (i : Nat) : Prop where
  le : i ≤ z.left
  av : z.p + 8 * i ≤ 8 * s.size
  room : z.h.length - pre + i ≤ M
def storH (s : ByteArray) (z : IS) (i : Nat) : Byts := z.h ++ ((bys s).drop (z.p / 8)).take i
theorem storH_len (hp : z.p % 8 = 0) {i : Nat} (ha : z.p + 8 * i ≤ 8 * s.size) : (storH s z i).length = z.h.length + i := by
  unfold storH
  rw [List.length_append, List.length_take, List.length_drop, bys_len]
  omega
theorem stepS_stor (hmd : z.md = 1) : stepS s pre z = storI (8 * s.size) (bys s) z := by
  unfold stepS stI
  rw [if_neg (by rw [hmd]; decide), if_pos hmd]
/-- all bytes were there -/
theorem stor_done (hM : M = 16777216) (hk : playS s pre z0 k = (0, z)) (hmd : z.md = 1) (h8 : z.p % 8 = 0) (hpre : pre ≤ z.h.length) (h : StorAt s pre M z z.left) :
    ∃ k', playS s pre z0 k' = (0, closeI { z with left := 0, p := z.p + 8 * z.left, h := storH s z z.left }) := by
  have hl := storH_len (s := s) h8 h.av
  have ha := h.av
  have hr := h.room
  by_cases h0 : z.left = 0
  · refine ⟨k + 1, ps_ok hM hk (by rw [hmd]; decide) ?_ ?_⟩
    · rw [stepS_stor hmd]
      unfold storI
      rw [if_pos h0]
      have e : storH s z z.left = z.h := by unfold storH; rw [h0, List.take_zero, List.append_nil]
      rw [e, h0]
      have e2 : ({ z with left := 0, p := z.p + 8 * 0, h := z.h } : IS) = z := by rw [← h0, Nat.mul_comm, Nat.mul_eq_zero.2 (.inl h0)]; rfl
      rw [e2]
    · show ¬ M < (storH s z z.left).length - pre
      omega
  · have hmin : min z.left ((8 * s.size - z.p) / 8) = z.left := by omega
    have h1 : playS s pre z0 (k + 1) = (0, { z with left := 0, p := z.p + 8 * z.left, h := storH s z z.left }) := by
      refine ps_ok hM hk (by rw [hmd]; decide) ?_ ?_
      · rw [stepS_stor hmd]
        unfold storI
        rw [hmin, if_neg h0, if_neg h0, Nat.sub_self]
        rfl
      · show ¬ M < (storH s z z.left).length - pre
        omega
    refine ⟨k + 1 + 1, ps_ok hM h1 (by show z.md ≠ 3; rw [hmd]; decide) ?_ ?_⟩
    · rw [stepS_stor (by exact hmd)]
      unfold storI
      rw [if_pos rfl]
    · show ¬ M < (storH s z z.left).length - pre
      omega
/-- bytes are lacking -/
theorem stor_short (hM : M = 16777216) (hk : playS s pre z0 k = (0, z)) (hmd : z.md = 1) (h8 : z.p % 8 = 0) (hpre : pre ≤ z.h.length) {i : Nat} (h : StorAt s pre M z i) (hi : i < z.left) (hs : 8 * s.size < z.p + 8 * i + 8) :
    ∃ k' z', playS s pre z0 k' = (2, z') ∧ z'.h = storH s z i := by
  have hl := storH_len (s := s) h8 h.av
  have ha := h.av
  have hr := h.room
  have hmin : min z.left ((8 * s.size - z.p) / 8) = i := by omega
  by_cases h0 : i = 0
  · refine ⟨k + 1, z, ps_err hk (by rw [hmd]; decide) ?_ (by decide), ?_⟩
    · rw [stepS_stor hmd]
      unfold storI
      rw [hmin, if_neg (by omega), if_pos h0]
    · unfold storH; rw [h0, List.take_zero, List.append_nil]
  · have h1 : playS s pre z0 (k + 1) = (0, { z with left := z.left - i, p := z.p + 8 * i, h := storH s z i }) := by
      refine ps_ok hM hk (by rw [hmd]; decide) ?_ ?_
      · rw [stepS_stor hmd]
        unfold storI
        rw [hmin, if_neg (by omega), if_neg h0]
        rfl
      · show ¬ M < (storH s z i).length - pre
        omega
    refine ⟨k + 1 + 1, _, ps_err h1 (by show z.md ≠ 3; rw [hmd]; decide) ?_ (by decide), rfl⟩
    rw [stepS_stor (by exact hmd)]
    unfold storI
    simp only
    rw [if_neg (by omega), if_pos (by omega)]
/-- there is no room -/
theorem stor_big (hM : M = 16777216) (hk : playS s pre z0 k = (0, z)) (hmd : z.md = 1) (h8 : z.p % 8 = 0) (hpre : pre ≤ z.h.length) {i : Nat} (h : StorAt s pre M z i) (hi : i < z.left) (hs : z.p + 8 * i + 8 ≤ 8 * s.size) (hb : M ≤ z.h.length - pre + i) :
    ∃ k' z', playS s pre z0 k' = (3, z') ∧ z'.h = storH s z i := by
  have hl := storH_len (s := s) h8 h.av
  have ha := h.av
  have hr := h.room
  obtain ⟨m, hm⟩ : ∃ m, m = min z.left ((8 * s.size - z.p) / 8) := ⟨_, rfl⟩
  have hmi : i < m := by omega
  have hma : z.p + 8 * m ≤ 8 * s.size := by omega
  have hl2 := storH_len (s := s) h8 hma
  refine ⟨k + 1, _, ps_big hM hk (z' := { z with left := z.left - m, p := z.p + 8 * m, h := storH s z m }) (by rw [hmd]; decide) ?_ ?_, ?_⟩
  · rw [stepS_stor hmd]
    unfold storI
    rw [← hm, if_neg (by omega), if_neg (by omega)]
    rfl
  · show M < (storH s z m).length - pre
    omega
  · show (storH s z m).take (pre + M) = storH s z i
    unfold storH
    rw [List.take_append, List.take_of_length_le (by omega), List.take_take, show min (pre + M - z.h.length) m = i by omega]
end
theorem byte_val2 {bs : Byts} {i : Nat} (h : i < bs.length) : valN (numL bs) (8 * i) 8 = (bs[i]).toNat := by
  rw [← numL_byte bs i h, pow256]
  rfl
/-- the next byte of a stored block -/
theorem stor_next {s : ByteArray} {z : IS} (h8 : z.p % 8 = 0) {i : Nat} (ha : z.p + 8 * i + 8 ≤ 8 * s.size) : storH s z i ++ [UInt8.ofNat (valN (numS s) (z.p + 8 * i) 8)] = storH s z (i + 1) ∧ valN (numS s) (z.p + 8 * i) 8 < 256 := by
  have hlt : z.p / 8 + i < (bys s).length := by rw [bys_len]; omega
  have e : valN (numS s) (z.p + 8 * i) 8 = ((bys s)[z.p / 8 + i]).toNat := by
    rw [show z.p + 8 * i = 8 * (z.p / 8 + i) by omega]
    exact byte_val2 hlt
  rw [e]
  refine ⟨?_, UInt8.toNat_lt _⟩
  have hl : i < ((bys s).drop (z.p / 8)).length := by rw [List.length_drop]; omega
  unfold storH
  rw [List.append_assoc, List.take_succ_eq_append_getElem hl, List.getElem_drop]
  congr 2
  simp
end Go.Cm

/- 'append' of elements behind bytes that were made of a text. Conditions: as each says. -/
namespace Go.Cm
open Go.RowKit Go.Proofs

theorem OwnF.of {w : World} {B E : Nat} {v : Value} {xs : List Value} (h : Own w B E v xs) : OwnF w B E v xs := by
  obtain ⟨⟨h3, h4⟩, h5⟩ := h
  refine ⟨h5, ?_⟩
  rcases h4 with ⟨a, b⟩ | ⟨g, cap, cur, a, b, c, d, e, f, i⟩
  · exact .inl ⟨a, List.length_eq_zero_iff.1 b⟩
  · exact .inr ⟨g, cap, cur, (0, 0), a, b, c, .inr rfl, d, e, by omega, by simpa using i⟩
theorem run_appF {P : Program} (w : World) (B : Nat) (t ty E : TypeId) (z : Value) (bytes : Nat) (ht : P.underlying t = some (.slice E)) (hinf : (P.info? E).map (fun i => (i.zero, i.size, i.bytes)) = some (some z, 1, bytes)) (hz : z.cells.size = 1) (hby : bytes ≤ 24)
    (v : Value) (xs : List Value) (hown : OwnF w B E v xs) (xv : Value) (news : List Value) (hx : Sl w xv news) (h1 : ∀ u ∈ news, u.oneCell' = true) (hpos : 0 < news.length) (hlen : xs.length + news.length ≤ 4294967296) (hB : B ≤ w.heap.size) :
    ∃ v' w', (Builtin.append_ #[t, t] ty #[v, xv]).run P w = .ok v' w' ∧ OwnF w' B E v' (xs ++ news) ∧ w.grownBy w' v.ownBlock ∧ (∀ k, v'.ownBlock = some k → v.ownBlock = some k ∨ w.heap.size ≤ k) := by
  obtain ⟨i, hi, hz0, hz1, hz2⟩ : ∃ i0, P.info? E = some i0 ∧ i0.zero = some z ∧ i0.size = 1 ∧ i0.bytes = bytes := by
    cases hq : P.info? E with
    | none => simp [hq] at hinf
    | some i0 => simp [hq] at hinf; exact ⟨i0, rfl, hinf.1, hinf.2.1, hinf.2.2⟩
  have hl1 : xs.length + news.length ≤ maxLen := by simp only [maxLen]; omega
  have hl2 : (xs.length + news.length) * bytes ≤ 140737488355328 := by
    have := Nat.mul_le_mul hlen hby; omega
  have hsl := hown.sl
  have hx0 := hx
  rcases hown with ⟨hsm, hrow⟩
  rcases hrow with ⟨rfl, rfl⟩ | ⟨g, cap, cur, fz, rfl, hbg, hg, hfz, hnc, hcm, hcs, htake⟩
  · obtain ⟨v', w', h2, h3, h6, h7⟩ := run_app (P := P) w B t ty E z bytes ht hinf hz hby (.slice none 0 0) [] (Own.nil w B E) xv news hx0 h1 hlen hB
    exact ⟨v', w', h2, OwnF.of h3, h6, h7⟩
  obtain ⟨oa, cx, b, off, rfl, hd, hc⟩ := hx
  obtain rfl := hd.hat hpos
  have hnews : ∀ (W : World), (∀ k, k < w.heap.size → W.heap[k]? = w.heap[k]?) → ∀ j u, news[j]? = some u → W.cell? ((⟨b, off, none⟩ : Addr).add j) = some u := fun W hW j u hu => by
    have hj := (List.getElem?_eq_some_iff.1 hu).1
    have e := hc j hj
    have hb := hd.hblk (by omega)
    rw [add_off]
    unfold World.cell? at e ⊢
    rw [hW b hb, e]
    simp [List.getD, hu]
  have hf := fun (W : World) hW => run_firstCells_some (P := P) W 1 news.length ⟨b, off, none⟩ news.length cx news (by omega) (hnews W hW)
  have hlen' : (xs ++ news).length ≤ 140737488351232 := by rw [List.length_append]; omega
  by_cases hroom : xs.length + news.length ≤ cap
  · have hfit : xs.length + news.length ≤ cur.size := by rw [hcs]; omega
    have hst := run_storeCells_nf P g xs.length E fz news 0 cur w hg hfz (by simpa using hfit) h1
    simp only [Nat.add_zero] at hst
    generalize hR : (cur.toList.take xs.length ++ news ++ cur.toList.drop (xs.length + news.length)).toArray = R at hst
    have hRs : R.size = cur.size := by
      rw [← hR]
      simp only [List.size_toArray, List.length_append, List.length_take, List.length_drop, Array.length_toList]
      omega
    refine ⟨.slice (some ⟨g, 0, none⟩) (xs.length + news.length) cap, w.setRow g R, ?_, ⟨hlen', .inr ⟨g, cap, R, fz, ?_, hbg, setRow_heap w g cur R E _ hg, by rw [hRs]; exact hfz, ?_, hcm, by rw [hRs]; exact hcs, ?_⟩⟩, ⟨rfl, rfl, rfl, by simp, fun k _ hk => setRow_other w g k _ (fun e => hk (by simp [Value.ownBlock, e]))⟩, fun k hk => .inl hk⟩
    · have hf0 := hf w (fun _ _ => rfl)
      simp [Builtin.append_, run_underlying ht, sizeOf, typeInfo, hi, hz1, Builtin.lenOf, hroom, hf0, Addr.add_lit, hst]
    · rw [List.length_append]
    · rw [List.length_append]; exact hroom
    · rw [← hR, htake]
      exact List.take_left
  · have holds : ∀ j u, xs[j]? = some u → w.cell? ((⟨g, 0, none⟩ : Addr).add j) = some u := fun j u hj => by
      obtain ⟨hjl, hju⟩ := List.getElem?_eq_some_iff.1 hj
      rw [add_off, cell_of_row _ _ _ _ _ _ hg, Nat.zero_add]
      have : cur[j]? = (cur.toList.take xs.length)[j]? := by rw [List.getElem?_take, if_pos hjl]; simp
      rw [this, htake, hj]
    have hge := grownCap_ge w (xs.length + news.length) cap E
    have hcm2 : grownCap w (xs.length + news.length) cap E ≤ maxLen := grownCap_le_maxLen w (xs.length + news.length) cap E hl1
    refine ⟨.slice (some ⟨w.heap.size, 0, none⟩) (xs.length + news.length) (grownCap w (xs.length + news.length) cap E), w.drew.alloc (.cells (xs.toArray ++ news.toArray ++ Builtin.zeroCells z.cells (grownCap w (xs.length + news.length) cap E - (xs.length + news.length))) E), ?_, ⟨hlen', .inr ⟨w.heap.size, _, _, (0, 0), by rw [List.length_append], hB, heap_alloc_new w.drew _, .inr rfl, by rw [List.length_append]; exact hge, hcm2, ?_, ?_⟩⟩, ⟨rfl, rfl, rfl, by simp, fun k hk _ => Below.heap_alloc w.drew _ k hk⟩, fun k hk => .inr (by simp [Value.ownBlock] at hk; omega)⟩
    · have hn : ¬ (xs.length + news.length ≤ cap) := hroom
      have h63' : ¬ (9223372036854775807 < ((xs.length : Int) + (news.length : Int))) := by omega
      have h48' : ¬ (281474976710656 < Builtin.nextslicecap (xs.length + news.length) cap * i.bytes) := by
        have := growslice_fits (need := xs.length + news.length) (old := cap) (bytes := bytes) (by omega) hl2
        rw [hz2]; omega
      have hf0 := hf w.drew (fun _ _ => rfl)
      have hfo := run_firstCells_some (P := P) w.drew 1 xs.length ⟨g, 0, none⟩ xs.length cap xs (by omega) (by simpa using holds)
      simp [Builtin.append_, run_underlying ht, sizeOf, typeInfo, zeroValue, hi, hz0, hz1, Builtin.lenOf, hn, h63', h48', Question.forced, hf0, hfo, newRow, grownCap]
      congr 2
      apply Array.ext'
      simp [List.append_assoc]
    · simp only [Array.size_append, List.size_toArray, size_zeroCells, hz]
      omega
    · simp only [Array.toList_append]
      show List.take _ (xs ++ news ++ _) = _
      rw [← List.length_append]
      exact List.take_left
theorem wpList_appF {P : Program} {ops : Array Oper} {rest : List Oper} {o : Oper} {a : Act} {w : World} {Q : Exit → Act → World → Prop} (hgd : o.guard = none) (s x : Operand) (t : TypeId)
    (ho : o.op = .call { callee := .builtin .append, args := #[s, x], argTypes := #[t, t] })
    (B E : TypeId) (z : Value) (bytes : Nat) (ht : P.underlying t = some (.slice E)) (hinf : (P.info? E).map (fun i => (i.zero, i.size, i.bytes)) = some (some z, 1, bytes)) (hz : z.cells.size = 1) (hby : bytes ≤ 24)
    (v : Value) (xs : List Value) (hs : a.eval s = v) (hown : OwnF w B E v xs) (xv : Value) (news : List Value) (hxe : a.eval x = xv) (hx : Sl w xv news) (h1 : ∀ u ∈ news, u.oneCell' = true) (hpos : 0 < news.length) (hlen : xs.length + news.length ≤ 4294967296) (hB : B ≤ w.heap.size)
    (h : ∀ v' w', OwnF w' B E v' (xs ++ news) → w.grownBy w' v.ownBlock → (∀ k, v'.ownBlock = some k → v.ownBlock = some k ∨ w.heap.size ≤ k) → wpList P ops Q rest (a.put o.dst v') w') : wpList P ops Q (o :: rest) a w := by
  obtain ⟨v', w', hr, h2, h3, h4⟩ := run_appF (P := P) w B t o.type E z bytes ht hinf hz hby v xs hown xv news hx h1 hpos hlen hB
  refine wpList_plain hgd fun K hK => ?_
  unfold Oper.wp execOp
  simp only [ho, resolve, invoke, builtin, Sem.run_bind, Sem.run_pure, Result.andThen_ok, List.map_toArray, List.map_cons, List.map_nil, hs, hxe, hr]
  exact hK _ _ (h v' w' h2 h3 h4)
end Go.Cm

/- The document's work in memory; the walks of a byte that is put, and of further bits. Conditions: the work is there. -/
namespace Go.Cm
open Go.RowKit Go.Proofs

/-- the document's work: the reader in block gr at p, the bytes H, of which pre are the preset -/
structure WorkV (w : World) (B gk gr : Nat) (vb : Value) (s : ByteArray) (p : Nat) (H : Byts) (pre : Nat) : Prop where
  box : Own w B 56 (.slice (some ⟨gk, 0, none⟩) 3 3) [.pointer (some ⟨gr, 0, none⟩), vb, .int .i64 (pre : Nat)]
  rd : BoxT w gr s p
  own : OwnF w B 5 vb (bytesV H)
  n1 : gk ≠ gr
  b1 : vb.ownBlock ≠ some gk
  b2 : vb.ownBlock ≠ some gr
  Br : B ≤ gr
/-- the blocks that it writes -/
abbrev KSet (gk gr : Nat) (vb : Value) (k : Nat) : Prop := k = gk ∨ k = gr ∨ vb.ownBlock = some k
theorem WorkV.up {w w' : World} {B gk gr p pre : Nat} {vb : Value} {s : ByteArray} {H : Byts} (h : WorkV w B gk gr vb s p H pre) (hb : Below w.heap.size w w') : WorkV w' B gk gr vb s p H pre :=
  ⟨h.box.up hb, h.rd.up hb, h.own.fx (fx_below (S := fun _ => False) hb) (fun _ _ e => e), h.n1, h.b1, h.b2, h.Br⟩
theorem WorkV.read {w w' : World} {B gk gr p q pre : Nat} {vb : Value} {s : ByteArray} {H : Byts} (h : WorkV w B gk gr vb s p H pre) (hr : BoxT w' gr s q) (hg : w.grownBy w' (some gr)) : WorkV w' B gk gr vb s q H pre ∧ Fx (KSet gk gr vb) w w' := by
  have hf : Fx (fun k => k = gr) w w' := fx_grown hg (fun k e => by injection e with e; exact e.symm)
  exact ⟨⟨hf.own h.box (fun k e z => by cases e; exact h.n1 z), hr, h.own.fx hf (fun k e z => h.b2 (by rw [e, z])), h.n1, h.b1, h.b2, h.Br⟩, hf.mono (fun k e => .inr (.inl e))⟩
theorem WorkV.lt {w : World} {B gk gr p pre : Nat} {vb : Value} {s : ByteArray} {H : Byts} (h : WorkV w B gk gr vb s p H pre) : gk < w.heap.size ∧ gr < w.heap.size ∧ B ≤ gk ∧ B ≤ w.heap.size := by
  have h1 := h.box.lt gk rfl
  exact ⟨h1.2, h.rd.lt, h1.1, by have := h.Br; have := h.rd.lt; omega⟩
/-- one change behind another -/
theorem kfx_next {gk gr : Nat} {vb vb' : Value} {w w1 w2 : World} (h : Fx (KSet gk gr vb) w w1) (hk : ∀ k, vb'.ownBlock = some k → vb.ownBlock = some k ∨ w.heap.size ≤ k) (k : Fx (KSet gk gr vb') w1 w2) : Fx (KSet gk gr vb) w w2 :=
  ⟨k.os.trans h.os, k.tape.trans h.tape, k.output.trans h.output, Nat.le_trans h.size k.size, fun i hi h1 => by
    rw [k.block i (Nat.lt_of_lt_of_le hi h.size) (fun e => ?_), h.block i hi h1]
    rcases e with e | e | e
    · exact h1 (.inl e)
    · exact h1 (.inr (.inl e))
    · rcases hk i e with h2 | h2
      · exact h1 (.inr (.inr h2))
      · omega⟩
theorem own_next {vb vb1 vb2 : Value} {w w1 : World} (h : ∀ k, vb1.ownBlock = some k → vb.ownBlock = some k ∨ w.heap.size ≤ k) (hs : w.heap.size ≤ w1.heap.size) (h2 : ∀ k, vb2.ownBlock = some k → vb1.ownBlock = some k ∨ w1.heap.size ≤ k) : ∀ k, vb2.ownBlock = some k → vb.ownBlock = some k ∨ w.heap.size ≤ k := fun k e => by
  rcases h2 k e with h3 | h3
  · exact h k h3
  · exact .inr (Nat.le_trans hs h3)
theorem OwnF.head {w : World} {B E : Nat} {v : Value} {xs : List Value} (h : OwnF w B E v xs) : ∃ o c b f, v = .slice o xs.length c ∧ Hd w o xs.length c b f ∧ ∀ i, i < xs.length → w.cell? ⟨b, f + i, none⟩ = some (xs.getD i undef) := h.sl
/-- what putting a byte answers -/
def RetPut (B gk gr : Nat) (vb : Value) (s : ByteArray) (p : Nat) (H : Byts) (pre c : Nat) (w : World) (e : Ending) (w' : World) : Prop :=
  ∃ vb', e = .returned (.bool (decide (H.length - pre < 16777216))) ∧ WorkV w' B gk gr vb' s p (if H.length - pre < 16777216 then H ++ [UInt8.ofNat c] else H) pre ∧ Fx (KSet gk gr vb) w w' ∧ (∀ k, vb'.ownBlock = some k → vb.ownBlock = some k ∨ w.heap.size ≤ k)
set_option maxRecDepth 100000 in
set_option maxHeartbeats 2000000 in
theorem putK {w : World} {B gk gr p pre : Nat} {vb : Value} {s : ByteArray} {H : Byts} (h : WorkV w B gk gr vb s p H pre) (hpre : pre ≤ H.length) (hp2 : pre ≤ 32768) (hb : H.length - pre ≤ 16777216) (c : Nat) (hc : c < 256) :
    Calls Tryz.prog 32 #[.pointer (some ⟨gk, 0, none⟩), .int .u8 c] w (RetPut B gk gr vb s p H pre c w) := by
  have HH := Lib.hid h
  obtain ⟨o, cp, b, f, rfl, hd, -⟩ := h.own.head
  have hm := hd.len
  rw [bytesV_length] at HH hm ⊢
  have c1 : w.cell? ⟨gk, 1, none⟩ = some (.slice o H.length cp) := HH.out.box.cell (by simp)
  have c2 : w.cell? ⟨gk, 2, none⟩ = some (.int .i64 (pre : Nat)) := HH.out.box.cell (by simp)
  have hg := HH.out.lt.1
  have hB := HH.out.lt.2.2.2
  have f1 := HH.out.box.free 1
  have hBK := HH.out.lt.2.2.1
  obtain ⟨M, hM⟩ : ∃ M : Nat, M = 16777216 := ⟨_, rfl⟩
  unfold RetPut
  rw [← hM] at hb ⊢
  have HHB := Lib.hid hb
  clear h hd
  by_cases hlt : H.length - pre < M
  · have hge : decide ((H.length : Int) - (pre : Nat) ≥ 16777216) = false := decide_eq_false (by omega)
    have HLT := Lib.hid hlt
    have HX : Hid (∀ W : World, Sl (W.alloc (.cells #[.int .u8 (c : Nat)] 5)) (.slice (some ⟨W.heap.size, 0, none⟩) 1 1) [.int .u8 (c : Nat)]) := Lib.hid (fun W => by
      have h1 := sl_lit W #[.int .u8 (c : Nat)] 5 (by simp)
      simpa using h1)
    have HC : Hid (bytesV H ++ [.int .u8 (c : Nat)] = bytesV (H ++ [UInt8.ofNat c])) := Lib.hid (by
      rw [bytesV_append]
      congr 1
      simp only [bytesV, List.map_cons, List.map_nil]
      rw [show ((UInt8.ofNat c).toNat : Int) = (c : Nat) by rw [UInt8.toNat_ofNat']; omega])
    have HLN : Hid ((bytesV H).length + [Value.int .u8 (c : Nat)].length ≤ 4294967296) := Lib.hid (by rw [bytesV_length]; show H.length + 1 ≤ _; omega)
    have H1C : Hid (∀ u ∈ [Value.int .u8 (c : Nat)], u.oneCell' = true) := Lib.hid (by intro u hu; simp at hu; subst hu; rfl)
    clear hlt hb
    go_enter Tryz.func32, Tryz.ntmps32
    go_wp2
    go_quiet (fail)
    go_upto_region 3 with (fail)
    have HBD := Lib.hid (below_drewN w nq)
    generalize w.drewN nq = w1 at *
    have HH1 := Lib.hid (HH.out.up HBD.out)
    clear c1 c2 f1 hg
    have c1 : w1.cell? ⟨gk, 1, none⟩ = some (.slice o H.length cp) := HH1.out.box.cell (by simp)
    have f1 := HH1.out.box.free 1
    have hg := HH1.out.lt.1
    have HTO := Lib.hid (HH1.out.own.fx (fx_below (S := fun _ => False) (below_alloc w1 (.cells #[.int .u8 (c : Nat)] 5))) (fun _ _ e => e))
    have HTB : Hid (B ≤ (w1.alloc (.cells #[.int .u8 (c : Nat)] 5)).heap.size) := Lib.hid (Nat.le_trans HH1.out.lt.2.2.2 (below_alloc w1 _).size)
    have HPS : Hid (0 < [Value.int .u8 (c : Nat)].length) := Lib.hid (by simp)
    go_wp2_with (at_builtin; refine wpList_appF rfl (.tmp 20) (.tmp 22) 54 rfl B 5 (.int .u8 0) 1 Tryz.underlying54 (by kernel_rfl) rfl (by decide) (.slice o H.length cp) (bytesV H) rfl HTO.out (.slice (some ⟨w1.heap.size, 0, none⟩) 1 1) [.int .u8 (c : Nat)] rfl (HX.out w1) H1C.out HPS.out HLN.out HTB.out ?_; intro v' w5 hown1 hg1 hk1; rw [HC.out] at hown1; obtain ⟨o5, k5, q5, z5, hv5, -, -⟩ := hown1.head; obtain ⟨l5, hl5⟩ : ∃ l5, l5 = (bytesV (H ++ [UInt8.ofNat c])).length := ⟨_, rfl⟩; rw [← hl5] at hv5; subst hv5; clear hl5; have HO1 := Lib.hid hown1; have HG1 := Lib.hid hg1; have HK1 := Lib.hid hk1; have hbx := ((HH1.out.box.up (below_alloc w1 (.cells #[.int .u8 (c : Nat)] 5))).keep hg1 (.inr (fun e => HH1.out.b1 e.symm))); have HBX := Lib.hid hbx; have c15 : w5.cell? ⟨gk, 1, none⟩ = some (.slice o H.length cp) := hbx.cell (by simp); have f15 := hbx.free 1; have hg5 : gk < w5.heap.size := (hbx.lt gk rfl).2; clear hown1 hg1 hk1 hbx)
    go_ret
    have hst := HBX.out.store 1 (.slice o5 l5 k5)

    have hne : (Value.slice o5 l5 k5).ownBlock ≠ some gk := fun e => by
      rcases HK1.out gk e with h1 | h1
      · exact HH1.out.b1 h1
      · have := (below_alloc w1 (.cells #[.int .u8 (c : Nat)] 5)).size
        have := HH1.out.lt.1
        omega
    have hnr : (Value.slice o5 l5 k5).ownBlock ≠ some gr := fun e => by
      rcases HK1.out gr e with h1 | h1
      · exact HH1.out.b2 h1
      · have := (below_alloc w1 (.cells #[.int .u8 (c : Nat)] 5)).size
        have := HH1.out.lt.2.1
        omega
    have hrd := (((HH1.out.rd.up (below_alloc w1 (.cells #[.int .u8 (c : Nat)] 5))).own.keep HG1.out (.inr (fun e => HH1.out.b2 e.symm))).keep hst.2 (.inr (fun e => HH1.out.n1 (by injection e with e; exact e.symm))))
    have hf : Fx (fun k => k = gk) w5 (w5.setCell ⟨gk, 1, none⟩ (.slice o5 l5 k5)) := fx_grown hst.2 (fun k e => by injection e with e; exact e.symm)
    have hF1 : Fx (KSet gk gr (.slice o H.length cp)) w w5 := (fx_below (HBD.out.trans ((below_alloc w1 (.cells #[.int .u8 (c : Nat)] 5)).mono HBD.out.size))).trans (fx_grown HG1.out (fun k e => .inr (.inr e)))
    have hsz : w.heap.size ≤ (w1.alloc (.cells #[.int .u8 (c : Nat)] 5)).heap.size := Nat.le_trans HBD.out.size (below_alloc w1 _).size
    exact ⟨rfl, .slice o5 l5 k5, ⟨hst.1, ⟨hrd⟩, HO1.out.fx hf (fun k e z => hne (by rw [e, z])), HH1.out.n1, hne, hnr, HH1.out.Br⟩, hF1.trans (hf.mono (fun k e => .inl e)), fun k e => (HK1.out k e).imp id (fun h => Nat.le_trans hsz h)⟩
  · have hge : decide ((H.length : Int) - (pre : Nat) ≥ 16777216) = true := decide_eq_true (by omega)
    have HLT := Lib.hid hlt
    clear hlt hb
    go_enter Tryz.func32, Tryz.ntmps32
    go_wp2
    go_quiet (fail)
    go_wp2
    go_ret
    have HBD := Lib.hid (below_drewN w nq)

    exact ⟨rfl, _, HH.out.up HBD.out, fx_below HBD.out, fun _ e => .inl e⟩
end Go.Cm

/- The walks of the document's symbols of lengths and distances. Conditions: none. -/
namespace Go.Cm
open Go.RowKit Go.Proofs

theorem rbits4 (i : Nat) (hi : i < 100) (w : World) : Calls Tryz.prog 75 #[.int .i64 i, .int .i64 4] w fun e w' => e = .returned (.int .i64 (spB 4 i : Nat)) ∧ ∃ x, w' = ext w x := by
  have h1 : (i : Int).tdiv 4 = ((i / 4 : Nat) : Int) := by norm_cast
  have hl : i / 4 < 100 := by omega
  unfold spB
  by_cases h : i < 2 * 4
  · have hd : decide ((i : Int) < 2 * 4) = true := by rw [decide_eq_true_iff]; omega
    have e : i / 4 - 1 = 0 := by omega
    rw [e]
    go_enter Tryz.func75, Tryz.ntmps75
    go_wp2
    go_ret
    exact ⟨rfl, (ex_ext (by repeat (first | exact Below.refl _ _ | assumption | refine b_drewN ?_ _ | refine Below.drew ?_ | refine b_ext' ?_ _ | refine b_alloc' ?_ _)))⟩
  · have hd : decide ((i : Int) < 2 * 4) = false := by rw [decide_eq_false_iff_not]; omega
    have e : ((i / 4 - 1 : Nat) : Int) = (i : Int) / 4 - 1 := by omega
    rw [e]
    go_enter Tryz.func75, Tryz.ntmps75
    go_wp2
    go_ret
    exact ⟨rfl, (ex_ext (by repeat (first | exact Below.refl _ _ | assumption | refine b_drewN ?_ _ | refine Below.drew ?_ | refine b_ext' ?_ _ | refine b_alloc' ?_ _)))⟩
set_option maxRecDepth 100000 in
theorem lenR0 (i : Nat) (hi : i ≤ 27) (w : World) : Calls Tryz.prog 51 #[.int .i64 ((257 + i : Nat) : Int)] w fun e w' => e = .returned (.tuple #[.int .i64 (spBase 3 4 i : Nat), .int .i64 (spB 4 i : Nat), .bool true]) ∧ ∃ x, w' = ext w x := by
  have HBI := Lib.hid (fun (i : Nat) (hi : i < 100) (W : World) => rbits4 i hi W)
  obtain ⟨s, hs⟩ : ∃ s, s = 257 + i := ⟨_, rfl⟩
  rw [← hs]
  have hs2 : s ≤ 257 + 27 := by omega
  have hs1 : 257 ≤ s := by omega
  have h285 : ((s : Int) == 285) = false := by simp; omega
  have hdl : decide ((s : Int) < 257) = false := by rw [decide_eq_false_iff_not]; omega
  have hdr : decide ((s : Int) > 285) = false := by rw [decide_eq_false_iff_not]; omega
  have HS := Lib.hid hs
  clear hs
  go_enter Tryz.func51, Tryz.ntmps51
  go_wp2
  go_loopg [5, 6] (i + 1) (fun gk bv sv wr => ∃ k : Nat, bv = .int .i64 (spBase 3 4 k : Nat) ∧ sv = .int .i64 ((257 + k : Nat) : Int) ∧ k ≤ i ∧ Below w.heap.size w wr ∧ gk = i + 1 - k)
  case atStart => exact ⟨0, rfl, rfl, Nat.zero_le _, Below.refl _ _, rfl⟩
  case round =>
    obtain ⟨k, rfl, rfl, hk, hbel, rfl⟩ := hrel
    have HBL := Lib.hid hbel
    have HBK := Lib.hid (fun W => HBI.out k (by omega) W)
    have hbs := spBase4_le k (by omega)
    have hb13 := spB4_le k (by omega)
    have hp := Nat.pow_le_pow_right (n := 2) (by decide) hb13
    have hpi : (2 : Int) ^ (spB 4 k) ≤ 8192 := by
      have h : ((2 ^ spB 4 k : Nat) : Int) ≤ 8192 := by omega
      simpa using h
    have hpi0 : (0 : Int) ≤ (2 : Int) ^ (spB 4 k) := Int.pow_nonneg (by decide)
    have HN1 : Hid (((spBase 3 4 (k + 1) : Nat) : Int) = ((spBase 3 4 k : Nat) : Int) + 2 ^ (spB 4 k)) := Lib.hid (by rw [spBase_step]; norm_cast)
    have hs := HS.out
    obtain ⟨v, hv⟩ : ∃ v, v = 257 + k := ⟨_, rfl⟩
    have hvk : (v : Int) - 257 = (k : Int) := by omega
    clear hbel
    by_cases hlt : k < i
    · have hd : v < s := by omega
      have hv1 : ((257 + (k + 1) : Nat) : Int) = (v : Int) + 1 := by omega
      have HV1 := Lib.hid hv1
      rw [← hv]
      clear hs hv1
      clear hv
      generalize spB 4 k = b at *
      generalize spBase 3 4 k = q at *
      go_wp2_with (go_at_call 75; (with_reducible refine (HBK.out _).mono ?_); rintro e w4 ⟨rfl, x4, rfl⟩)
      go_roundg (i + 1 - (k + 1))
      case measure => omega
      case rel => exact ⟨k + 1, by rw [HN1.out], by rw [HV1.out], by omega, HBL.out.trans ((ext_below _ x4).mono HBL.out.size), rfl⟩
    · obtain rfl : k = i := by omega
      have hd : decide (v < s) = false := by rw [decide_eq_false_iff_not]; omega
      have hsk : (s : Int) - 257 = (k : Int) := by omega
      clear hs hlt hv hvk
      
      go_wp2_with (go_at_call 75; (with_reducible refine (HBK.out _).mono ?_); rintro e w4 ⟨rfl, x4, rfl⟩)
      go_ret3
      exact ⟨rfl, ex_ext (HBL.out.trans ((ext_below _ x4).mono HBL.out.size))⟩
theorem rbits2 (i : Nat) (hi : i < 100) (w : World) : Calls Tryz.prog 75 #[.int .i64 i, .int .i64 2] w fun e w' => e = .returned (.int .i64 (spB 2 i : Nat)) ∧ ∃ x, w' = ext w x := by
  have h1 : (i : Int).tdiv 2 = ((i / 2 : Nat) : Int) := by norm_cast
  have hl : i / 2 < 100 := by omega
  unfold spB
  by_cases h : i < 2 * 2
  · have hd : decide ((i : Int) < 2 * 2) = true := by rw [decide_eq_true_iff]; omega
    have e : i / 2 - 1 = 0 := by omega
    rw [e]
    go_enter Tryz.func75, Tryz.ntmps75
    go_wp2
    go_ret
    exact ⟨rfl, (ex_ext (by repeat (first | exact Below.refl _ _ | assumption | refine b_drewN ?_ _ | refine Below.drew ?_ | refine b_ext' ?_ _ | refine b_alloc' ?_ _)))⟩
  · have hd : decide ((i : Int) < 2 * 2) = false := by rw [decide_eq_false_iff_not]; omega
    have e : ((i / 2 - 1 : Nat) : Int) = (i : Int) / 2 - 1 := by omega
    rw [e]
    go_enter Tryz.func75, Tryz.ntmps75
    go_wp2
    go_ret
    exact ⟨rfl, (ex_ext (by repeat (first | exact Below.refl _ _ | assumption | refine b_drewN ?_ _ | refine Below.drew ?_ | refine b_ext' ?_ _ | refine b_alloc' ?_ _)))⟩
set_option maxRecDepth 100000 in
theorem dstR0 (i : Nat) (hi : i ≤ 29) (w : World) : Calls Tryz.prog 53 #[.int .i64 ((0 + i : Nat) : Int)] w fun e w' => e = .returned (.tuple #[.int .i64 (spBase 1 2 i : Nat), .int .i64 (spB 2 i : Nat), .bool true]) ∧ ∃ x, w' = ext w x := by
  have HBI := Lib.hid (fun (i : Nat) (hi : i < 100) (W : World) => rbits2 i hi W)
  obtain ⟨s, hs⟩ : ∃ s, s = 0 + i := ⟨_, rfl⟩
  rw [← hs]
  have hs2 : s ≤ 0 + 29 := by omega
  have hs1 : 0 ≤ s := by omega
  have hdl : decide ((s : Int) < 0) = false := by rw [decide_eq_false_iff_not]; omega
  have hdr : decide ((s : Int) > 29) = false := by rw [decide_eq_false_iff_not]; omega
  have HS := Lib.hid hs
  clear hs
  go_enter Tryz.func53, Tryz.ntmps53
  go_wp2
  go_loopg [5, 6] (i + 1) (fun gk bv sv wr => ∃ k : Nat, bv = .int .i64 (spBase 1 2 k : Nat) ∧ sv = .int .i64 ((0 + k : Nat) : Int) ∧ k ≤ i ∧ Below w.heap.size w wr ∧ gk = i + 1 - k)
  case atStart => exact ⟨0, rfl, rfl, Nat.zero_le _, Below.refl _ _, rfl⟩
  case round =>
    obtain ⟨k, rfl, rfl, hk, hbel, rfl⟩ := hrel
    have HBL := Lib.hid hbel
    have HBK := Lib.hid (fun W => HBI.out k (by omega) W)
    have hbs := spBase2_le k (by omega)
    have hb13 := spB2_le k (by omega)
    have hp := Nat.pow_le_pow_right (n := 2) (by decide) hb13
    have hpi : (2 : Int) ^ (spB 2 k) ≤ 8192 := by
      have h : ((2 ^ spB 2 k : Nat) : Int) ≤ 8192 := by omega
      simpa using h
    have hpi0 : (0 : Int) ≤ (2 : Int) ^ (spB 2 k) := Int.pow_nonneg (by decide)
    have HN1 : Hid (((spBase 1 2 (k + 1) : Nat) : Int) = ((spBase 1 2 k : Nat) : Int) + 2 ^ (spB 2 k)) := Lib.hid (by rw [spBase_step]; norm_cast)
    have hs := HS.out
    obtain ⟨v, hv⟩ : ∃ v, v = 0 + k := ⟨_, rfl⟩
    have hvk : (v : Int) - 0 = (k : Int) := by omega
    clear hbel
    by_cases hlt : k < i
    · have hd : v < s := by omega
      have hv1 : ((0 + (k + 1) : Nat) : Int) = (v : Int) + 1 := by omega
      have HV1 := Lib.hid hv1
      rw [← hv]
      clear hs hv1
      obtain rfl : k = v := by omega
      clear hv hvk
      generalize spB 2 k = b at *
      generalize spBase 1 2 k = q at *
      go_wp2_with (go_at_call 75; (with_reducible refine (HBK.out _).mono ?_); rintro e w4 ⟨rfl, x4, rfl⟩)
      go_roundg (i + 1 - (k + 1))
      case measure => omega
      case rel => exact ⟨k + 1, by rw [HN1.out], by rw [HV1.out], by omega, HBL.out.trans ((ext_below _ x4).mono HBL.out.size), rfl⟩
    · obtain rfl : k = i := by omega
      have hd : decide (v < s) = false := by rw [decide_eq_false_iff_not]; omega
      have hsk : (s : Int) - 0 = (k : Int) := by omega
      clear hs hlt hv hvk
      obtain rfl : s = k := by omega
      go_wp2_with (go_at_call 75; (with_reducible refine (HBK.out _).mono ?_); rintro e w4 ⟨rfl, x4, rfl⟩)
      go_ret3
      exact ⟨rfl, ex_ext (HBL.out.trans ((ext_below _ x4).mono HBL.out.size))⟩
theorem lenR285 (w : World) : Calls Tryz.prog 51 #[.int .i64 285] w fun e w' => e = .returned (.tuple #[.int .i64 258, .int .i64 0, .bool true]) ∧ ∃ x, w' = ext w x := by
  go_enter Tryz.func51, Tryz.ntmps51
  go_wp2
  go_ret3
  exact ⟨rfl, (ex_ext (by repeat (first | exact Below.refl _ _ | assumption | refine b_drewN ?_ _ | refine Below.drew ?_ | refine b_ext' ?_ _ | refine b_alloc' ?_ _)))⟩
end Go.Cm
