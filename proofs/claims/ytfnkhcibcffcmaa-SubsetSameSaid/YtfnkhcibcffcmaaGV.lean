/- Texts of this claim, joined: walks of small functions and plain facts about them. Conditions: as each says. -/
import Derived.Test.YtfnkhcibcffcmaaGU
import Derived.Test.YtfnkhcibcffcmaaGT
import Derived.Test.YtfnkhcibcffcmaaGA
import Derived.Test.YtfnkhcibcffcmaaGD
import Derived.StringKeys
import Derived.Test.YtfnkhcibcffcmaaGR
import Derived.Deep.LoopGhost
import Derived.Test.YtfnkhcibcffcmaaGB
import Derived.Maps.OwnSet
import Derived.Deep.Quiet
/- The maker of lists of states in memory, and the walk of number. Conditions: as it says. -/
namespace Go.Cm
open Go.RowKit Go.Proofs Go.Maps

theorem keyed_string : Keyed Try.prog 9 := string_keyed Try.underlying9
theorem zero_int (w : World) : (zeroValue 3).run Try.prog w = .ok (.int .i64 0) w := by kernel_rfl
theorem MapIs.has_yes {α : Type} [DecidableEq α] {lit : α → Lit} {D : DataW Unit} {ks : List α} (h : MapIs lit D ks) {k : α} (hk : k ∈ ks) : Maps.has D (lit k) = true := (h.2.2.1 k).trans (decide_eq_true hk)
theorem MapIs.has_no {α : Type} [DecidableEq α] {lit : α → Lit} {D : DataW Unit} {ks : List α} (h : MapIs lit D ks) {k : α} (hk : k ∉ ks) : Maps.has D (lit k) = false := (h.2.2.1 k).trans (decide_eq_false hk)
def strL (s : List UInt8) : Lit := .string s
/-- lists of states, as cells -/
def cellsL (R : List (List Nat)) : List (List Value) := R.map fun L => ints (nz L)
theorem cellsL_len (R : List (List Nat)) : (cellsL R).length = R.length := by simp [cellsL]
theorem cellsL_get {R : List (List Nat)} {i : Nat} (h : i < R.length) : (cellsL R).getD i [] = ints (nz (R.getD i [])) := by simp [cellsL, List.getD, h]
/-- all states take two bytes -/
def Two (R : List (List Nat)) : Prop := ∀ L ∈ R, L.length ≤ 100000 ∧ ∀ s ∈ L, s < 65536
theorem idx_mapG {α β : Type} [DecidableEq α] [DecidableEq β] (f : α → β) {R : List α} {L : α} (h : ∀ a ∈ R, f a = f L → a = L) : idx (R.map f) (f L) = idx R L := by
  unfold idx
  induction R with
  | nil => rfl
  | cons a R ih =>
    rw [List.map_cons, List.idxOf_cons, List.idxOf_cons, ih (fun b hb => h b (by simp [hb]))]
    by_cases e : a = L
    · subst e; simp
    · have e2 : f a ≠ f L := fun q => e (h a (by simp) q)
      rw [show (f a == f L) = false by simpa using e2, show (a == L) = false by simpa using e]
theorem idx_map {R : List (List Nat)} {L : List Nat} (h : ∀ a ∈ R, textL a = textL L → a = L) : idx (R.map textL) (textL L) = idx R L := idx_mapG textL h
theorem mem_map {R : List (List Nat)} {L : List Nat} (h : ∀ a ∈ R, textL a = textL L → a = L) : textL L ∈ R.map textL ↔ L ∈ R := by
  rw [List.mem_map]
  exact ⟨fun ⟨a, ha, e⟩ => h a ha e ▸ ha, fun hL => ⟨L, hL, rfl⟩⟩
/-- the maker, in block q; its numbers in block m -/
structure MkN (w : World) (B q m : Nat) (ve vr : Value) (F : Int) (lv : Value) (vs : List Value) (R : List (List Nat)) : Prop where
  box : Own w B 66 (.slice (some ⟨q, 0, none⟩) 5 5) [ve, .int .i64 F, vr, lv, .map (some m)]
  lists : OwnM w B 23 3 lv vs (cellsL R)
  map : OwnMap Try.prog 9 3 strL w m (R.map textL)
  mB : B ≤ m
  qm : q ≠ m
  offQ : OwnM.free lv vs (some q)
  offM : OwnM.free lv vs (some m)
theorem litStrL : LitOk strL := ⟨fun a b h => by unfold strL at h; injection h, fun _ => trivial⟩
theorem free_snoc {v v' x : Value} {vs : List Value} {q n : Nat} (h : OwnM.free v vs (some q)) (hx : x.ownBlock ≠ some q) (hk : ∀ k, v'.ownBlock = some k → v.ownBlock = some k ∨ n ≤ k) (hn : q < n) : OwnM.free v' (vs ++ [x]) (some q) := by
  refine ⟨fun k hk1 e => ?_, fun i hi k hk1 e => ?_⟩
  · injection e with e
    subst e
    rcases hk _ hk1 with h1 | h1
    · exact h.1 _ h1 rfl
    · omega
  · injection e with e
    subst e
    rw [List.length_append, List.length_singleton] at hi
    rcases Nat.lt_succ_iff_lt_or_eq.1 hi with h1 | rfl
    · rw [getD_append_left' h1] at hk1
      exact h.2 i h1 _ hk1 rfl
    · rw [getD_append_one] at hk1
      exact hx hk1
def MkNS (q m : Nat) (lv : Value) (k : Nat) : Prop := k = q ∨ k = m ∨ lv.ownBlock = some k
section
variable {w w' : World} {B q m : Nat} {ve vr : Value} {F : Int} {lv : Value} {vs : List Value} {R : List (List Nat)}
theorem MkN.up (h : MkN w B q m ve vr F lv vs R) (hb : Below w.heap.size w w') : MkN w' B q m ve vr F lv vs R :=
  ⟨h.box.up hb, h.lists.up hb, h.map.up hb, h.mB, h.qm, h.offQ, h.offM⟩
theorem MkN.lt (h : MkN w B q m ve vr F lv vs R) : ∀ k, MkNS q m lv k → B ≤ k ∧ k < w.heap.size := fun k hk => by
  rcases hk with rfl | rfl | hk
  · exact h.box.lt _ rfl
  · exact ⟨h.mB, h.map.lt⟩
  · exact h.lists.outer.lt k hk
theorem MkN.c (h : MkN w B q m ve vr F lv vs R) : w.cell? ⟨q, 0, none⟩ = some ve ∧ w.cell? ⟨q, 1, none⟩ = some (.int .i64 F) ∧ w.cell? ⟨q, 2, none⟩ = some vr ∧ w.cell? ⟨q, 3, none⟩ = some lv ∧ w.cell? ⟨q, 4, none⟩ = some (.map (some m)) ∧ q < w.heap.size :=
  ⟨h.box.cell (i := 0) (by simp), h.box.cell (i := 1) (by simp), h.box.cell (i := 2) (by simp), h.box.cell (i := 3) (by simp), h.box.cell (i := 4) (by simp), h.box.blk.2⟩
end
set_option maxRecDepth 100000 in
set_option maxHeartbeats 4000000 in
theorem numberP {w0 w : World} {B q m : Nat} {ve vr : Value} {F : Int} {lv : Value} {vs : List Value} {R : List (List Nat)} (h0 : MkN w0 B q m ve vr F lv vs R) (hb0 : Below w0.heap.size w0 w) {x : Value} {L : List Nat} (hx : Own w w0.heap.size 3 x (ints (nz L))) (hT : Two R) (hL : L.length ≤ 100000 ∧ ∀ s ∈ L, s < 65536) (hR : R.length ≤ 100000) :
    Calls Try.prog 24 #[.pointer (some ⟨q, 0, none⟩), x] w fun e w' => e = .returned (.int .i64 (idx (addNew R L) L : Nat)) ∧ ∃ lv' vs', MkN w' B q m ve vr F lv' vs' (addNew R L) ∧ Gw (MkNS q m lv) w (MkNS q m lv') w' ∧ (∀ k, k < w0.heap.size → OwnM.free lv vs (some k) → OwnM.free lv' vs' (some k)) := by
  have HX0 := Lib.hid (fun k hk => (hx.lt k hk).1)
  have HWB := Lib.hid hb0.size
  have hinj : ∀ a ∈ R, textL a = textL L → a = L := fun a ha e => textL_inj (hT a ha).2 hL.2 e
  have HIX := Lib.hid (idx_map hinj)
  have HME := Lib.hid (mem_map hinj)
  have hB0 : B ≤ w0.heap.size := Nat.le_of_lt (Nat.lt_of_le_of_lt (h0.lt q (.inl rfl)).1 (h0.lt q (.inl rfl)).2)
  have HFX : Hid (OwnM.free lv vs x.ownBlock) := Lib.hid (by
    cases hxo : x.ownBlock with
    | none => exact OwnM.free_none
    | some k => exact h0.lists.free_new (hx.lt k hxo).1)
  have HXQ : Hid (x.ownBlock ≠ some q ∧ x.ownBlock ≠ some m) := Lib.hid ⟨fun e => by have := (hx.lt q e).1; have := (h0.lt q (.inl rfl)).2; omega, fun e => by have := (hx.lt m e).1; have := (h0.lt m (.inr (.inl rfl))).2; omega⟩
  have HTX := Lib.hid (textP (show IntsAt w x (nz L) from hx.sl) hL.1)
  have HX := Lib.hid (hx.mono hB0)
  have HM := Lib.hid (h0.up hb0)
  have HTL := Lib.hid (textL_len L)
  have hkey : keyOf Try.prog 9 (.string ⟨(textL L).toArray⟩) = some (.string (textL L)) := by
    have := Go.WideMaps.keyOf_string_mk (P := Try.prog) (k := 9) Try.underlying9 (s := ⟨(textL L).toArray⟩) (by show (textL L).toArray.size ≤ _; simp [maxLen, textL_len]; omega)
    simpa using this
  have HKEY := Lib.hid hkey
  clear hx hT hL hinj h0 hb0 hkey hB0
  obtain ⟨t, ht⟩ : ∃ t, t = textL L := ⟨_, rfl⟩
  have HTT := Lib.hid ht
  rw [← ht] at HIX HME HTX HTL HKEY
  clear ht
  obtain ⟨ox, lx, cx, rfl⟩ : ∃ ox lx cx, x = .slice ox lx cx := by
    obtain ⟨o, c, g, e, -⟩ := HX.out.cases
    exact ⟨o, _, c, e⟩
  obtain ⟨og, cg, gg, hlv, -⟩ := HM.out.lists.outer.cases
  have hvl := HM.out.lists.len
  rw [cellsL_len] at hvl
  rw [hvl] at hlv
  subst hlv
  obtain ⟨-, -, -, c3, c4, hq⟩ := HM.out.c
  by_cases hmem : L ∈ R
  · have HNR : Hid (addNew R L = R) := Lib.hid (by unfold addNew; rw [if_pos hmem])
    have HMEM := Lib.hid hmem
    obtain ⟨D, hD, hMp⟩ := HM.out.map
    have HD := Lib.hid hD
    have HMI := Lib.hid hMp
    have HHAS : Hid (Maps.has D (.string t) = true) := Lib.hid (hMp.has_yes (HME.out.2 hmem))
    have HAT : Hid (∀ c : Int, D.atKey (.string t) (.lit (.int .i64 0)) = .lit (.int .i64 c) → c = (idx R L : Nat)) := Lib.hid (fun c hc => by rw [← HIX.out]; exact hMp.at_eq (HME.out.2 hmem) hc)
    clear hD hMp hmem
    rw [HNR.out]
    go_enter Try.func24, Try.ntmps24
    go_wp2_with (first
      | ((with_reducible go_at_call 42); refine HTX.out.mono ?_; rintro en w1 ⟨rfl, x1, rfl⟩; have HB1 := Lib.hid (ext_below w x1); have HM1 := Lib.hid (HM.out.up (ext_below w x1)); have HD1 := Lib.hid (HD.out.kept (grown_below (ext_below w x1) none) (by simp)); generalize ext w x1 = w1 at *; obtain ⟨-, -, -, d3, d4, hq1⟩ := HM1.out.c; clear c3 c4 hq)
      | (at_lookup; go_loud (refine wpList_lookup_own_ok_int _ rfl _ _ 64 rfl 9 3 .i64 keyed_string Try.underlying64 Try.underlying3 (zero_int _) m _ D rfl HD1.out _ _ rfl HKEY.out ?_; intro c hat hwc; rw [HHAS.out]; have hce := HAT.out c hat; subst hce; clear hat hwc)))
    go_ret
    exact ⟨rfl, _, _, HM1.out, gw_below _ HB1.out, fun _ _ h => h⟩
  · have HNR : Hid (addNew R L = R ++ [L]) := Lib.hid (by unfold addNew; rw [if_neg hmem])
    have HID : Hid (idx (addNew R L) L = R.length) := Lib.hid (by rw [HNR.out, idxOf_append_new hmem])
    obtain ⟨D, hD, hMp⟩ := HM.out.map
    have HD := Lib.hid hD
    have HMI := Lib.hid hMp
    have HNM : Hid (t ∉ R.map textL) := Lib.hid (fun e => hmem (HME.out.1 e))
    have HHAS : Hid (Maps.has D (.string t) = false) := Lib.hid (hMp.has_no HNM.out)
    clear hD hMp hmem
    rw [HID.out]
    have hml := HM.out.lists
    go_enter Try.func24, Try.ntmps24
    go_upto_region 6 with (first
      | ((with_reducible go_at_call 42); refine HTX.out.mono ?_; rintro en w1 ⟨rfl, x1, rfl⟩; have HB1 := Lib.hid (ext_below w x1); have HM1 := Lib.hid (HM.out.up (ext_below w x1)); have HX1 := Lib.hid (HX.out.up (ext_below w x1)); have HD1 := Lib.hid (HD.out.kept (grown_below (ext_below w x1) none) (by simp)); generalize ext w x1 = w1 at *; obtain ⟨-, -, -, d3, d4, hq1⟩ := HM1.out.c; clear c3 c4 hq)
      | (at_lookup; go_loud (refine wpList_lookup_own_ok_int _ rfl _ _ 64 rfl 9 3 .i64 keyed_string Try.underlying64 Try.underlying3 (zero_int _) m _ D rfl HD1.out _ _ rfl HKEY.out ?_; intro c hat hwc; rw [HHAS.out]; clear hat hwc)))
    clear hml
    go_upto_region 7 with (at_mapUpdate; go_loud (refine wpList_mapUpdate_own _ rfl _ _ _ 64 rfl 9 3 keyed_string Try.underlying64 _ m _ D rfl HD1.out (by rw [List.length_map]; unfold maxLen; omega) _ _ _ rfl rfl HKEY.out _ [] (plainElem_int Try.underlying3 (wf64 _ (by omega))) ?_; intro w2 hown1 hgrow1; have HD2 := Lib.hid hown1; have HG2 := Lib.hid hgrow1; clear hown1 hgrow1))
    have hM1 := HM1.out
    have HBX2 := Lib.hid (hM1.box.keep HG2.out (.inr (fun e => by injection e with e; exact hM1.qm e)))
    have HLS2 := Lib.hid (hM1.lists.keep' HG2.out hM1.offM)
    have HX2 := Lib.hid (HX1.out.keep HG2.out (.inr HXQ.out.2))
    have HMB := Lib.hid hM1.mB
    have HQM := Lib.hid hM1.qm
    have HOQ := Lib.hid hM1.offQ
    have HOM := Lib.hid hM1.offM
    have e3 := HBX2.out.cell (i := 3) (by simp)
    have e4 := HBX2.out.cell (i := 4) (by simp)
    simp only [List.getD_cons_zero, List.getD_cons_succ] at e3 e4
    have f3 := HBX2.out.free 3
    have hq2 := HBX2.out.blk.2
    have HGW : Hid (Gw (MkNS q m (.slice og R.length cg)) w (MkNS q m (.slice og R.length cg)) w2) := Lib.hid ((gw_below _ HB1.out).trans (gw_grown HG2.out (fun k hk => .inr (.inl (by injection hk with hk; exact hk.symm))) (fun k hk => .inl hk)))
    clear hM1 d3 d4 hq1 HM1 HM HD1 HD HX1 HX
    have hlW := Lib.hid (below_alloc w2 (.cells #[.slice ox lx cx] 23))
    have HSX : Hid (Sl (w2.alloc (.cells #[.slice ox lx cx] 23)) (.slice (some ⟨w2.heap.size, 0, none⟩) 1 1) [.slice ox lx cx]) := Lib.hid (by simpa using sl_lit w2 #[.slice ox lx cx] 23 (by simp))
    have HT1 := Lib.hid (HLS2.out.outer.up hlW.out)
    have HVL : Hid ((vs ++ [Value.slice ox lx cx]).length = R.length + 1) := Lib.hid (by simp; omega)
    have HT3 : Hid (vs.length + [Value.slice ox lx cx].length ≤ 4294967296) := Lib.hid (by simp; omega)
    have HT4 : Hid (B ≤ (w2.alloc (.cells #[.slice ox lx cx] 23)).heap.size) := Lib.hid (by have := HBX2.out.blk; have := hlW.out.size; omega)
    have e3a := ((hlW.out.cell (p := ⟨q, 3, none⟩) hq2).trans e3)
    go_wp2_with (at_builtin; refine wpList_app rfl (.tmp 37) (.tmp 39) 31 rfl B 23 (.slice none 0 0) 24 Try.underlying31 (by kernel_rfl) rfl (by decide) (.slice og R.length cg) vs rfl HT1.out (.slice (some ⟨w2.heap.size, 0, none⟩) 1 1) [.slice ox lx cx] rfl HSX.out (by simp [Value.oneCell']) HT3.out HT4.out ?_; intro v' w5 hown1 hg1 hk1; obtain ⟨o5, c5, g5', rfl, -⟩ := hown1.cases; rw [HVL.out] at hown1 hk1 ⊢; have HO5 := Lib.hid hown1; have HG5 := Lib.hid hg1; have HK5 := Lib.hid hk1; clear hown1 hg1 hk1; have HBX5 := Lib.hid ((HBX2.out.up hlW.out).keep HG5.out (.inr (fun e => HOQ.out.1 q e.symm rfl))); have g5 := HBX5.out.free 3; have h5 := HBX5.out.cell (i := 3) (by simp); have hq5 := HBX5.out.blk.2)
    go_ret
    have hst := HBX5.out.store 3 (.slice o5 (R.length + 1) c5)
    have hpush := OwnM.push HLS2.out HX2.out HFX.out (grown_below hlW.out none) HO5.out HG5.out HK5.out
    have hcl : cellsL R ++ [ints (nz L)] = cellsL (R ++ [L]) := by simp [cellsL]
    rw [hcl] at hpush
    have hsz := hlW.out.size
    have hml2 : m < w2.heap.size := HD2.out.lt
    have hfq := free_snoc HOQ.out HXQ.out.1 HK5.out (by omega : q < (w2.alloc (.cells #[.slice ox lx cx] 23)).heap.size)
    have hfm := free_snoc HOM.out HXQ.out.2 HK5.out (by omega : m < (w2.alloc (.cells #[.slice ox lx cx] 23)).heap.size)
    have hm2 : OwnMap Try.prog 9 3 strL w2 m ((R ++ [L]).map textL) := by
      have h1 := HMI.out.snoc litStrL HNM.out
      have h2 : (R ++ [L]).map textL = R.map textL ++ [t] := by rw [List.map_append, HTT.out]; rfl
      rw [h2]
      refine ⟨_, ?_, h1⟩
      rw [List.length_append, List.length_singleton, List.length_map]
      have h3 := HD2.out
      rw [List.length_map] at h3
      exact h3
    have hm5 := (((hm2.up hlW.out).keep HG5.out (fun e => HOM.out.1 m e.symm rfl)).keep hst.2 (fun e => HQM.out (by injection e with e; exact e.symm)))
    rw [HNR.out]
    refine ⟨rfl, _, vs ++ [.slice ox lx cx], ⟨hst.1, hpush.keep' hst.2 hfq, hm5, HMB.out, HQM.out, hfq, hfm⟩, ?_, fun k hk hf => free_snoc hf (fun e => by have := HX0.out k e; omega) HK5.out (by have := HWB.out; have := HGW.out.size; omega)⟩
    have g1 : Gw (MkNS q m (.slice og R.length cg)) w (MkNS q m (.slice og R.length cg)) (w2.alloc (.cells #[.slice ox lx cx] 23)) := HGW.out.up hlW.out
    have g2 : Gw (MkNS q m (.slice og R.length cg)) (w2.alloc (.cells #[.slice ox lx cx] 23)) (MkNS q m (.slice o5 (R.length + 1) c5)) w5 := gw_grown HG5.out (fun k hk => .inr (.inr hk)) (fun k hk => by
      rcases hk with h | h | h
      · exact .inl (.inl h)
      · exact .inl (.inr (.inl h))
      · exact (HK5.out k h).imp (fun e => .inr (.inr e)) id)
    exact (g1.trans g2).trans (gw_grown hst.2 (fun k hk => .inl (by injection hk with hk; exact hk.symm)) (fun k hk => .inl hk))
end Go.Cm

/- The walks of rule, least and place. Conditions: the states have rules. -/
namespace Go.Cm
open Go.RowKit Go.Proofs

theorem nz_inj : ∀ {a b : List Nat}, nz a = nz b → a = b
  | [], [], _ => rfl
  | [], _ :: _, h => by simp [nz] at h
  | _ :: _, [], h => by simp [nz] at h
  | x :: a, y :: b, h => by
    simp only [nz, List.map_cons, List.cons.injEq] at h
    have h2 : a = b := nz_inj h.2
    have h1 : x = y := Int.ofNat.inj h.1
    rw [h1, h2]
theorem less_take (r : List Int) (L : List Nat) (k : Nat) (h : k < L.length) : (L.take (k + 1)).foldl (lessI r) (-1) = lessI r ((L.take k).foldl (lessI r) (-1)) (L.getD k 0) := by
  rw [take_succ_getD L k 0 h, List.foldl_append]; rfl
theorem ret_i {a b : Int} (h : a = b) : Ending.returned (.int .i64 a) = .returned (.int .i64 b) := by rw [h]
set_option maxRecDepth 100000 in
theorem ruleP {w : World} {q : Nat} {vr : Value} {r : List Int} (hc : w.cell? ⟨q, 2, none⟩ = some vr) (hq : q < w.heap.size) (hr : IntsAt w vr r) {v : Value} {L : List Nat} (hl : IntsAt w v (nz L)) (hs : ∀ s ∈ L, s < r.length) (hrg : ∀ s, -1 ≤ r.getD s 0 ∧ r.getD s 0 < 32) :
    Calls Try.prog 27 #[.pointer (some ⟨q, 0, none⟩), v] w fun e w' => e = .returned (.int .i64 (leastI r L)) ∧ ∃ x, w' = ext w x := by
  obtain ⟨orr, cr, br, fr, rfl, hdr, hcr⟩ := hr.open
  obtain ⟨oa, cap, b, off, rfl, hd, hcl⟩ := hl.open
  rw [nz_length] at hd hcl ⊢
  have hixr := index_int hdr
  have hix := index_int hd
  have hbr := hdr.hblk
  have hb := hd.hblk
  have hm := hd.len
  have HCR := Lib.hid hcr
  have HC := Lib.hid hcl
  have HS := Lib.hid hs
  have HRG := Lib.hid hrg
  have HLT := Lib.hid (fun k (h : k < L.length) => less_take r L k h)
  have HLR := Lib.hid (fun k => least_range hrg (L.take k) (-1) (by omega) (by omega))
  obtain ⟨n, hn⟩ : ∃ n, n = L.length := ⟨_, rfl⟩
  have HN := Lib.hid hn
  rw [← hn] at hix hb hm HC HLT ⊢
  clear hdr hcr hd hcl hr hl hs hrg hn
  go_enter Try.func27, Try.ntmps27
  go_wp2
  go_loopg [5, 11] n (fun gk ov iv wr => ∃ (k : Nat) (o : Int), ov = .int .i64 o ∧ iv = .int .i64 k ∧ k ≤ n ∧ o = (L.take k).foldl (lessI r) (-1) ∧ Below w.heap.size w wr ∧ gk = n - k)
  case atStart => exact ⟨0, -1, rfl, rfl, Nat.zero_le _, rfl, Below.refl _ _, rfl⟩
  case round =>
    obtain ⟨k, o, rfl, rfl, hk, ho, hbl, rfl⟩ := hrel
    have HO := Lib.hid ho
    have HW := Lib.hid hbl
    have hor := HLR.out k
    rw [← ho] at hor
    clear ho hbl
    by_cases hlt : k < n
    · have hb1 := hb (by omega)
      have hcell := HC.out k hlt
      rw [nz_getD _ _ (by rw [← HN.out]; exact hlt)] at hcell
      have hmem := HS.out _ (getD_mem L k 0 (by rw [← HN.out]; exact hlt))
      have HT := Lib.hid (HLT.out k hlt)
      rw [← HO.out] at HT
      have hixk := fun W => hix W k hlt
      generalize L.getD k 0 = s at *
      have hcw := (HW.out.cell (p := ⟨b, off + k, none⟩) hb1).trans hcell
      have hbw : b < wr.heap.size := by have := HW.out.size; omega
      have hbr1 := hbr (by omega)
      have hcr1 := (HW.out.cell (p := ⟨br, fr + s, none⟩) hbr1).trans (HCR.out s hmem)
      have hbrw : br < wr.heap.size := by have := HW.out.size; omega
      have hcq := (HW.out.cell (p := ⟨q, 2, none⟩) hq).trans hc
      have hqw : q < wr.heap.size := by have := HW.out.size; omega
      have hixs := fun W => hixr W s hmem
      have hrs := HRG.out s
      have HLE : Hid (∀ z, z = r.getD s 0 → lessI r o s = if 0 ≤ z ∧ (o < 0 ∨ z < o) then z else o) := Lib.hid (fun z hz => by unfold lessI; rw [hz])
      obtain ⟨z, hz⟩ : ∃ z, z = r.getD s 0 := ⟨_, rfl⟩
      have HZ := Lib.hid (HLE.out z hz)
      rw [← hz] at hcr1 hrs
      clear hz hcell HLE
      by_cases h1 : -1 < z
      · by_cases h2 : o = -1
        · have HFN : Hid ((L.take (k + 1)).foldl (lessI r) (-1) = z) := Lib.hid (by rw [HT.out, HZ.out, if_pos ⟨by omega, .inl (by omega)⟩])
          have d2 : (o == -1) = true := by simpa using h2
          clear h2
          go_wp2
          go_roundg (n - (k + 1))
          case measure => omega
          case rel => exact ⟨k + 1, z, rfl, by go_num, by omega, HFN.out.symm, HW.out, rfl⟩
        · have d2 : (o == -1) = false := by simpa using h2
          by_cases h3 : z < o
          · have HFN : Hid ((L.take (k + 1)).foldl (lessI r) (-1) = z) := Lib.hid (by rw [HT.out, HZ.out, if_pos ⟨by omega, .inr h3⟩])
            go_wp2
            go_roundg (n - (k + 1))
            case measure => omega
            case rel => exact ⟨k + 1, z, rfl, by go_num, by omega, HFN.out.symm, HW.out, rfl⟩
          · have HFN : Hid ((L.take (k + 1)).foldl (lessI r) (-1) = o) := Lib.hid (by rw [HT.out, HZ.out, if_neg (by omega)])
            go_wp2
            go_roundg (n - (k + 1))
            case measure => omega
            case rel => exact ⟨k + 1, o, rfl, by go_num, by omega, HFN.out.symm, HW.out, rfl⟩
      · have HFN : Hid ((L.take (k + 1)).foldl (lessI r) (-1) = o) := Lib.hid (by rw [HT.out, HZ.out, if_neg (by omega)])
        go_wp2
        go_roundg (n - (k + 1))
        case measure => omega
        case rel => exact ⟨k + 1, o, rfl, by go_num, by omega, HFN.out.symm, HW.out, rfl⟩
    · have hke : k = n := by omega
      subst hke
      go_wp2
      go_ret
      refine ⟨ret_i ?_, ex_ext HW.out⟩
      rw [HO.out, HN.out, List.take_length]; rfl
set_option maxRecDepth 100000 in
theorem leastR {w : World} {ve vr : Value} {F : Int} {r : List Int} (hr : IntsAt w vr r) {v : Value} {L : List Nat} (hl : IntsAt w v (nz L)) (hs : ∀ s ∈ L, s < r.length) (hrg : ∀ s, -1 ≤ r.getD s 0 ∧ r.getD s 0 < 32) :
    Calls Try.prog 31 #[.agg #[ve, .int .i64 F, vr], v] w fun e w' => e = .returned (.int .i64 (leastI r L)) ∧ ∃ x, w' = ext w x := by
  obtain ⟨orr, cr, br, fr, rfl, hdr, hcr⟩ := hr.open
  obtain ⟨oa, cap, b, off, rfl, hd, hcl⟩ := hl.open
  rw [nz_length] at hd hcl ⊢
  have hixr := index_int hdr
  have hix := index_int hd
  have hbr := hdr.hblk
  have hb := hd.hblk
  have hm := hd.len
  have HCR := Lib.hid hcr
  have HC := Lib.hid hcl
  have HS := Lib.hid hs
  have HRG := Lib.hid hrg
  have HLT := Lib.hid (fun k (h : k < L.length) => less_take r L k h)
  have HLR := Lib.hid (fun k => least_range hrg (L.take k) (-1) (by omega) (by omega))
  obtain ⟨n, hn⟩ : ∃ n, n = L.length := ⟨_, rfl⟩
  have HN := Lib.hid hn
  rw [← hn] at hix hb hm HC HLT ⊢
  obtain ⟨lr, hlr⟩ : ∃ lr, lr = r.length := ⟨_, rfl⟩
  have HS2 : Hid (∀ s ∈ L, s < lr) := Lib.hid (by rw [hlr]; exact hs)
  rw [← hlr] at hixr hbr HCR ⊢
  clear hdr hcr hd hcl hr hl hs hrg hn hlr HS
  have HA := Lib.hid (below_alloc w (.cells #[ve, .int .i64 F, .slice orr lr cr] 25))
  have hsz : (w.alloc (.cells #[ve, .int .i64 F, .slice orr lr cr] 25)).heap.size = w.heap.size + 1 := by simp
  have HB2 : Hid ((w.alloc (.cells #[ve, .int .i64 F, .slice orr lr cr] 25)).cell? ⟨w.heap.size, 2, none⟩ = some (.slice orr lr cr)) := Lib.hid (by rw [World.cell?_alloc_new]; rfl)
  go_enter Try.func31, Try.ntmps31
  go_wp2
  generalize w.alloc (.cells #[ve, .int .i64 F, .slice orr lr cr] 25) = w1 at *
  have hszw : w.heap.size < w1.heap.size := by omega
  clear hsz
  go_loopg [5, 6] n (fun gk ov iv wr => ∃ (k : Nat) (o : Int), ov = .int .i64 o ∧ iv = .int .i64 k ∧ k ≤ n ∧ o = (L.take k).foldl (lessI r) (-1) ∧ Below w1.heap.size w1 wr ∧ gk = n - k)
  case atStart => exact ⟨0, -1, rfl, rfl, Nat.zero_le _, rfl, Below.refl _ _, rfl⟩
  case round =>
    obtain ⟨k, o, rfl, rfl, hk, ho, hbl, rfl⟩ := hrel
    have HO := Lib.hid ho
    have HW := Lib.hid hbl
    have HWW := Lib.hid (HA.out.trans (hbl.mono HA.out.size))
    have hor := HLR.out k
    rw [← ho] at hor
    clear ho hbl
    by_cases hlt : k < n
    · have hb1 := hb (by omega)
      have hcell := HC.out k hlt
      rw [nz_getD _ _ (by rw [← HN.out]; exact hlt)] at hcell
      have hmem := HS2.out _ (getD_mem L k 0 (by rw [← HN.out]; exact hlt))
      have HT := Lib.hid (HLT.out k hlt)
      rw [← HO.out] at HT
      have hixk := fun W => hix W k hlt
      generalize L.getD k 0 = s at *
      have hcw := (HWW.out.cell (p := ⟨b, off + k, none⟩) hb1).trans hcell
      have hbw : b < wr.heap.size := by have := HWW.out.size; omega
      have hbr1 := hbr (by omega)
      have hcr1 := (HWW.out.cell (p := ⟨br, fr + s, none⟩) hbr1).trans (HCR.out s hmem)
      have hbrw : br < wr.heap.size := by have := HWW.out.size; omega
      have hcq := (HW.out.cell (p := ⟨w.heap.size, 2, none⟩) hszw).trans HB2.out
      have hqw : w.heap.size < wr.heap.size := by have := HW.out.size; omega
      have hixs := fun W => hixr W s hmem
      have hrs := HRG.out s
      have HLE : Hid (∀ z, z = r.getD s 0 → lessI r o s = if 0 ≤ z ∧ (o < 0 ∨ z < o) then z else o) := Lib.hid (fun z hz => by unfold lessI; rw [hz])
      obtain ⟨z, hz⟩ : ∃ z, z = r.getD s 0 := ⟨_, rfl⟩
      have HZ := Lib.hid (HLE.out z hz)
      rw [← hz] at hcr1 hrs
      clear hz hcell HLE
      go_wp2
      go_quiet (fail)
      by_cases h1 : 0 ≤ z
      · by_cases h2 : o < 0
        · have HFN : Hid ((L.take (k + 1)).foldl (lessI r) (-1) = z) := Lib.hid (by rw [HT.out, HZ.out, if_pos ⟨by omega, .inl (by omega)⟩])
          have d1 : decide (0 ≤ z) = true := by simpa using h1
          have d2 : decide (o < 0) = true := by simpa using h2
          go_wp2
          go_roundg (n - (k + 1))
          case measure => omega
          case rel => exact ⟨k + 1, z, rfl, by go_num, by omega, HFN.out.symm, b_drewN HW.out _, rfl⟩
        · have d1 : decide (0 ≤ z) = true := by simpa using h1
          have d2 : decide (o < 0) = false := by simp; omega
          by_cases h3 : z < o
          · have HFN : Hid ((L.take (k + 1)).foldl (lessI r) (-1) = z) := Lib.hid (by rw [HT.out, HZ.out, if_pos ⟨by omega, .inr h3⟩])
            go_wp2
            go_roundg (n - (k + 1))
            case measure => omega
            case rel => exact ⟨k + 1, z, rfl, by go_num, by omega, HFN.out.symm, b_drewN HW.out _, rfl⟩
          · have HFN : Hid ((L.take (k + 1)).foldl (lessI r) (-1) = o) := Lib.hid (by rw [HT.out, HZ.out, if_neg (by omega)])
            go_wp2
            go_roundg (n - (k + 1))
            case measure => omega
            case rel => exact ⟨k + 1, o, rfl, by go_num, by omega, HFN.out.symm, b_drewN HW.out _, rfl⟩
      · have HFN : Hid ((L.take (k + 1)).foldl (lessI r) (-1) = o) := Lib.hid (by rw [HT.out, HZ.out, if_neg (by omega)])
        have d1 : decide (0 ≤ z) = false := by simp; omega
        go_wp2
        go_roundg (n - (k + 1))
        case measure => omega
        case rel => exact ⟨k + 1, o, rfl, by go_num, by omega, HFN.out.symm, b_drewN HW.out _, rfl⟩
    · have hke : k = n := by omega
      subst hke
      go_wp2
      go_ret
      refine ⟨ret_i ?_, ex_ext HWW.out⟩
      rw [HO.out, HN.out, List.take_length]; rfl
def placeI (R : List (List Nat)) (L : List Nat) : Int := if L ∈ R then (idx R L : Nat) else -1
set_option maxRecDepth 100000 in
theorem placeR {w : World} {v u : Value} {R : List (List Nat)} {L : List Nat} (hv : RowsG w v (cellsL R)) (hu : IntsAt w u (nz L)) :
    Calls Try.prog 30 #[v, u] w fun e w' => e = .returned (.int .i64 (placeI R L)) ∧ ∃ x, w' = ext w x := by
  obtain ⟨oa, cap, b, off, rfl, hd, hc⟩ := hv.open
  rw [cellsL_len] at hd hc ⊢
  have hix := fun (W : World) (i : Nat) (hi : i < R.length) => index_any (P := Try.prog) 31 23 Try.underlying31 (by kernel_rfl) hd W .i64 i (by omega) (by omega)
  simp only [Int.toNat_natCast] at hix
  have hb := hd.hblk
  have hm := hd.len
  have HC : Hid (∀ i, i < R.length → ∃ u, w.cell? ⟨b, off + i, none⟩ = some u ∧ IntsAt w u (nz (R.getD i []))) := Lib.hid (fun i hi => by
    obtain ⟨oi, ci, bi, fi, h1, -, -, h4⟩ := hc i hi
    rw [cellsL_get hi] at h1 h4
    exact ⟨_, h1, h4⟩)
  have HU := Lib.hid hu
  have HFD : Hid (∀ k, k < R.length → (∀ q, q < k → R.getD q [] ≠ L) → R.getD k [] = L → placeI R L = (k : Int)) := Lib.hid (fun k hk h1 h2 => by
    have hmem : L ∈ R := h2 ▸ getD_mem R k [] hk
    unfold placeI
    rw [if_pos hmem]
    have h3 := idxOf_lt hmem
    have h4 := getElem_idx hmem
    have h5 : R.getD (idx R L) [] = L := by rw [List.getD_eq_getElem?_getD, List.getElem?_eq_getElem h3, Option.getD_some]; exact h4
    have h6 : idx R L ≤ k := idxOf_le _ _ _ (by rw [List.getElem?_eq_getElem hk]; rw [← h2]; simp [List.getD, hk])
    rcases Nat.lt_or_ge (idx R L) k with h7 | h7
    · exact absurd h5 (h1 _ h7)
    · rw [show idx R L = k by omega])
  have HNO : Hid ((∀ q, q < R.length → R.getD q [] ≠ L) → placeI R L = -1) := Lib.hid (fun h => by
    unfold placeI
    rw [if_neg]
    intro hm
    obtain ⟨q, hq, e⟩ := List.getElem_of_mem hm
    exact h q hq (by simp [List.getD, hq, e]))
  obtain ⟨n, hn⟩ : ∃ n, n = R.length := ⟨_, rfl⟩
  rw [← hn] at hix hb hm HC HFD HNO ⊢
  generalize placeI R L = z at *
  clear hd hc hv hu hn
  go_enter Try.func30, Try.ntmps30
  go_wp2
  go_loopg [5] n (fun gk iv wr => ∃ k : Nat, iv = .int .i64 k ∧ k ≤ n ∧ (∀ q, q < k → R.getD q [] ≠ L) ∧ Below w.heap.size w wr ∧ gk = n - k)
  case atStart => exact ⟨0, rfl, Nat.zero_le _, fun q hq => absurd hq (Nat.not_lt_zero q), Below.refl _ _, rfl⟩
  case round =>
    obtain ⟨k, rfl, hk, hall, hbl, rfl⟩ := hrel
    have HALL := Lib.hid hall
    have HW := Lib.hid hbl
    clear hall hbl
    by_cases hlt : k < n
    · obtain ⟨y, hcy, hy⟩ := HC.out k hlt
      have hb1 := hb (by omega)
      have hcw := (HW.out.cell (p := ⟨b, off + k, none⟩) hb1).trans hcy
      have hbw : b < wr.heap.size := by have := HW.out.size; omega
      have hixk := fun W => hix W k hlt
      have HIN := Lib.hid (intsR (hy.up HW.out) (HU.out.up HW.out))
      by_cases he : R.getD k [] = L
      · have HZ := Lib.hid (HFD.out k hlt HALL.out he)
        rw [decide_eq_true (by rw [he])] at HIN
        clear he hcy hy
        go_wp2_with ((with_reducible go_at_call 47); refine HIN.out.mono ?_; rintro en w2 ⟨rfl, x2, rfl⟩)
        go_ret
        exact ⟨ret_i HZ.out.symm, ex_ext (b_ext' HW.out x2)⟩
      · rw [decide_eq_false (fun e => he (nz_inj e))] at HIN
        have HE := Lib.hid he
        clear he hcy hy
        go_wp2_with ((with_reducible go_at_call 47); refine HIN.out.mono ?_; rintro en w2 ⟨rfl, x2, rfl⟩)
        go_roundg (n - (k + 1))
        case measure => omega
        case rel =>
          refine ⟨k + 1, by go_num, by omega, fun q hq => ?_, b_ext' HW.out x2, rfl⟩
          by_cases hqk : q = k
          · rw [hqk]; exact HE.out
          · exact HALL.out q (by omega)
    · have hke : k = n := by omega
      subst hke
      have HZ := Lib.hid (HNO.out HALL.out)
      go_wp2
      go_ret
      exact ⟨ret_i HZ.out.symm, ex_ext HW.out⟩
end Go.Cm

/- The walk of the document's alike. Conditions: the edges' sets are words. -/
namespace Go.Cm
open Go.RowKit Go.Proofs

theorem sig_all {e : List (List Ed)} {a b : Nat} : sigB (flatE e) a = sigB (flatE e) b ↔ ∀ i, i < e.length → ∀ j, j < (e.getD i []).length → ((e.getD i []).getD j zE).free = true ∨ hasN ((e.getD i []).getD j zE) a = hasN ((e.getD i []).getD j zE) b := by
  rw [sigB_eq]
  constructor
  · intro h i hi j hj
    cases hf : ((e.getD i []).getD j zE).free with
    | true => exact .inl rfl
    | false => exact .inr (h _ (flat_mem (a := i) (getD_mem _ _ _ hj) hf))
  · intro h x hx
    unfold flatE at hx
    obtain ⟨h1, h2⟩ := List.mem_filter.1 hx
    obtain ⟨row, hr, hxr⟩ := List.mem_flatten.1 h1
    obtain ⟨i, hi, rfl⟩ := List.getElem_of_mem hr
    obtain ⟨j, hj, rfl⟩ := List.getElem_of_mem hxr
    have e1 : e.getD i [] = e[i] := by simp [List.getD, hi]
    have := h i hi j (by rw [e1]; exact hj)
    rw [e1, show e[i].getD j zE = e[i][j] by simp [List.getD, hj]] at this
    rcases this with h3 | h3
    · rw [h3] at h2; cases h2
    · exact h3
set_option maxRecDepth 100000 in
set_option maxHeartbeats 8000000 in
theorem alikeR {w : World} {A : Array Value} {e : List (List Ed)} {F : Int} {r : List Int} (h : NfaV w A e F r) (hsw : ∀ a x, x ∈ Row e a → SetW x) (a b : Nat) (ha : a < 256) (hb : b < 256) :
    Calls Try.prog 23 #[.agg A, .int .u8 a, .int .u8 b] w fun en w' => en = .returned (.bool (decide (sigB (flatE e) a = sigB (flatE e) b))) ∧ ∃ x, w' = ext w x := by
  have HAL := Lib.hid (sig_all (e := e) (a := a) (b := b))
  obtain ⟨ve, vr, rfl, he, -⟩ := h
  obtain ⟨oe, ce, be, fe, rfl, hde, hce⟩ := he.open
  have hixe := index_row hde
  have hme := hde.len
  have hbe := hde.hblk
  have HCE := Lib.hid hce
  obtain ⟨R, hR⟩ : ∃ R, R = decide (sigB (flatE e) a = sigB (flatE e) b) := ⟨_, rfl⟩
  have HR := Lib.hid hR
  rw [← hR]
  obtain ⟨n, hn⟩ : ∃ n, n = e.length := ⟨_, rfl⟩
  have HN := Lib.hid hn
  rw [← hn] at hixe hme hbe HCE HAL ⊢
  clear he hde hce hn hR
  have HA := Lib.hid (below_alloc w (.cells #[.slice oe n ce, .int .i64 F, vr] 25))
  have hsz : (w.alloc (.cells #[.slice oe n ce, .int .i64 F, vr] 25)).heap.size = w.heap.size + 1 := by simp
  have HB0 : Hid ((w.alloc (.cells #[.slice oe n ce, .int .i64 F, vr] 25)).cell? ⟨w.heap.size, 0, none⟩ = some (.slice oe n ce)) := Lib.hid (by rw [World.cell?_alloc_new]; rfl)
  go_enter Try.func23, Try.ntmps23
  go_wp2
  generalize w.alloc (.cells #[.slice oe n ce, .int .i64 F, vr] 25) = w1 at *
  have hszw : w.heap.size < w1.heap.size := by omega
  clear hsz
  go_loopg [7] n (fun gk iv wr => ∃ i : Nat, iv = .int .i64 i ∧ i ≤ n ∧ (∀ q, q < i → ∀ j, j < (e.getD q []).length → ((e.getD q []).getD j zE).free = true ∨ hasN ((e.getD q []).getD j zE) a = hasN ((e.getD q []).getD j zE) b) ∧ Below w1.heap.size w1 wr ∧ gk = n - i)
  case atStart => exact ⟨0, rfl, Nat.zero_le _, fun q hq => absurd hq (Nat.not_lt_zero q), Below.refl _ _, rfl⟩
  case round =>
    obtain ⟨i, rfl, hi, hall, hbel, rfl⟩ := hrel
    have HALL := Lib.hid hall
    have HW := Lib.hid hbel
    have HWW := Lib.hid (HA.out.trans (hbel.mono HA.out.size))
    clear hall hbel
    have b0 := (HW.out.cell (p := ⟨w.heap.size, 0, none⟩) hszw).trans HB0.out
    have bl : w.heap.size < wr.heap.size := by have := HW.out.size; omega
    by_cases hlt : i < n
    · obtain ⟨oi, ci, bi, fi, hrow, hdi, hcell⟩ := HCE.out i hlt
      have hbe2 := hbe (by omega)
      have hixe2 := fun W => hixe W i hlt
      have hixi := index_edge hdi
      have hbi := hdi.hblk
      have hmi := hdi.len
      have HROW := Lib.hid hrow
      have HCI := Lib.hid hcell
      obtain ⟨row, hrw⟩ : ∃ row, row = e.getD i [] := ⟨_, rfl⟩
      have HRO := Lib.hid hrw
      rw [← hrw] at HROW hixi hbi hmi HCI
      obtain ⟨ln, hln⟩ : ∃ ln, ln = row.length := ⟨_, rfl⟩
      have HLN := Lib.hid hln
      rw [← hln] at HROW hixi hbi hmi HCI
      have HSR : Hid (∀ j, j < ln → SetW (row.getD j zE)) := Lib.hid (fun j hj => hsw i _ (by show _ ∈ e.getD i []; rw [← hrw]; exact getD_mem _ _ _ (by omega)))
      clear hrow hdi hcell hrw hln
      go_wp2
      have HWO := HW
      clear HW HWW b0 bl
      generalize wr = wo at *
      go_loopg [8] ln (fun gk jv wr => ∃ j : Nat, jv = .int .i64 j ∧ j ≤ ln ∧ (∀ q, q < j → (row.getD q zE).free = true ∨ hasN (row.getD q zE) a = hasN (row.getD q zE) b) ∧ Below w1.heap.size w1 wr ∧ gk = ln - j)
      case atStart => exact ⟨0, rfl, Nat.zero_le _, fun q hq => absurd hq (Nat.not_lt_zero q), HWO.out, rfl⟩
      case round =>
        obtain ⟨j, rfl, hj, hin, hbel, rfl⟩ := hrel
        have HIN := Lib.hid hin
        have HW := Lib.hid hbel
        have HWW := Lib.hid (HA.out.trans (hbel.mono HA.out.size))
        clear hin hbel
        have b0 := (HW.out.cell (p := ⟨w.heap.size, 0, none⟩) hszw).trans HB0.out
        have bl : w.heap.size < wr.heap.size := by have := HW.out.size; omega
        have hrow2 := (HWW.out.cell (p := ⟨be, fe + i, none⟩) hbe2).trans HROW.out
        have hber : be < wr.heap.size := by omega
        by_cases hltj : j < ln
        · obtain ⟨ed, hed⟩ : ∃ ed, ed = row.getD j zE := ⟨_, rfl⟩
          have HEE := Lib.hid hed
          have hbi2 := hbi (by omega)
          have HCD : Hid (∀ c, c < 6 → wr.cell? ⟨bi, fi + j * 6 + c, none⟩ = some ((edA ed).getD c undef)) := Lib.hid (by
            intro c hcl
            rw [(HWW.out.cell (p := ⟨bi, fi + j * 6 + c, none⟩) hbi2), HCI.out j hltj c hcl, edC_get, hed])
          have HSW := Lib.hid (HSR.out j hltj)
          rw [← hed] at HSW
          have hixj := fun W => hixi W j hltj
          obtain ⟨tq, fr', a1, b1, c1, d1⟩ := ed
          unfold edA at HCD
          simp only at HCD
          clear hed
          have HHA := Lib.hid (fun (x : World) => hasR (w := x) ⟨tq, fr', a1, b1, c1, d1⟩ HSW.out a ha)
          have HHB := Lib.hid (fun (x : World) => hasR (w := x) ⟨tq, fr', a1, b1, c1, d1⟩ HSW.out b hb)
          have HEQ : Hid (∀ za zb : Bool, za = hasN ⟨tq, fr', a1, b1, c1, d1⟩ a → zb = hasN ⟨tq, fr', a1, b1, c1, d1⟩ b → ((fr' = true ∨ za = zb) → ∀ q, q < j + 1 → (row.getD q zE).free = true ∨ hasN (row.getD q zE) a = hasN (row.getD q zE) b) ∧ (fr' = false → za ≠ zb → R = false)) := Lib.hid (fun za zb hza hzb => ⟨fun hok q hq => by
            by_cases hqj : q = j
            · rw [hqj, ← HEE.out, ← hza, ← hzb]; exact hok
            · exact HIN.out q (by omega), fun hf hne => by
            rw [HR.out, decide_eq_false_iff_not, HAL.out]
            intro hh
            have := hh i hlt j (by rw [← HRO.out, ← HLN.out]; exact hltj)
            rw [← HRO.out, ← HEE.out, ← hza, ← hzb] at this
            rcases this with h1 | h1
            · rw [hf] at h1; cases h1
            · exact hne h1⟩)
          have HA6 := Lib.hid (below_alloc wr (.cells #[.int .i64 tq, .bool fr', .int .u64 a1, .int .u64 b1, .int .u64 c1, .int .u64 d1] 92))
          have QC : Hid (∀ w', Below (wr.alloc (.cells #[.int .i64 tq, .bool fr', .int .u64 a1, .int .u64 b1, .int .u64 c1, .int .u64 d1] 92)).heap.size (wr.alloc (.cells #[.int .i64 tq, .bool fr', .int .u64 a1, .int .u64 b1, .int .u64 c1, .int .u64 d1] 92)) w' → ∀ k v, (#[.int .i64 tq, .bool fr', .int .u64 a1, .int .u64 b1, .int .u64 c1, .int .u64 d1] : Array Value)[k]? = some v → w'.cell? ⟨wr.heap.size, k, none⟩ = some v) := Lib.hid (fun w' hw k v hv => (hw.cell (p := ⟨wr.heap.size, k, none⟩) (by simp)).trans ((World.cell?_alloc_new wr _ _ k).trans hv))
          have qs : wr.heap.size < (wr.alloc (.cells #[.int .i64 tq, .bool fr', .int .u64 a1, .int .u64 b1, .int .u64 c1, .int .u64 d1] 92)).heap.size := by simp
          go_wp2_with (refine wpList_load_cells rfl 92 _ rfl bi (fi + j * 6) 6 rfl _ _ HCD.out rfl Try.underlying92 rfl (by kernel_rfl) ?_)
          have HZ := Lib.hid (HW.out.trans (HA6.out.mono HW.out.size))
          clear HCD HA6
          generalize hwy : wr.alloc (.cells #[.int .i64 tq, .bool fr', .int .u64 a1, .int .u64 b1, .int .u64 c1, .int .u64 d1] 92) = wy at *
          generalize wr.heap.size = pz at *
          have q1 := QC.out wy (Below.refl _ _) 1 (.bool fr') rfl
          have HQS : Hid (∀ w', (∃ y, w' = ext wy y) → ∀ c, c < 4 → w'.cell? ⟨pz, 2 + c, none⟩ = some ((#[.int .u64 a1, .int .u64 b1, .int .u64 c1, .int .u64 d1] : Array Value).getD c undef)) := Lib.hid (by
            rintro w' ⟨y, rfl⟩ c hc
            have := QC.out _ (ext_below wy y)
            rcases (show c = 0 ∨ c = 1 ∨ c = 2 ∨ c = 3 by omega) with rfl | rfl | rfl | rfl
            · exact this 2 _ rfl
            · exact this 3 _ rfl
            · exact this 4 _ rfl
            · exact this 5 _ rfl)
          refine wp_region_phg [([0,1,2,3,4,5,6,8,9,10],[7,11]), ([12,13],[])] (by kernel_rfl) (by kernel_rfl) ?_
          (unfold wpPhases; simp only [pick, List.map_cons, List.map_nil, List.getD_cons_zero, List.getD_cons_succ])
          cases fr' with
          | true =>
            repeat (first | (go_big_quiet_want; refine quiet_load_cells 55 4 _ rfl pz 2 rfl #[.int .u64 a1, .int .u64 b1, .int .u64 c1, .int .u64 d1] rfl HQS.out _ Try.underlying55 rfl (by kernel_rfl) ?_; go_simp; go_big_quiet_on) | go_big_quiet_step (fail))
            refine wpQuiet_nil ?_
            unfold wpAct
            go_wp2
            refine ⟨ex_ext (drew_b wy), ?_⟩
            unfold wpAct
            go_wp2
            refine ⟨ex_ext (drew_b wy), ?_⟩
            unfold wpAct
            (unfold wpPhases; simp only [pick, List.map_cons, List.map_nil, List.getD_cons_zero, List.getD_cons_succ])
            repeat (go_big_quiet_step (fail))
            refine wpQuiet_nil ?_
            unfold wpAct
            unfold wpPhases
            intro _ _
            go_wp2
            go_roundg (ln - (j + 1))
            case measure => omega
            case rel => exact ⟨j + 1, by go_num, by omega, (HEQ.out _ _ rfl rfl).1 (.inl (by trivial)), HZ.out.trans ((ext_below wy _).mono HZ.out.size), rfl⟩
          | false =>
            obtain ⟨za, hza⟩ : ∃ za, za = hasN ⟨tq, false, a1, b1, c1, d1⟩ a := ⟨_, rfl⟩
            obtain ⟨zb, hzb⟩ : ∃ zb, zb = hasN ⟨tq, false, a1, b1, c1, d1⟩ b := ⟨_, rfl⟩
            have HAB := Lib.hid (HEQ.out za zb hza hzb)
            rw [← hza] at HHA
            rw [← hzb] at HHB
            clear hza hzb HEQ
            by_cases hab : za = zb
            · have HOK := Lib.hid (HAB.out.1 (.inr hab))
              subst hab
              clear HAB
              cases za
              all_goals
                repeat (first | (go_big_quiet_want; refine quiet_load_cells 55 4 _ rfl pz 2 rfl #[.int .u64 a1, .int .u64 b1, .int .u64 c1, .int .u64 d1] rfl HQS.out _ Try.underlying55 rfl (by kernel_rfl) ?_; go_simp; go_big_quiet_on) | go_big_quiet_step (fail))
                refine wpQuiet_nil ?_
                unfold wpAct
                go_wp2_with ((with_reducible go_at_call 41); refine (HHA.out _).mono ?_; rintro en w7 ⟨rfl, x7, rfl⟩)
                have HB7 := Lib.hid (b_ext' (drew_b wy) x7)
                refine ⟨ex_ext HB7.out, ?_⟩
                generalize ext wy.drew x7 = w7 at *
                unfold wpAct
                go_wp2_with ((with_reducible go_at_call 41); refine (HHB.out _).mono ?_; rintro en w8 ⟨rfl, x8, rfl⟩)
                have HB8 := Lib.hid (b_ext' HB7.out x8)
                refine ⟨ex_ext HB8.out, ?_⟩
                generalize ext w7 x8 = w8 at *
                unfold wpAct
                (unfold wpPhases; simp only [pick, List.map_cons, List.map_nil, List.getD_cons_zero, List.getD_cons_succ])
                repeat (go_big_quiet_step (fail))
                refine wpQuiet_nil ?_
                unfold wpAct
                unfold wpPhases
                intro hz; clear hz
                go_wp2
                go_roundg (ln - (j + 1))
                case measure => omega
                case rel => exact ⟨j + 1, by go_num, by omega, HOK.out, HZ.out.trans (HB8.out.mono HZ.out.size), rfl⟩
            · have HRF := Lib.hid (HAB.out.2 rfl hab)
              clear HAB
              cases za <;> cases zb
              case false.false => exact absurd rfl hab
              case true.true => exact absurd rfl hab
              all_goals
                repeat (first | (go_big_quiet_want; refine quiet_load_cells 55 4 _ rfl pz 2 rfl #[.int .u64 a1, .int .u64 b1, .int .u64 c1, .int .u64 d1] rfl HQS.out _ Try.underlying55 rfl (by kernel_rfl) ?_; go_simp; go_big_quiet_on) | go_big_quiet_step (fail))
                refine wpQuiet_nil ?_
                unfold wpAct
                go_wp2_with ((with_reducible go_at_call 41); refine (HHA.out _).mono ?_; rintro en w7 ⟨rfl, x7, rfl⟩)
                have HB7 := Lib.hid (b_ext' (drew_b wy) x7)
                refine ⟨ex_ext HB7.out, ?_⟩
                generalize ext wy.drew x7 = w7 at *
                unfold wpAct
                go_wp2_with ((with_reducible go_at_call 41); refine (HHB.out _).mono ?_; rintro en w8 ⟨rfl, x8, rfl⟩)
                have HB8 := Lib.hid (b_ext' HB7.out x8)
                refine ⟨ex_ext HB8.out, ?_⟩
                generalize ext w7 x8 = w8 at *
                unfold wpAct
                (unfold wpPhases; simp only [pick, List.map_cons, List.map_nil, List.getD_cons_zero, List.getD_cons_succ])
                repeat (go_big_quiet_step (fail))
                refine wpQuiet_nil ?_
                unfold wpAct
                unfold wpPhases
                intro hz; clear hz
                go_wp2
                go_ret
                refine ⟨?_, ex_ext (HA.out.trans ((HZ.out.trans (HB8.out.mono HZ.out.size)).mono HA.out.size))⟩
                rw [HRF.out]; rfl
        · have hje : j = ln := by omega
          subst hje
          go_wp2
          go_roundg (n - (i + 1))
          case measure => omega
          case rel =>
            refine ⟨i + 1, by go_num, by omega, fun q hq j hj => ?_, HW.out, rfl⟩
            by_cases hqi : q = i
            · rw [hqi, ← HRO.out] at hj ⊢
              exact HIN.out j (by rw [HLN.out]; exact hj)
            · exact HALL.out q (by omega) j hj
    · go_wp2
      go_ret
      refine ⟨?_, ex_ext HWW.out⟩
      rw [HR.out, decide_eq_true (HAL.out.2 (fun i hi j hj => HALL.out i (by omega) j hj))]; rfl
end Go.Cm

/- The walk of the document's Classes. Conditions: the edges' sets are words. -/
namespace Go.Cm
open Go.RowKit Go.Proofs

def zCls : Array Value := (ints (List.replicate 256 0)).toArray
theorem zero_cls (W : World) : (zeroValue 28).run Try.prog W = .ok (.agg zCls) W := by kernel_rfl
theorem zCls_list : zCls.toList = ints (List.replicate 256 0) := rfl
set_option maxRecDepth 100000 in
theorem boxZ (w : World) (A : Array Value) (hA : A = zCls) : BoxA (w.alloc (.cells A 28)) 28 256 w.heap.size (List.replicate 256 0) := by
  subst hA
  exact boxA_new w 28 zCls (List.replicate 256 0) zCls_list (by rw [List.length_replicate]; decide)
theorem store_box {P : Program} {ops : Array Oper} {rest : List Oper} {o : Oper} {a : Act} {w : World} {Q : Exit → Act → World → Prop} (hgd : o.guard = none) (T n : Nat) (x y : Operand) (ho : o.op = .store T x y)
    (g : Nat) (hx : a.eval x = .pointer (some ⟨g, 0, none⟩)) (cl c2 : List Int) (hy : a.eval y = .agg (ints c2).toArray) (h2 : c2.length = n) (hi : (P.info? T).map (·.size) = some n) (hown : BoxA w T n g cl)
    (h : ∀ w', BoxA w' T n g c2 → w.grownBy w' (some g) → wpList P ops Q rest (a.put o.dst undef) w') : wpList P ops Q (o :: rest) a w := by
  have hs : (ints c2).toArray.size = n := by simp [h2]
  have hl : (ints cl).length = n := by rw [ints_length, hown.len]
  refine wpList_store_agg hgd T x y ho g T g n n hx (ints c2).toArray hy (by rw [hs]; exact hi) (ints cl) hown.own (by omega) (fun u hu => ?_) fun w' hw hg => h w' ⟨?_, h2⟩ hg
  · simp only [ints, List.mem_map] at hu
    obtain ⟨z, -, rfl⟩ := hu; rfl
  · rw [List.drop_of_length_le (by omega), List.append_nil] at hw
    exact hw
noncomputable def clsO (e : List (List Ed)) (F : Int) (r : List Int) : List Int := if rightN e F r then clsL e else List.replicate 256 0
noncomputable def cntO (e : List (List Ed)) (F : Int) (r : List Int) : Nat := if rightN e F r then (headN e).length else 0
theorem clsO_len (e : List (List Ed)) (F : Int) (r : List Int) : (clsO e F r).length = 256 := by
  unfold clsO; split
  · exact clsL_len e
  · exact List.length_replicate
def RetCls (e : List (List Ed)) (F : Int) (r : List Int) (w : World) (en : Ending) (w' : World) : Prop :=
  en = .returned (.tuple #[.agg (ints (clsO e F r)).toArray, .int .i64 (cntO e F r)]) ∧ Below w.heap.size w w'
set_option maxRecDepth 100000 in
theorem cls_all {e : List (List Ed)} {cl : List Int} (hl : cl.length = 256) (h : ∀ i, i < 256 → cl.getD i 0 = (clsN e i : Nat)) : cl = clsL e := by
  refine List.ext_getElem (by rw [hl, clsL_len]) fun i h1 h2 => ?_
  have h3 := h i (by omega)
  have h4 := clsL_get e (c := i) (by omega)
  rw [← h4] at h3
  simpa [List.getD, h1, h2] using h3
theorem head_take {e : List (List Ed)} {c : Nat} (hc : c < 256) {F : List Nat} (hF : pickBy (sigB (flatE e)) (byts.take c) = F) :
    (∀ q, q < F.length → (∀ a, a < q → sigB (flatE e) (F.getD a 0) ≠ sigB (flatE e) c) → sigB (flatE e) (F.getD q 0) = sigB (flatE e) c → pickBy (sigB (flatE e)) (byts.take (c + 1)) = F ∧ clsN e c = q) ∧
    ((∀ a, a < F.length → sigB (flatE e) (F.getD a 0) ≠ sigB (flatE e) c) → pickBy (sigB (flatE e)) (byts.take (c + 1)) = F ++ [c] ∧ clsN e c = F.length) ∧ (∀ x ∈ F, x < 256) ∧ F.length ≤ 256 := by
  have hcl : c < byts.length := by rw [byts_len]; exact hc
  unfold clsN clsAt
  refine ⟨fun q hq h1 h2 => place_found (f := sigB (flatE e)) (l := byts) (z := 0) hcl (byts_get hc) hF hq h1 h2, fun h1 => place_new (f := sigB (flatE e)) (l := byts) (z := 0) hcl (byts_get hc) hF h1, fun x hx => ?_, ?_⟩
  · rw [← hF] at hx
    exact mem_byts.1 (List.mem_of_mem_take (mem_pickBy hx))
  · rw [← hF]
    have := pickBy_len (sigB (flatE e)) (byts.take c)
    rw [List.length_take, byts_len] at this
    omega
theorem own_off {w : World} {B E k : Nat} {v : Value} {xs : List Value} (h : Own w B E v xs) (hk : k < B) : v.ownBlock = none ∨ v.ownBlock ≠ some k := by
  cases hu : v.ownBlock with
  | none => exact .inl rfl
  | some q => exact .inr (fun e => by have := h.lt q hu; injection e with e; omega)
theorem own_ne {w : World} {B E k : Nat} {v : Value} {xs : List Value} (h : Own w B E v xs) (hk : k < B) : v.ownBlock ≠ some k := fun e => by have := h.lt k e; omega
theorem cl_set {e : List (List Ed)} {cl : List Int} {c k : Nat} (hl : cl.length = 256) (hc : c < 256) (h : ∀ i, i < c → cl.getD i 0 = (clsN e i : Nat)) (hk : clsN e c = k) : ∀ i, i < c + 1 → (cl.set c (k : Int)).getD i 0 = (clsN e i : Nat) := fun i hi => by
  by_cases hic : i = c
  · subst hic
    rw [getD_set_self' (by omega), hk]
  · rw [getD_set_ne' (fun q => hic q.symm)]
    exact h i (by omega)
set_option maxRecDepth 100000 in
set_option maxHeartbeats 8000000 in
theorem classesR {w : World} {A : Array Value} {e : List (List Ed)} {F : Int} {r : List Int} (h : NfaV w A e F r) (hsw : ∀ a x, x ∈ Row e a → SetW x) :
    Calls Try.prog 9 #[.agg A] w (RetCls e F r w) := by
  have HH := Lib.hid h
  obtain ⟨ve, vr, rfl, he, hr⟩ := h
  obtain ⟨oe, ce, be, fe, rfl, -, -⟩ := he.open
  obtain ⟨orr, cr, br, fr, rfl, -, -⟩ := hr.open
  obtain ⟨n, hn⟩ : ∃ n, n = e.length := ⟨_, rfl⟩
  obtain ⟨m, hm⟩ : ∃ m, m = r.length := ⟨_, rfl⟩
  rw [← hn, ← hm] at HH ⊢
  have hz := zero_cls
  obtain ⟨Z, hZ⟩ : ∃ Z, Z = zCls := ⟨_, rfl⟩
  rw [← hZ] at hz
  obtain ⟨O, hO⟩ : ∃ O : List Int, O = List.replicate 256 0 := ⟨_, rfl⟩
  have HOL : Hid (O.length = 256) := Lib.hid (by rw [hO, List.length_replicate])
  have hsA : (w.alloc (.cells #[.slice oe n ce, .int .i64 F, .slice orr m cr] 25)).heap.size = w.heap.size + 1 := by simp
  have hbx : Own (w.alloc (.cells #[.slice oe n ce, .int .i64 F, .slice orr m cr] 25)) 0 25 (.slice (some ⟨w.heap.size, 0, none⟩) 3 3) [.slice oe n ce, .int .i64 F, .slice orr m cr] := by simpa using own_lit w 0 #[.slice oe n ce, .int .i64 F, .slice orr m cr] 25 (by simp) (Nat.zero_le _)
  have hb1 := boxZ (w.alloc (.cells #[.slice oe n ce, .int .i64 F, .slice orr m cr] 25)) Z hZ
  have hb2 := boxZ ((w.alloc (.cells #[.slice oe n ce, .int .i64 F, .slice orr m cr] 25)).alloc (.cells Z 28)) Z hZ
  rw [hsA] at hb1
  rw [show ((w.alloc (.cells #[.slice oe n ce, .int .i64 F, .slice orr m cr] 25)).alloc (.cells Z 28)).heap.size = w.heap.size + 2 by simp] at hb2
  rw [← hO] at hb1 hb2
  have HB2 := Lib.hid hb2
  have HB1 := Lib.hid (hb1.up (below_alloc _ (.cells Z 28)))
  have HBX := Lib.hid ((hbx.up (below_alloc _ (.cells Z 28))).up (below_alloc _ (.cells Z 28)))
  have HA : Hid (Below w.heap.size w (((w.alloc (.cells #[.slice oe n ce, .int .i64 F, .slice orr m cr] 25)).alloc (.cells Z 28)).alloc (.cells Z 28))) := Lib.hid (by repeat (first | exact Below.refl _ _ | assumption | refine b_drewN ?_ _ | refine Below.drew ?_ | refine b_ext' ?_ _ | refine b_alloc' ?_ _))
  have hs3 : (((w.alloc (.cells #[.slice oe n ce, .int .i64 F, .slice orr m cr] 25)).alloc (.cells Z 28)).alloc (.cells Z 28)).heap.size = w.heap.size + 3 := by simp
  have HRT := Lib.hid (rightD (HH.out.up HA.out))
  have HCO : Hid ((rightN e F r = true → clsO e F r = clsL e ∧ cntO e F r = (headN e).length) ∧ (rightN e F r = false → clsO e F r = O ∧ cntO e F r = 0)) := Lib.hid ⟨fun h => ⟨by unfold clsO; rw [if_pos h], by unfold cntO; rw [if_pos h]⟩, fun h => ⟨by unfold clsO; rw [if_neg (by rw [h]; decide), hO], by unfold cntO; rw [if_neg (by rw [h]; decide)]⟩⟩
  unfold RetCls
  obtain ⟨CO, hCO⟩ : ∃ CO, CO = clsO e F r := ⟨_, rfl⟩
  obtain ⟨KO, hKO⟩ : ∃ KO, KO = cntO e F r := ⟨_, rfl⟩
  rw [← hCO, ← hKO] at HCO ⊢
  obtain ⟨R, hR⟩ : ∃ R, R = rightN e F r := ⟨_, rfl⟩
  rw [← hR] at HRT HCO
  clear he hr hn hm hbx hb1 hb2 hsA hZ hO hCO hKO hR
  cases R with
  | false =>
    obtain ⟨hc1, hk1⟩ := HCO.out.2 rfl
    subst hc1 hk1
    go_enter Try.func9, Try.ntmps9
    go_upto_region 3 with (first
      | (refine wpList_load_cells rfl 25 _ rfl w.heap.size 0 3 rfl _ _ (nfaBox HBX.out) rfl Try.underlying25 rfl (by kernel_rfl) ?_)
      | ((with_reducible go_at_call 22); refine HRT.out.mono ?_; rintro en w1 ⟨rfl, x1, rfl⟩))
    have HE1 := Lib.hid (ext_below (((w.alloc (.cells #[.slice oe n ce, .int .i64 F, .slice orr m cr] 25)).alloc (.cells Z 28)).alloc (.cells Z 28)) x1)
    have HB21 := Lib.hid (HB2.out.up HE1.out)
    have HB11 := Lib.hid (HB1.out.up HE1.out)
    have HA1 := Lib.hid (HA.out.trans (HE1.out.mono HA.out.size))
    clear HE1 HB2 HB1 HA HBX hz
    generalize ext (((w.alloc (.cells #[.slice oe n ce, .int .i64 F, .slice orr m cr] 25)).alloc (.cells Z 28)).alloc (.cells Z 28)) x1 = w1 at *
    obtain ⟨B, hgB, hsB, hB⟩ := HB21.out.open
    have HBA := Lib.hid (congrArg List.toArray hB)
    clear hB
    go_wp2_with (first
      | (refine load_box rfl 28 256 _ rfl (w.heap.size + 2) rfl B hsB hgB _ Try.underlying28 rfl (by kernel_rfl) ?_)
      | (refine store_box rfl 28 256 _ _ rfl (w.heap.size + 1) rfl CO CO (congrArg Value.agg HBA.out) HOL.out (by kernel_rfl) HB11.out ?_; intro w2 hb2 hg2; have HB4 := Lib.hid hb2; have HG2 := Lib.hid hg2; clear hb2 hg2))
    refine ret_cell_tmp (s := 2) (b := 3) (ad := ⟨w.heap.size + 1, 0, none⟩) (x := .agg (ints CO).toArray) (y := .int .i64 0) rfl rfl rfl rfl (HB4.out.load _ Try.underlying28 rfl (by kernel_rfl)) ?_
    exact ⟨rfl, HA1.out.grown HG2.out HA1.out.size (fun k hk => by cases hk; omega)⟩
  | true =>
    have HC1 := Lib.hid (HCO.out.1 rfl).1
    have HK1 := Lib.hid (HCO.out.1 rfl).2
    clear HCO
    go_enter Try.func9, Try.ntmps9
    go_upto_region 4 with (first
      | (refine wpList_load_cells rfl 25 _ rfl w.heap.size 0 3 rfl _ _ (nfaBox HBX.out) rfl Try.underlying25 rfl (by kernel_rfl) ?_)
      | ((with_reducible go_at_call 22); refine HRT.out.mono ?_; rintro en w1 ⟨rfl, x1, rfl⟩))
    have HE1 := Lib.hid (ext_below (((w.alloc (.cells #[.slice oe n ce, .int .i64 F, .slice orr m cr] 25)).alloc (.cells Z 28)).alloc (.cells Z 28)) x1)
    have HB21 := Lib.hid (HB2.out.up HE1.out)
    have HB11 := Lib.hid (HB1.out.up HE1.out)
    have HBX1 := Lib.hid (HBX.out.up HE1.out)
    have HA1 := Lib.hid (HA.out.trans (HE1.out.mono HA.out.size))
    have hs1 := HE1.out.size
    rw [hs3] at hs1
    clear HE1 HB2 HB1 HA HBX hz HRT hs3
    generalize ext (((w.alloc (.cells #[.slice oe n ce, .int .i64 F, .slice orr m cr] 25)).alloc (.cells Z 28)).alloc (.cells Z 28)) x1 = w1 at *
    have HFB : Hid (∀ x, Below (w.heap.size + 2) w1 x → Below w.heap.size w x) := Lib.hid (fun x hx => HA1.out.trans (hx.mono (by omega)))
    have HXC : Hid (∀ x, Below (w.heap.size + 2) w1 x → ∀ c, c < 3 → x.cell? ⟨w.heap.size, 0 + c, none⟩ = some ((#[.slice oe n ce, .int .i64 F, .slice orr m cr] : Array Value).getD c undef)) := Lib.hid (fun x hx c hc => (hx.cell (p := ⟨w.heap.size, 0 + c, none⟩) (by show w.heap.size < w.heap.size + 2; omega)).trans (nfaBox HBX1.out c hc))
    have HR1 : Hid (∀ x, Below (w.heap.size + 2) w1 x → BoxA x 28 256 (w.heap.size + 1) O) := Lib.hid (fun x hx => ⟨HB11.out.own.of_blk fun k hk => hx.block k (by simp [Value.ownBlock] at hk; omega), HB11.out.len⟩)
    have HAL := Lib.hid (fun (x : World) (hx : Below (w.heap.size + 2) w1 x) (a b : Nat) (ha : a < 256) (hb : b < 256) => alikeR (HH.out.up (HFB.out x hx)) hsw a b ha hb)
    clear HBX1 HB11 HA1 HH hsw
    go_wp2
    go_loopg [5, 6] 256 (fun gk fv cv wr => ∃ (c : Nat) (cl : List Int), cv = .int .i64 c ∧ c ≤ 256 ∧ Own wr (w.heap.size + 3) 3 fv (ints (nz (pickBy (sigB (flatE e)) (byts.take c)))) ∧ BoxA wr 28 256 (w.heap.size + 2) cl ∧ (∀ i, i < c → cl.getD i 0 = (clsN e i : Nat)) ∧ Below (w.heap.size + 2) w1 wr ∧ gk = 256 - c)
    case atStart => exact ⟨0, O, rfl, Nat.zero_le _, by rw [List.take_zero]; exact Own.nil _ _ _, HB21.out, fun i hi => absurd hi (Nat.not_lt_zero i), Below.refl _ _, rfl⟩
    case round =>
      obtain ⟨c, cl, rfl, hc, how, hbx, hcl, hbl, rfl⟩ := hrel
      have HBXC := Lib.hid hbx
      have HCL := Lib.hid hcl
      have HW := Lib.hid hbl
      clear hbx hcl hbl HB21
      by_cases hlt : c < 256
      · obtain ⟨Fq, hFq⟩ : ∃ Fq, Fq = pickBy (sigB (flatE e)) (byts.take c) := ⟨_, rfl⟩
        have HHT := Lib.hid (head_take hlt hFq.symm)
        rw [← hFq] at how
        have HF := Lib.hid how
        obtain ⟨of, cf, gf, rfl, hdf, hbf, hcf, -⟩ := how.cases
        have hlf : (ints (nz Fq)).length = Fq.length := by simp [nz]
        rw [hlf] at hdf hbf hcf HF ⊢
        have HCF : Hid (∀ q, q < Fq.length → wr.cell? ⟨gf, q, none⟩ = some (.int .i64 ((Fq.getD q 0 : Nat) : Int))) := Lib.hid (fun q hq => by rw [hcf q hq, ints_getD _ _ (by simpa [nz] using hq), nz_getD _ _ hq])
        have HX256 : Hid (∀ q, q < Fq.length → Fq.getD q 0 < 256) := Lib.hid (fun q hq => HHT.out.2.2.1 _ (getD_mem _ _ _ hq))
        have hFl := HHT.out.2.2.2
        have hixf := index_int hdf
        have HGB := Lib.hid hdf.hblk
        obtain ⟨lf, hlf2⟩ : ∃ lf, lf = Fq.length := ⟨_, rfl⟩
        have HLF := Lib.hid hlf2
        rw [← hlf2] at hixf HGB HCF HX256 hFl HF ⊢
        simp only [Nat.zero_add] at hixf
        clear how hdf hbf hcf hlf hFq hlf2
        have hmc : (c : Int) % 256 = c := by omega
        have hcI : (c : Int) < 256 := by omega
        have d0 : decide ((c : Int) < 256) = true := decide_eq_true hcI
        go_wp2
        try rw [d0]
        try simp only [d0]
        have HWO := HW
        have HFO := HF
        have HBO := HBXC
        clear HW HF HBXC
        generalize wr = wo at *
        go_loopg [7] lf (fun gk kv wr => ∃ k : Nat, kv = .int .i64 k ∧ k ≤ lf ∧ (∀ q, q < k → sigB (flatE e) (Fq.getD q 0) ≠ sigB (flatE e) c) ∧ Below wo.heap.size wo wr ∧ gk = lf - k)
        case atStart => exact ⟨0, rfl, Nat.zero_le _, fun q hq => absurd hq (Nat.not_lt_zero q), Below.refl _ _, rfl⟩
        case round =>
          obtain ⟨k, rfl, hk, hall, hbl, rfl⟩ := hrel
          have HALL := Lib.hid hall
          have HW := Lib.hid hbl
          have hwsz := HWO.out.size
          have hws2 : w.heap.size + 2 ≤ wo.heap.size := by omega
          have HWW := Lib.hid (HWO.out.trans (hbl.mono (by omega)))
          clear hall hbl
          by_cases hltk : k < lf
          · have hgb := HGB.out (by omega)
            have hcell := (HW.out.cell (p := ⟨gf, k, none⟩) hgb).trans (HCF.out k hltk)
            have hgw : gf < wr.heap.size := by have := HW.out.size; omega
            have hx256 := HX256.out k hltk
            have hixk := fun W => hixf W k hltk
            obtain ⟨x, hx⟩ : ∃ x, x = Fq.getD k 0 := ⟨_, rfl⟩
            have HXX := Lib.hid hx
            rw [← hx] at hcell hx256
            clear hx
            have hmx : (x : Int) % 256 = x := by omega
            have HAK := Lib.hid (HAL.out wr.drew (HWW.out.trans ((drew_b wr).mono (by have := HWW.out.size; omega))) x c hx256 hlt)
            have HBQ : Hid (∀ w', (∃ y, w' = ext wr y) → ∀ c, c < 3 → w'.cell? ⟨w.heap.size, 0 + c, none⟩ = some ((#[.slice oe n ce, .int .i64 F, .slice orr m cr] : Array Value).getD c undef)) := Lib.hid (by
              rintro w' ⟨y, rfl⟩
              exact HXC.out _ (HWW.out.trans ((ext_below wr y).mono (by have := HWW.out.size; omega))))
            have d1 : decide ((k : Int) < lf) = true := by simp; omega
            go_wp2
            refine wp_region_phg [([0,1,2,3,4,5,6,7,8,9,10,11,12],[13]), ([14,15],[])] (by kernel_rfl) (by kernel_rfl) ?_
            (unfold wpPhases; simp only [pick, List.map_cons, List.map_nil, List.getD_cons_zero, List.getD_cons_succ])
            repeat (first | (go_big_quiet_want; refine quiet_load_cells 25 3 _ rfl w.heap.size 0 rfl #[.slice oe n ce, .int .i64 F, .slice orr m cr] rfl HBQ.out _ Try.underlying25 rfl (by kernel_rfl) ?_; go_simp; go_big_quiet_on) | go_big_quiet_step (fail))
            refine wpQuiet_nil ?_
            obtain ⟨z, hz⟩ : ∃ z, z = decide (sigB (flatE e) x = sigB (flatE e) c) := ⟨_, rfl⟩
            rw [← hz] at HAK
            have HZ := Lib.hid hz
            clear hz
            unfold wpAct
            go_wp2_with ((with_reducible go_at_call 23); refine HAK.out.mono ?_; rintro en w7 ⟨rfl, x7, rfl⟩)
            have HB7 := Lib.hid (b_ext' (drew_b wr) x7)
            refine ⟨ex_ext HB7.out, ?_⟩
            generalize ext wr.drew x7 = w7 at *
            unfold wpAct
            (unfold wpPhases; simp only [pick, List.map_cons, List.map_nil, List.getD_cons_zero, List.getD_cons_succ])
            cases z with
            | true =>
              have HPL := Lib.hid (HHT.out.1 k (by rw [← HLF.out]; exact hltk) HALL.out (by rw [← HXX.out]; exact of_decide_eq_true HZ.out.symm))
              have HB8 := Lib.hid (HW.out.trans (HB7.out.mono HW.out.size))
              have HBX7 := Lib.hid (HBO.out.up HB8.out)
              have hcc : w7.cell? ⟨w.heap.size + 1 + 1, c, none⟩ = some (.int .i64 (cl.getD c 0)) := HBX7.out.cell hlt
              have hff : w7.frozen? ⟨w.heap.size + 1 + 1, c, none⟩ = false := HBX7.out.free c
              have hpw : w.heap.size + 1 + 1 < w7.heap.size := HBX7.out.lt
              have HST := Lib.hid (HBX7.out.set c k)
              have hke : ((k : Int) == (lf : Int)) = false := by simp; omega
              generalize cl.getD c 0 = y0 at *
              repeat (go_big_quiet_step (fail))
              refine wpQuiet_nil ?_
              unfold wpAct
              unfold wpPhases
              intro hz; clear hz
              go_wp2
              go_roundg (256 - (c + 1))
              case measure => omega
              case rel =>
                exact ⟨c + 1, cl.set c k, by go_num, by omega, by rw [HPL.out.1]; exact (HFO.out.up HB8.out).keep HST.out.2 (own_off HFO.out (by omega)), HST.out.1, cl_set HBO.out.len hlt HCL.out HPL.out.2, (HWO.out.trans (HB8.out.mono hws2)).grown HST.out.2 (Nat.le_of_lt hpw) (fun k hk => by cases hk; omega), rfl⟩
            | false =>
              have HNE : Hid (sigB (flatE e) x ≠ sigB (flatE e) c) := Lib.hid (fun q => by have := HZ.out; rw [decide_eq_true q] at this; cases this)
              repeat (go_big_quiet_step (fail))
              refine wpQuiet_nil ?_
              unfold wpAct
              unfold wpPhases
              intro hz; clear hz
              go_wp2
              go_roundg (lf - (k + 1))
              case measure => omega
              case rel =>
                refine ⟨k + 1, by go_num, by omega, fun q hq => ?_, HW.out.trans (HB7.out.mono HW.out.size), rfl⟩
                by_cases hqk : q = k
                · rw [hqk, ← HXX.out]; exact HNE.out
                · exact HALL.out q (by omega)
          · have hke : k = lf := by omega
            subst hke
            have HPL := Lib.hid (HHT.out.2.1 (by rw [← HLF.out]; exact HALL.out))
            have HB8 := Lib.hid (HW.out.trans ((drew_b wr).mono HW.out.size))
            have hlW := Lib.hid (below_alloc wr.drew (.cells #[.int .i64 (c : Int)] 3))
            have HSX : Hid (Sl (wr.drew.alloc (.cells #[.int .i64 (c : Int)] 3)) (.slice (some ⟨wr.drew.heap.size, 0, none⟩) 1 1) (ints (nz [c]))) := Lib.hid (by simpa [ints, nz] using sl_lit wr.drew #[.int .i64 (c : Int)] 3 (by simp))
            have HB9 := Lib.hid (HB8.out.trans (hlW.out.mono HB8.out.size))
            have HT1 := Lib.hid (HFO.out.up HB9.out)
            have HT3 : Hid ((ints (nz Fq)).length + (ints (nz [c])).length ≤ 4294967296) := Lib.hid (by have := HLF.out; simp [nz]; omega)
            have HT4 : Hid (w.heap.size + 3 ≤ (wr.drew.alloc (.cells #[.int .i64 (c : Int)] 3)).heap.size) := Lib.hid (by have h1 := HB9.out.size; have h2 := HWO.out.size; omega)
            have HBX9 := Lib.hid (HBO.out.up HB9.out)
            go_wp2
            refine wp_region_phg [([0,1,2,3,4,5,6,7,8,9,10,11,12],[13]), ([14,15],[])] (by kernel_rfl) (by kernel_rfl) ?_
            (unfold wpPhases; simp only [pick, List.map_cons, List.map_nil, List.getD_cons_zero, List.getD_cons_succ])
            repeat (go_big_quiet_step (fail))
            refine wpQuiet_nil ?_
            unfold wpAct
            go_wp2
            refine ⟨ex_ext (drew_b wr), ?_⟩
            unfold wpAct
            (unfold wpPhases; simp only [pick, List.map_cons, List.map_nil, List.getD_cons_zero, List.getD_cons_succ])
            repeat (go_big_quiet_step (fail))
            refine wpQuiet_nil ?_
            unfold wpAct
            unfold wpPhases
            first | (intro yq hyq; clear hyq) | (intro hz; clear hz)
            go_wp2_with (at_builtin; refine wpList_app rfl (.tmp 38) (.tmp 40) 23 rfl (w.heap.size + 3) 3 (.int .i64 0) 8 Try.underlying23 (by kernel_rfl) rfl (by decide) (.slice of k cf) (ints (nz Fq)) rfl HT1.out (.slice (some ⟨wr.drew.heap.size, 0, none⟩) 1 1) (ints (nz [c])) rfl HSX.out (ints_sing _) HT3.out HT4.out ?_; intro v' w5 hown1 hg1 hk1; have HO5 := Lib.hid hown1; have HG5 := Lib.hid hg1; have HBX5 := Lib.hid (HBX9.out.keep hg1 (fun q => own_ne HFO.out (by omega) q)); have hcc : w5.cell? ⟨w.heap.size + 1 + 1, c, none⟩ = some (.int .i64 (cl.getD c 0)) := HBX5.out.cell hlt; have hff : w5.frozen? ⟨w.heap.size + 1 + 1, c, none⟩ = false := HBX5.out.free c; have hpw : w.heap.size + 1 + 1 < w5.heap.size := HBX5.out.lt; clear hown1 hg1 hk1)
            have HST := Lib.hid (HBX5.out.set c k)
            go_roundg (256 - (c + 1))
            case measure => omega
            case rel =>
              refine ⟨c + 1, cl.set c k, by go_num, by omega, ?_, HST.out.1, cl_set HBO.out.len hlt HCL.out (HPL.out.2.trans HLF.out.symm), ?_, rfl⟩
              · rw [HPL.out.1, nz_append, ints_app]
                exact HO5.out.keep HST.out.2 (own_off HO5.out (by omega))
              · have h1 := (HWO.out.trans (HB9.out.mono hws2)).grown HG5.out (Nat.le_trans hws2 HB9.out.size) (fun q hq => by have := (HFO.out.lt q hq).1; omega)
                exact h1.grown HST.out.2 (Nat.le_of_lt hpw) (fun q hq => by cases hq; omega)
      · have hce : c = 256 := by omega
        subst hce
        have htk : byts.take 256 = byts := List.take_of_length_le (by rw [byts_len]; exact Nat.le_refl _)
        rw [htk] at how
        have hhd : pickBy (sigB (flatE e)) byts = headN e := rfl
        rw [hhd] at how
        have HCA := Lib.hid (cls_all HBXC.out.len HCL.out)
        obtain ⟨of, cf, gf, rfl, -⟩ := how.cases
        have hlf : (ints (nz (headN e))).length = KO := by rw [HK1.out]; simp [nz]
        rw [hlf]
        obtain ⟨B, hgB, hsB, hB⟩ := HBXC.out.open
        have HBA : Hid (B = (ints CO).toArray) := Lib.hid (by rw [HC1.out, ← HCA.out]; exact congrArg List.toArray hB)
        have HR := Lib.hid (HR1.out _ HW.out)
        have hgB2 : wr.heap[w.heap.size + 1 + 1]? = some (.cells B 28 (0, 0)) := hgB
        clear hB how htk hhd hlf
        go_wp2_with (first
          | (refine load_box rfl 28 256 _ rfl (w.heap.size + 1 + 1) rfl B hsB hgB2 _ Try.underlying28 rfl (by kernel_rfl) ?_)
          | (refine store_box rfl 28 256 _ _ rfl (w.heap.size + 1) rfl O CO (congrArg Value.agg HBA.out) (by rw [HC1.out]; exact clsL_len e) (by kernel_rfl) HR.out ?_; intro w2 hb2 hg2; have HB4 := Lib.hid hb2; have HG2 := Lib.hid hg2; clear hb2 hg2))
        refine ret_cell_tmp (s := 2) (b := 3) (ad := ⟨w.heap.size + 1, 0, none⟩) (x := .agg (ints CO).toArray) (y := .int .i64 KO) rfl rfl rfl rfl (HB4.out.load _ Try.underlying28 rfl (by kernel_rfl)) ?_
        exact ⟨rfl, (HFB.out _ HW.out).grown HG2.out (HFB.out _ HW.out).size (fun k hk => by cases hk; omega)⟩
end Go.Cm

/- A map that counts: what 'm[k]++' does to the entries of a map of a call's own. Conditions: none. -/
namespace Go.Cm
open Go.RowKit Go.Proofs Go.Maps

/-- the map's keys are ks, each counted at least once and at most n times -/
def MapC (P : Program) (K : TypeId) (w : World) (b : Nat) (ks : List Value) (n : Nat) : Prop :=
  ∃ es clock, w.heap[b]? = some (.map es clock) ∧ es.toList.map (·.key) = ks ∧ (∀ x ∈ es.toList, ∃ l, keyOf P K x.key = some l) ∧ (∀ x ∈ es.toList, ∃ c : Int, x.val = .int .i64 c ∧ 1 ≤ c ∧ c ≤ n) ∧ (es.toList.map (·.born)).Nodup ∧ (∀ x ∈ es.toList, x.born < clock) ∧ ks.Nodup
section
variable {P : Program} {K E T : TypeId} {w w' : World} {b n : Nat} {ks : List Value} {k : Value} {lk : Lit}
theorem MapC.made (P : Program) (K : TypeId) (w : World) : MapC P K (w.alloc (.map #[] 0)) w.heap.size [] 0 :=
  ⟨#[], 0, (MapKept.heap_alloc w _).1, rfl, by simp, by simp, by simp, by simp, by simp⟩
theorem MapC.lt (h : MapC P K w b ks n) : b < w.heap.size := by
  obtain ⟨es, clock, hb, -⟩ := h
  exact (Array.getElem?_eq_some_iff.1 hb).1
theorem MapC.keep (h : MapC P K w b ks n) {row : Option Nat} (hg : w.grownBy w' row) (hne : some b ≠ row) : MapC P K w' b ks n := by
  have hlt := h.lt
  obtain ⟨es, clock, hb, r⟩ := h
  exact ⟨es, clock, (hg.block b hlt hne).trans hb, r⟩
theorem MapC.up (h : MapC P K w b ks n) (hb : Below w.heap.size w w') : MapC P K w' b ks n := h.keep (row := none) (grown_below hb none) (by simp)
theorem MapC.more (h : MapC P K w b ks n) : MapC P K w b ks (n + 1) := by
  obtain ⟨es, clock, hb, h1, h2, h3, h4⟩ := h
  exact ⟨es, clock, hb, h1, h2, fun x hx => by obtain ⟨c, hc, h5, h6⟩ := h3 x hx; exact ⟨c, hc, h5, by omega⟩, h4⟩
/-- 'm[k]++' -/
structure IncC (P : Program) (K T : TypeId) (w : World) (b : Nat) (ks : List Value) (n : Nat) (k : Value) (c : Int) (ks' : List Value) : Prop where
  step : ∃ (st : Int) (w1 w2 : World), (Instr.mapEntry T (.map (some b)) k).run P w = .ok (.tuple #[.int .i64 c, .int .i64 st]) w1 ∧ (Instr.lookup T (.map (some b)) k false).run P w = .ok (.int .i64 c) w ∧ (Instr.lookup T (.map (some b)) k false).run P w1 = .ok (.int .i64 c) w1 ∧
    (Instr.entryStore T (.map (some b)) (.int .i64 st) (.int .i64 (c + 1))).run P w1 = .ok () w2 ∧ (Instr.lookup T (.map (some b)) k false).run P w2 = .ok (.int .i64 (c + 1)) w2 ∧ w.grownBy w1 (some b) ∧ w.grownBy w2 (some b) ∧ MapC P K w2 b ks' (n + 1)
theorem grown_set (w : World) (b : Nat) (o : Obj) : w.grownBy { w with heap := w.heap.setIfInBounds b o } (some b) :=
  ⟨rfl, rfl, rfl, by simp, fun i _ hi => by
    have : i ≠ b := fun e => hi (by rw [e])
    simp [this.symm]⟩
theorem heap_at {es : Array MapEntry} {clock : Nat} (hb : w.heap[b]? = some (.map es clock)) (o : Obj) : ({ w with heap := w.heap.setIfInBounds b o } : World).heap[b]? = some o := by
  have := (Array.getElem?_eq_some_iff.1 hb).1
  simp [this]
theorem look_at (Kd : Keyed P K) (hT : P.underlying T = some (.map K E)) (hz : (zeroValue E).run P w = .ok (.int .i64 0) w) (hk : keyOf P K k = some lk) {es : Array MapEntry} {clock : Nat} (hb : w.heap[b]? = some (.map es clock)) :
    (((Instr.findKey K k es.toList).run P w = .ok none w → (Instr.lookup T (.map (some b)) k false).run P w = .ok (.int .i64 0) w) ∧ ∀ j v, (Instr.findKey K k es.toList).run P w = .ok (some (j, v)) w → (Instr.lookup T (.map (some b)) k false).run P w = .ok v w) := by
  refine ⟨fun h => ?_, fun j v h => ?_⟩
  · simp [Instr.lookup, run_underlying hT, MapKept.run_getObj_map hb, Kd.check w _ hk, h, hz, Result.andThen]
  · simp [Instr.lookup, run_underlying hT, MapKept.run_getObj_map hb, Kd.check w _ hk, h, Result.andThen]
theorem map_modify {α β : Type} (l : List α) (j : Nat) (f : α → α) (g : α → β) (h : ∀ a, g (f a) = g a) : (l.modify j f).map g = l.map g := by
  refine List.ext_getElem? fun i => ?_
  rw [List.getElem?_map, List.getElem?_map, List.getElem?_modify]
  cases l[i]? with
  | none => rfl
  | some a =>
    simp only [Option.map_some, Option.map_eq_map]
    split
    · rw [h]
    · rfl
theorem mem_modify {α : Type} {l : List α} {j : Nat} {f : α → α} {x : α} (h : x ∈ l.modify j f) : x ∈ l ∨ ∃ a ∈ l, x = f a := by
  obtain ⟨i, hi⟩ := List.mem_iff_getElem?.1 h
  rw [List.getElem?_modify] at hi
  cases hl : l[i]? with
  | none => rw [hl] at hi; cases hi
  | some a =>
    have ha := List.mem_iff_getElem?.2 ⟨i, hl⟩
    rw [hl] at hi
    simp only [Option.map_some, Option.map_eq_map, Option.some.injEq] at hi
    split at hi
    · exact .inr ⟨a, ha, hi.symm⟩
    · exact .inl (hi ▸ ha)
theorem modify_last {α : Type} (l : List α) (a : α) (f : α → α) : (l ++ [a]).modify l.length f = l ++ [f a] := by
  refine List.ext_getElem? fun i => ?_
  rw [List.getElem?_modify]
  rcases Nat.lt_trichotomy i l.length with h | h | h
  · rw [List.getElem?_append_left h, List.getElem?_append_left h]
    cases l[i]? with
    | none => rfl
    | some x => simp; omega
  · subst h; simp
  · rw [List.getElem?_eq_none (by simp; omega), List.getElem?_eq_none (by simp; omega)]; rfl
theorem nodup_ne {α : Type} {l : List α} (h : l.Nodup) {i j : Nat} (hi : i < l.length) (hj : j < l.length) (hij : i < j) : l[i] ≠ l[j] := List.pairwise_iff_getElem.1 h i j hi hj hij
theorem find_is (Kd : Keyed P K) (hk : keyOf P K k = some lk) {l : List MapEntry} (hkl : ∀ x ∈ l, ∃ l, keyOf P K x.key = some l) (hnd : (l.map (·.key)).Nodup) {j : Nat} {e0 : MapEntry} (hj : l[j]? = some e0) (he : e0.key = k) (W : World) : (Instr.findKey K k l).run P W = .ok (some (j, e0.val)) W := by
  rcases Kd.find W hk l hkl with ⟨-, hno⟩ | ⟨j', e1, f, hj', he'⟩
  · exact absurd he (hno e0 (List.mem_of_getElem? hj))
  · obtain ⟨h1, h2⟩ := List.getElem?_eq_some_iff.1 hj
    obtain ⟨h3, h4⟩ := List.getElem?_eq_some_iff.1 hj'
    have : j' = j := by
      rcases Nat.lt_trichotomy j' j with h | h | h
      · exact (nodup_ne hnd (i := j') (j := j) (by rw [List.length_map]; exact h3) (by rw [List.length_map]; exact h1) h (by rw [List.getElem_map, List.getElem_map, h2, h4, he, he'])).elim
      · exact h
      · exact (nodup_ne hnd (i := j) (j := j') (by rw [List.length_map]; exact h1) (by rw [List.length_map]; exact h3) h (by rw [List.getElem_map, List.getElem_map, h2, h4, he, he'])).elim
    subst this
    rw [hj] at hj'
    injection hj' with e
    rw [e]; exact f
theorem incNew (Kd : Keyed P K) (hT : P.underlying T = some (.map K E)) (hz : ∀ w, (zeroValue E).run P w = .ok (.int .i64 0) w) (hk : keyOf P K k = some lk) (h : MapC P K w b ks n) (hn : k ∉ ks) : IncC P K T w b ks n k 0 (ks ++ [k]) := by
  obtain ⟨es, clock, hb, hks, hkl, hvl, hpb, hbl, hnd⟩ := h
  have hne : ∀ x ∈ es.toList, x.key ≠ k := fun x hx e => hn (by rw [← hks, ← e]; exact List.mem_map_of_mem hx)
  rcases Kd.find w hk es.toList hkl with ⟨f1, -⟩ | ⟨j, e0, f2, hj, he⟩
  · have hl0 := (look_at (w := w) Kd hT (hz w) hk hb).1 f1
    have hb1 := heap_at hb (.map (es.push ⟨k, .int .i64 0, clock⟩) (clock + 1))
    obtain ⟨w1, hw1⟩ : ∃ w1 : World, w1 = { w with heap := w.heap.setIfInBounds b (.map (es.push ⟨k, .int .i64 0, clock⟩) (clock + 1)) } := ⟨_, rfl⟩
    have hr1 : (Instr.mapEntry T (.map (some b)) k).run P w = .ok (.tuple #[.int .i64 0, .int .i64 clock]) w1 := by
      simp [Instr.mapEntry, run_underlying hT, MapKept.run_getObj_map hb, Kd.check w _ hk, f1, hz, Result.andThen, MapKept.run_setObj_map _ hb, hw1, goInt]
    have hg1 : w.grownBy w1 (some b) := by rw [hw1]; exact grown_set w b _
    rw [← hw1] at hb1
    have hfi : (es.push ⟨k, .int .i64 0, clock⟩).findIdx? (fun e => (e.born : Int) == (clock : Int)) = some es.size := by
      rw [Array.findIdx?_push]
      have h1 : es.findIdx? (fun e => (e.born : Int) == (clock : Int)) = none := by
        rw [Array.findIdx?_eq_none_iff]
        intro x hx
        have := hbl x (by simpa using hx)
        simp; omega
      rw [h1]; simp
    have hb2 := heap_at hb1 (.map ((es.push ⟨k, .int .i64 0, clock⟩).modify es.size fun e => { e with val := .int .i64 (0 + 1) }) (clock + 1))
    obtain ⟨w2, hw2⟩ : ∃ w2 : World, w2 = { w1 with heap := w1.heap.setIfInBounds b (.map ((es.push ⟨k, .int .i64 0, clock⟩).modify es.size fun e => { e with val := .int .i64 (0 + 1) }) (clock + 1)) } := ⟨_, rfl⟩
    have hr2 : (Instr.entryStore T (.map (some b)) (.int .i64 (clock : Int)) (.int .i64 (0 + 1))).run P w1 = .ok () w2 := by
      simp [Instr.entryStore, MapKept.run_getObj_map hb1, hfi, asInt, asIntOf, Result.andThen, MapKept.run_setObj_map _ hb1, hw2]
    have hg2 : w1.grownBy w2 (some b) := by rw [hw2]; exact grown_set w1 b _
    rw [← hw2] at hb2
    have e1 : (es.push (⟨k, .int .i64 0, clock⟩ : MapEntry)).toList = es.toList ++ [⟨k, .int .i64 0, clock⟩] := by simp
    have e2 : ((es.push (⟨k, .int .i64 0, clock⟩ : MapEntry)).modify es.size fun e => { e with val := .int .i64 (0 + 1) }).toList = es.toList ++ [⟨k, .int .i64 (0 + 1), clock⟩] := by
      rw [Array.toList_modify, e1, ← Array.length_toList, modify_last]
    have hk1 : ∀ v, ∀ x ∈ es.toList ++ [(⟨k, v, clock⟩ : MapEntry)], ∃ l, keyOf P K x.key = some l := fun v x hx => by
      rcases List.mem_append.1 hx with hx | hx
      · exact hkl x hx
      · rw [List.mem_singleton.1 hx]; exact ⟨lk, hk⟩
    have hfd : ∀ (W : World) (v : Value), ∃ j, (Instr.findKey K k (es.toList ++ [(⟨k, v, clock⟩ : MapEntry)])).run P W = .ok (some (j, v)) W := fun W v => by
      rcases Kd.find W hk _ (hk1 v) with ⟨-, hno⟩ | ⟨j, e0, f2, hj, he⟩
      · exact absurd rfl (hno ⟨k, v, clock⟩ (by simp))
      · rcases List.mem_append.1 (List.mem_of_getElem? hj) with hx | hx
        · exact absurd he (hne e0 hx)
        · rw [List.mem_singleton.1 hx] at f2; exact ⟨j, f2⟩
    obtain ⟨j1, f1'⟩ := hfd w1 (.int .i64 0)
    obtain ⟨j2, f2'⟩ := hfd w2 (.int .i64 (0 + 1))
    rw [← e1] at f1'
    rw [← e2] at f2'
    refine ⟨(clock : Int), w1, w2, hr1, hl0, (look_at (w := w1) Kd hT (hz w1) hk hb1).2 _ _ f1', hr2, (look_at (w := w2) Kd hT (hz w2) hk hb2).2 _ _ f2', hg1, grown_trans hg1 hg2, ?_⟩
    refine ⟨_, _, hb2, by rw [e2]; simp [hks], by rw [e2]; exact hk1 _, ?_, ?_, ?_, ?_⟩
    · rw [e2]
      intro x hx
      rcases List.mem_append.1 hx with hx | hx
      · obtain ⟨c, hc, h1, h2⟩ := hvl x hx; exact ⟨c, hc, h1, by omega⟩
      · rw [List.mem_singleton.1 hx]; exact ⟨1, rfl, by omega, by omega⟩
    · rw [e2, List.map_append, List.nodup_append]
      refine ⟨hpb, by simp, fun x hx y hy e => ?_⟩
      obtain ⟨z, hz1, rfl⟩ := List.mem_map.1 hx
      simp at hy
      have := hbl z hz1
      omega
    · rw [e2]
      intro x hx
      rcases List.mem_append.1 hx with hx | hx
      · have := hbl x hx; omega
      · rw [List.mem_singleton.1 hx]; show clock < clock + 1; omega
    · rw [List.nodup_append]
      exact ⟨hnd, by simp, fun x hx y hy e => hn (by simp at hy; rw [← hy, ← e]; exact hx)⟩
  · exact absurd he (hne e0 (List.mem_of_getElem? hj))
theorem incOld (Kd : Keyed P K) (hT : P.underlying T = some (.map K E)) (hz : ∀ w, (zeroValue E).run P w = .ok (.int .i64 0) w) (hk : keyOf P K k = some lk) (h : MapC P K w b ks n) (hn : k ∈ ks) : ∃ c : Int, 1 ≤ c ∧ c ≤ n ∧ IncC P K T w b ks n k c ks := by
  obtain ⟨es, clock, hb, hks, hkl, hvl, hpb, hbl, hnd⟩ := h
  rcases Kd.find w hk es.toList hkl with ⟨-, hne⟩ | ⟨j, e0, f2, hj, he⟩
  · rw [← hks] at hn
    obtain ⟨x, hx, e⟩ := List.mem_map.1 hn
    exact absurd e (hne x hx)
  · have hmem := List.mem_of_getElem? hj
    obtain ⟨c, hc, hc1, hc2⟩ := hvl e0 hmem
    rw [hc] at f2
    have hl0 := (look_at (w := w) Kd hT (hz w) hk hb).2 _ _ f2
    have hja : es[j]? = some e0 := by simpa using hj
    have hsame : (es.modify j fun e => { e with key := k }) = es := by
      refine Array.ext_getElem? fun i => ?_
      rw [Array.getElem?_modify]
      by_cases hji : j = i
      · subst hji
        rw [if_pos rfl, hja, Option.map_some, ← he]
      · rw [if_neg hji]
    have hb1 := heap_at hb (.map es clock)
    obtain ⟨w1, hw1⟩ : ∃ w1 : World, w1 = { w with heap := w.heap.setIfInBounds b (.map es clock) } := ⟨_, rfl⟩
    have hr1 : (Instr.mapEntry T (.map (some b)) k).run P w = .ok (.tuple #[.int .i64 c, .int .i64 e0.born]) w1 := by
      simp [Instr.mapEntry, run_underlying hT, MapKept.run_getObj_map hb, Kd.check w _ hk, f2, hja, he, Kd.stays w hk, Result.andThen, MapKept.run_setObj_map _ hb, hw1, goInt, hsame]
    have hg1 : w.grownBy w1 (some b) := by rw [hw1]; exact grown_set w b _
    rw [← hw1] at hb1
    have hlt : j < es.size := by
      have := (List.getElem?_eq_some_iff.1 hj).1
      simpa using this
    have hfi : es.findIdx? (fun e => (e.born : Int) == (e0.born : Int)) = some j := by
      rw [Array.findIdx?_eq_some_iff_getElem]
      have e1 : es[j] = e0 := by rw [Array.getElem?_eq_getElem hlt] at hja; injection hja
      refine ⟨hlt, by rw [e1]; simp, fun i hi => ?_⟩
      have hil : i < es.toList.length := by rw [Array.length_toList]; omega
      have h1 := nodup_ne hpb (i := i) (j := j) (by rw [List.length_map]; exact hil) (by rw [List.length_map, Array.length_toList]; exact hlt) hi
      simp only [List.getElem_map, Array.getElem_toList, e1] at h1
      simp; omega
    have hb2 := heap_at hb1 (.map (es.modify j fun e => { e with val := .int .i64 (c + 1) }) clock)
    obtain ⟨w2, hw2⟩ : ∃ w2 : World, w2 = { w1 with heap := w1.heap.setIfInBounds b (.map (es.modify j fun e => { e with val := .int .i64 (c + 1) }) clock) } := ⟨_, rfl⟩
    have hr2 : (Instr.entryStore T (.map (some b)) (.int .i64 (e0.born : Int)) (.int .i64 (c + 1))).run P w1 = .ok () w2 := by
      simp [Instr.entryStore, MapKept.run_getObj_map hb1, hfi, asInt, asIntOf, Result.andThen, MapKept.run_setObj_map _ hb1, hw2]
    have hg2 : w1.grownBy w2 (some b) := by rw [hw2]; exact grown_set w1 b _
    rw [← hw2] at hb2
    have e2 : (es.modify j fun e => { e with val := .int .i64 (c + 1) }).toList = es.toList.modify j fun e => { e with val := .int .i64 (c + 1) } := Array.toList_modify
    have hm1 : (es.modify j fun e => { e with val := .int .i64 (c + 1) }).toList.map (·.key) = ks := by rw [e2]; exact (map_modify es.toList j (fun e : MapEntry => { e with val := .int .i64 (c + 1) }) (fun e : MapEntry => e.key) (fun _ => rfl)).trans hks
    have hkl2 : ∀ x ∈ (es.modify j fun e => { e with val := .int .i64 (c + 1) }).toList, ∃ l, keyOf P K x.key = some l := fun x hx => by
      rw [e2] at hx
      rcases mem_modify hx with hx | ⟨a, ha, rfl⟩
      · exact hkl x hx
      · exact hkl a ha
    have hndk : (es.toList.map (·.key)).Nodup := by rw [hks]; exact hnd
    have f1 := find_is Kd hk hkl hndk hj he w1
    rw [hc] at f1
    have hj2 : ((es.modify j fun e => { e with val := .int .i64 (c + 1) }).toList)[j]? = some { e0 with val := .int .i64 (c + 1) } := by
      rw [e2, List.getElem?_modify, hj]; simp
    have f3 := find_is Kd hk hkl2 (by rw [hm1]; exact hnd) hj2 he w2
    refine ⟨c, hc1, hc2, ⟨_, w1, w2, hr1, hl0, (look_at (w := w1) Kd hT (hz w1) hk hb1).2 _ _ f1, hr2, (look_at (w := w2) Kd hT (hz w2) hk hb2).2 _ _ f3, hg1, grown_trans hg1 hg2, ?_⟩⟩
    refine ⟨_, _, hb2, hm1, hkl2, fun x hx => ?_, ?_, fun x hx => ?_, hnd⟩
    · rw [e2] at hx
      rcases mem_modify hx with hx | ⟨a, ha, rfl⟩
      · obtain ⟨c', h1, h2, h3⟩ := hvl x hx; exact ⟨c', h1, h2, by omega⟩
      · exact ⟨c + 1, rfl, by omega, by omega⟩
    · rw [e2]
      rw [show (es.toList.modify j fun e : MapEntry => { e with val := .int .i64 (c + 1) }).map (·.born) = es.toList.map (·.born) from map_modify es.toList j (fun e : MapEntry => { e with val := .int .i64 (c + 1) }) (fun e : MapEntry => e.born) (fun _ => rfl)]
      exact hpb
    · rw [e2] at hx
      rcases mem_modify hx with hx | ⟨a, ha, rfl⟩
      · exact hbl x hx
      · exact hbl a ha
end
end Go.Cm
