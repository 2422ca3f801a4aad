/- Texts of this claim, joined: walks of small functions and plain facts about them. Conditions: as each says. -/
import Derived.Test.YtfnkhcibcffcmaaGK
import Derived.Test.YtfnkhcibcffcmaaGI
import Derived.Test.YtfnkhcibcffcmaaGC
import Derived.Test.YtfnkhcibcffcmaaGA
import Derived.SizedLaws
import Derived.ProofKit
import Derived.OpenShut
import Derived.Deep.Slices
import Derived.ChangeSlices
import Derived.WideKeyArgs
/- The automaton that Make makes: it is right, and tells the trees that match; the known trees. Conditions: none. -/
namespace Go.Cm

def TreesQ (ll : List (List Nd)) : Prop := ∀ l ∈ ll, ∀ x ∈ l, NdQ x
noncomputable def langL (l : List Nd) : Lng := langT (treeOf l)
theorem tree_ok {l : List Nd} (h : Chk l) (hq : ∀ x ∈ l, NdQ x) : TreeOk (treeOf l) := by
  obtain ⟨x, k, h1, h2, h3, h4, h5, -, -, -⟩ := chk_facts h
  rw [List.append_nil] at h1
  refine ⟨x, k, by rw [h1]; exact treeOf_flat x k h2 h3, h4, hq x (by rw [h1]; simp), h2, h3, h5, (allF_iff k).2 fun z hz => hq z (by rw [h1]; simp [hz])⟩
theorem setL_succ (n : Nat) (P : Nat → Prop) : setL (n + 1) P = setL n P ++ (if @decide (P n) (Classical.propDecidable _) then [n] else []) := by
  unfold setL
  rw [List.range_succ, List.filter_append]
  congr 1
  rw [List.filter_cons]
  rfl
theorem setL_cut (n i : Nat) (hi : i ≤ n) (P : Nat → Prop) : setL n (fun k => k < i ∧ P k) = setL i P := by
  induction n with
  | zero => obtain rfl : i = 0 := by omega
            rfl
  | succ n ih =>
    by_cases h : i ≤ n
    · rw [setL_succ, ih h, @decide_eq_false _ (Classical.propDecidable _) (fun hh => by omega)]
      simp
    · obtain rfl : i = n + 1 := by omega
      exact setL_congr fun k hk => ⟨fun h => h.2, fun h => ⟨hk, h⟩⟩
theorem may_ok {ll : List (List Nd)} (h : mayL ll = 0) : (∀ l ∈ ll, Chk l) ∧ 1 + (ll.map sizeL).sum ≤ 3000 ∧ ll.length ≤ 32 ∧ 0 < ll.length := by
  unfold mayL at h
  by_cases c1 : ll.length = 0
  · rw [if_pos c1] at h; cases h
  rw [if_neg c1] at h
  by_cases c2 : 32 < ll.length
  · rw [if_pos c2] at h; cases h
  rw [if_neg c2] at h
  by_cases c3 : ∀ l ∈ ll, Chk l
  · rw [if_neg (fun h => h c3)] at h
    by_cases c4 : 3000 < 1 + (ll.map sizeL).sum
    · rw [if_pos c4] at h; cases h
    · exact ⟨c3, by omega, by omega, by omega⟩
  · rw [if_pos c3] at h; cases h
structure Made (ll : List (List Nd)) : Prop where
  len : ((mkS ll ll.length).e.length : Int) = 1 + (ll.map sizeL).sum
  right : rightN (mkS ll ll.length).e 0 (mkS ll ll.length).r = true
  run : ∀ t, runN (mkS ll ll.length).e 0 (mkS ll ll.length).r t = setL ll.length (fun k => langL (ll.getD k []) t)
  edq : ∀ a x, x ∈ Row (mkS ll ll.length).e a → EdQ x
  few : tot (mkS ll ll.length).e ≤ 10000
theorem made {ll : List (List Nd)} (h : mayL ll = 0) (hq : TreesQ ll) : Made ll := by
  obtain ⟨h1, h2, h3, h4⟩ := may_ok h
  have hmk := mk_ok ll h1 h2 ll.length (Nat.le_refl _)
  rw [sumS_all] at hmk
  have hlen := hmk.len
  have hl : (ll.map treeOf).length = ll.length := by simp
  obtain ⟨en, hI⟩ := make_lang (ll.map treeOf) (fun j hj => by
    rw [hl] at hj
    rw [getD_treeOf ll j hj]
    have hm : ll.getD j [] ∈ ll := by simp [List.getD, hj]
    exact tree_ok (h1 _ hm) (hq _ hm)) ll.length (by omega)
  change MakeI (ll.map treeOf) ll.length (mkS ll ll.length) en at hI
  have hr := make_right hI h3 (by omega)
  refine ⟨hlen, hr, fun t => ?_, hI.edq, by have := hmk.tot; omega⟩
  have e1 : runN (mkS ll ll.length).e 0 (mkS ll ll.length).r t = setL 32 (Told (mkS ll ll.length).e 0 (mkS ll ll.length).r t) := by
    unfold runN; rw [if_pos hr]
  rw [e1, ← setL_cut 32 ll.length h3]
  refine setL_congr fun k _ => (make_told hI t k).trans (and_congr_right fun hk => ?_)
  rw [getD_treeOf ll k hk]
  exact Iff.rfl

/- the known trees -/
def kAB : Fo := .cons (setNd 8589934592) .nil (.cons (setNd 17179869184) .nil .nil)
theorem treeAB_of : treeOf treeAB = .cons ⟨4, 2, 0, 0, 0, 0, 0, 0⟩ kAB .nil := treeOf_flat ⟨4, 2, 0, 0, 0, 0, 0, 0⟩ kAB (by decide) ⟨by decide, trivial, by decide, trivial, trivial⟩
theorem treeB_of : treeOf treeB = .cons (setNd 17179869184) .nil .nil := treeOf_flat (setNd 17179869184) .nil (by decide) trivial
theorem chkAB : Chk treeAB := by decide
theorem chkB : Chk treeB := by decide
theorem sizeAB : sizeL treeAB = 6 := by unfold sizeL; rw [if_pos chkAB, treeAB_of]; decide
theorem sizeB : sizeL treeB = 2 := by unfold sizeL; rw [if_pos chkB, treeB_of]; decide
theorem mayAB : mayL [treeAB, treeB] = 0 := by
  unfold mayL
  rw [if_neg (by decide), if_neg (by decide), if_neg, if_neg]
  · simp [sizeAB, sizeB]
  · intro h; refine h fun l hl => ?_
    simp at hl
    rcases hl with rfl | rfl
    · exact chkAB
    · exact chkB
theorem quAB : TreesQ [treeAB, treeB] := by
  intro l hl x hx
  simp at hl
  rcases hl with rfl | rfl
  · simp [treeAB, setNd] at hx
    rcases hx with rfl | rfl | rfl <;> (unfold NdQ WQ; decide)
  · simp [treeB, setNd] at hx
    subst hx
    unfold NdQ WQ; decide
theorem langSet (v : Int) (w : List Nat) : langN (setNd v) [] w ↔ ∃ c, w = [c] ∧ hasN (setEd (setNd v) 0) c = true := by
  unfold langN
  rw [if_pos (by rfl)]
  exact Iff.rfl
theorem langB (w : List Nat) : langL treeB w ↔ ∃ c, w = [c] ∧ hasN (setEd (setNd 17179869184) 0) c = true := by
  unfold langL
  rw [treeB_of]
  exact langSet _ _
theorem langAB (w : List Nat) : langL treeAB w ↔ ∃ c, w = [c] ∧ (hasN (setEd (setNd 8589934592) 0) c = true ∨ hasN (setEd (setNd 17179869184) 0) c = true) := by
  unfold langL
  rw [treeAB_of]
  show langN ⟨4, 2, 0, 0, 0, 0, 0, 0⟩ [langN (setNd 8589934592) [], langN (setNd 17179869184) []] w ↔ _
  have e : langN ⟨4, 2, 0, 0, 0, 0, 0, 0⟩ [langN (setNd 8589934592) [], langN (setNd 17179869184) []] w ↔ ∃ j, j < 2 ∧ ([langN (setNd 8589934592) [], langN (setNd 17179869184) []] : List Lng).getD j botL w := by
    unfold langN; exact Iff.rfl
  rw [e]
  constructor
  · rintro ⟨j, hj, h⟩
    rcases (show j = 0 ∨ j = 1 by omega) with rfl | rfl
    · obtain ⟨c, h1, h2⟩ := (langSet _ _).1 h
      exact ⟨c, h1, .inl h2⟩
    · obtain ⟨c, h1, h2⟩ := (langSet _ _).1 h
      exact ⟨c, h1, .inr h2⟩
  · rintro ⟨c, h1, h2 | h2⟩
    · exact ⟨0, by decide, (langSet _ _).2 ⟨c, h1, h2⟩⟩
    · exact ⟨1, by decide, (langSet _ _).2 ⟨c, h1, h2⟩⟩
theorem runK (t : List Nat) (p : Nat → Bool) (h0 : langL treeAB t ↔ p 0 = true) (h1 : langL treeB t ↔ p 1 = true) : runN (mkS [treeAB, treeB] 2).e 0 (mkS [treeAB, treeB] 2).r t = (List.range 2).filter p := by
  have := (made mayAB quAB).run t
  refine this.trans (setL_dec p fun i hi => ?_)
  have hi : i < 2 := hi
  rcases (show i = 0 ∨ i = 1 by omega) with rfl | rfl
  · exact h0
  · exact h1
theorem runKb : runN (mkS [treeAB, treeB] 2).e 0 (mkS [treeAB, treeB] 2).r (txt txB) = [0, 1] :=
  runK _ (fun _ => true) ⟨fun _ => rfl, fun _ => (langAB _).2 ⟨98, rfl, .inr (by decide)⟩⟩ ⟨fun _ => rfl, fun _ => (langB _).2 ⟨98, rfl, by decide⟩⟩
theorem runKa : runN (mkS [treeAB, treeB] 2).e 0 (mkS [treeAB, treeB] 2).r (txt txA) = [0] :=
  runK _ (fun i => i == 0) ⟨fun _ => rfl, fun _ => (langAB _).2 ⟨97, rfl, .inl (by decide)⟩⟩ ⟨fun h => by
    obtain ⟨c, h1, h2⟩ := (langB _).1 h
    obtain rfl : 97 = c := by simpa [txt, txA] using h1
    exact absurd h2 (by decide), fun h => absurd h (by decide)⟩
def txab : ByteArray := ⟨#[97, 98]⟩
theorem runKab : runN (mkS [treeAB, treeB] 2).e 0 (mkS [treeAB, treeB] 2).r (txt txab) = [] :=
  runK _ (fun _ => false) ⟨fun h => by
    obtain ⟨c, h1, -⟩ := (langAB _).1 h
    simp [txt, txab] at h1, fun h => absurd h (by decide)⟩ ⟨fun h => by
    obtain ⟨c, h1, -⟩ := (langB _).1 h
    simp [txt, txab] at h1, fun h => absurd h (by decide)⟩
theorem lenK : (mkS [treeAB, treeB] 2).e.length = 9 := by
  have := (made mayAB quAB).len
  simp only [List.map_cons, List.map_nil, sizeAB, sizeB] at this
  have h2 : ((mkS [treeAB, treeB] 2).e.length : Int) = 1 + ([6, 2] : List Int).sum := this
  have h3 : ([6, 2] : List Int).sum = 8 := by decide
  omega
theorem rightK : rightN (mkS [treeAB, treeB] 2).e 0 (mkS [treeAB, treeB] 2).r = true := (made mayAB quAB).right
end Go.Cm

/- The walk of what must come of fixed calls. Conditions: none. -/
namespace Go.Cm
open Go.RowKit Go.Proofs

theorem trees_two' {w : World} {u1 u2 : Value} {l1 l2 : List Nd} (h1 : NodesAt w u1 l1) (h2 : NodesAt w u2 l2) :
    TreesAt (w.alloc (.cells #[u1, u2] 48)) (.slice (some ⟨w.heap.size, 0, none⟩) 2 2) [l1, l2] := by
  have hA := below_alloc w (.cells #[u1, u2] 48)
  refine ⟨[u1, u2], by simpa using sl_lit w #[u1, u2] 48 (by simp), rfl, fun i hi => ?_⟩
  have hi : i < 2 := hi
  rcases (show i = 0 ∨ i = 1 by omega) with rfl | rfl
  · exact h1.up hA
  · exact h2.up hA
theorem treesNil (w : World) : TreesAt w (.slice none 0 0) [] := ⟨[], Sl.nil w, rfl, fun i hi => absurd hi (Nat.not_lt_zero i)⟩
theorem ints2 {x : World} {u v : Value} (h1 : IntsAt x u (nz [0, 1])) (h2 : IntsAt x v [0, 1]) : Calls Try.prog 47 #[u, v] x fun e w' => e = .returned (.bool true) ∧ ∃ y, w' = ext x y := by
  have := intsR h1 h2
  rwa [show decide (nz [0, 1] = ([0, 1] : List Int)) = true from by decide] at this
theorem ints1 {x : World} {u v : Value} (h1 : IntsAt x u (nz [0])) (h2 : IntsAt x v [0]) : Calls Try.prog 47 #[u, v] x fun e w' => e = .returned (.bool true) ∧ ∃ y, w' = ext x y := by
  have := intsR h1 h2
  rwa [show decide (nz [0] = ([0] : List Int)) = true from by decide] at this
theorem mayNil : mayL [] = 17 := by unfold mayL; exact if_pos rfl
end Go.Cm

/- The walk of NfaMakes. Conditions: none. -/
namespace Go.Cm
open Go.RowKit Go.Proofs

/-- what Make gives, with how many states -/
theorem makeQ {w : World} {v : Value} {ll : List (List Nd)} (h : TreesAt w v ll) (hq : TreesQ ll) :
    Calls Try.prog 14 #[v] w fun e w' => ∃ oe n ce orr m cr ee rr, e = .returned (.tuple #[.agg #[.slice oe n ce, .int .i64 0, .slice orr m cr], .int .i64 (mayL ll)]) ∧ (n : Int) = makesL ll ∧ NfaV w' #[.slice oe n ce, .int .i64 0, .slice orr m cr] ee 0 rr ∧ (mayL ll = 0 → rightN ee 0 rr = true ∧ ∀ t, runN ee 0 rr t = setL ll.length (fun k => langL (ll.getD k []) t)) ∧ (mayL ll = 0 → tot ee ≤ 10000 ∧ ∀ a x, x ∈ Row ee a → EdQ x) ∧ Below w.heap.size w w' := by
  refine (makeP h).mono ?_
  rintro e w' ⟨A, rfl, h1, h2, hb⟩
  by_cases h0 : mayL ll = 0
  · have hm := made h0 hq
    obtain ⟨ve, vr, rfl, he, hr⟩ := h1 h0
    have hV : NfaV w' #[ve, .int .i64 0, vr] _ 0 _ := ⟨ve, vr, rfl, he, hr⟩
    obtain ⟨oe, ce, be, fe, rfl, -, -⟩ := he.open
    obtain ⟨orr, cr, br, fr, rfl, -, -⟩ := hr.open
    refine ⟨oe, _, ce, orr, _, cr, _, _, rfl, ?_, hV, fun _ => ⟨hm.right, hm.run⟩, fun _ => ⟨hm.few, hm.edq⟩, hb⟩
    have := hm.len
    unfold makesL
    rw [if_pos h0]
    exact this
  · have hA := h2 h0
    subst hA
    refine ⟨none, 0, 0, none, 0, 0, [], [], rfl, by unfold makesL; rw [if_neg h0]; rfl, ⟨_, _, rfl, ⟨[], Sl.nil _, rfl, fun i hi => absurd hi (Nat.not_lt_zero i)⟩, Sl.nil _⟩, fun h => absurd h h0, fun h => absurd h h0, hb⟩
end Go.Cm

/- Arguments that a law is handed, as data: lists of ints, texts. Conditions: none. -/
namespace Go.Cm
open Go.RowKit Go.Proofs Go.WideShapes Go.ChangeShapes Go.Deep

section
variable {H : Type} {enc : TypeId × Value → H} {P : Program}
theorem post_of_below {f : Func} {s : ChangeSpec} {apart fresh handsOn again : Bool} {W W' : World} {args : Array Value} {v : Value} {ds gs : List (DataW H)} {before pa pv : List MemPlace}
    (hW : DataW.Whole enc P f.params.toList s.vars apart W args.toList ds gs before)
    (hres : ∀ (b : Nat) (sp : Nat → Bool) (hd : Bool), DataW.TrodAll enc P W' b sp hd f.resultTypes.toList (v.resultList f.resultTypes.size) (s.fn H (ds ++ gs)).results [])
    (hargs : ∀ sp : Nat → Bool, (∀ p ∈ before, sp p.block = true) → DataW.TrodAll enc P W' 0 sp true f.params.toList args.toList (s.fn H (ds ++ gs)).args pa)
    (hvars : ∀ sp : Nat → Bool, (∀ p ∈ before, sp p.block = true) → DataW.TrodVars enc P W' sp s.vars (s.fn H (ds ++ gs)).vars pv)
    (hps : before = pa ++ pv) (hb : Below W.heap.size W W')
    (hok : ∀ (j : Nat) (t : TypeId) (r : Value), f.resultTypes[j]? = some t → (v.resultList f.resultTypes.size)[j]? = some r → Value.okWide P W' .any 0 t r) :
    s.post enc P f apart fresh handsOn again W args v W' := by
  have hlt : ∀ p ∈ before, p.block < W.heap.size := fun p hp => hW.lt p hp
  have hold : ∀ p ∈ before, (fun b => decide (b < W.heap.size)) p.block = true := fun p hp => by simpa using hlt p hp
  refine ⟨ds, gs, before, [], pa, pv, hW, hres _ _ _, hargs _ hold, hvars _ hold, World.keptBut_mono (fun p hp => ⟨hp, ?_⟩) (hb.frame (· ∈ before)), fun _ => ?_⟩
  · rw [hps, List.mem_append] at hp
    exact Or.inr hp
  · obtain ⟨_, _, _, _, _, hz, hn⟩ := hW
    refine ⟨hok, _, _, ([] ++ pa) ++ pv, ⟨[] ++ pa, pv, trodAll_append (hargs _ (fun _ _ => rfl)) (hres _ _ _), hvars _ (fun _ _ => rfl), rfl, ?_, ?_⟩, ?_⟩
    · intro b off hp
      have hin : MemPlace.cell b off ∈ before := by rw [hps]; simpa using hp
      rw [hb.frozen (hlt _ hin)]
      exact hz b off hin
    · intro ha
      have := hn ha
      rw [hps] at this
      simpa using this
    · intro p hp _
      rw [hps]
      simpa using hp
end

section
variable {H : Type} {enc : TypeId × Value → H} {P : Program} {w : World} {base : Nat} {held : Bool}
theorem weights_slice {t e : TypeId} {elems spare : List (DataW H)} (hu : P.underlying t = some (.slice e)) : (DataW.slice elems spare).weights P t = (elems.length + spare.length) * P.bytesOf e :: (DataW.weightsAll P e elems ++ DataW.weightsAll P e spare) := by
  simp [DataW.weights, hu]
theorem weightsAll_mem {e : TypeId} {d : DataW H} : ∀ {l : List (DataW H)}, d ∈ l → ∀ n ∈ d.weights P e, n ∈ DataW.weightsAll P e l
  | a :: l, h, n, hn => by
    simp only [DataW.weightsAll, List.mem_append]
    rcases List.mem_cons.1 h with rfl | h
    · exact .inl hn
    · exact .inr (weightsAll_mem h n hn)
theorem addr_add (b off j : Nat) : (⟨b, off, none⟩ : Addr).add j = ⟨b, off + j, none⟩ := by unfold Addr.add; split <;> simp_all
theorem reach_is : reachBytes = 140737488351232 := rfl
/-- a slice of whatever elements of one cell, opened -/
theorem open_hd {t e : TypeId} {fuel : Nat} {cs : List Value} {x : DataW H × List MemPlace} (ht : P.underlying t = some (.slice e)) (hc : P.cellsOf e = 1) (hb : 1 ≤ P.bytesOf e) (h : DataW.trod enc P w base (fun _ => true) held fuel t cs = some x) (hw : ∀ n ∈ x.1.weights P t, n ≤ reachBytes) :
    ∃ (oa : Option Addr) (len cap b off : Nat) (V : Nat → Value) (D : Nat → DataW H), cs = [.slice oa len cap] ∧ Hd w oa len cap b off ∧ ∀ i, i < len → w.cell? ⟨b, off + i, none⟩ = some (V i) ∧ (∃ n p, DataW.trod enc P w base (fun _ => true) held n e [V i] = some (D i, p)) ∧ ∀ n ∈ (D i).weights P e, n ≤ reachBytes := by
  rcases open_slice1 ht hc h with ⟨rfl, -⟩ | ⟨a, len, cap, m, n, V, D, Pl, rfl, -, hl, hm, hmm, rfl, hx⟩
  · exact ⟨none, 0, 0, 0, 0, fun _ => undef, fun _ => .nil, rfl, ⟨fun h => absurd h (Nat.lt_irrefl 0), Nat.le_refl _, by simp [maxLen], by simp, fun h => absurd h (Nat.lt_irrefl 0)⟩, fun i hi => absurd hi (Nat.not_lt_zero i)⟩
  · simp only [if_true] at hmm
    subst hmm
    have hwt := weights_slice (P := P) (elems := (List.range len).map D) (spare := (List.range (m - len)).map fun j => D (len + j)) ht
    simp only at hw
    rw [hwt] at hw
    have h1 := hw _ (List.mem_cons_self ..)
    simp only [List.length_map, List.length_range] at h1
    have h2 : m * 1 ≤ (len + (m - len)) * P.bytesOf e := Nat.mul_le_mul (by omega) hb
    rw [reach_is] at h1
    obtain ⟨ab, ao, asp⟩ := a
    have hsp : 0 < len → asp = none := fun h0 => by
      have h3 := (hx 0 (by omega)).1
      simpa [Addr.add] using World.cell?_spot h3
    refine ⟨some ⟨ab, ao, asp⟩, len, m, ab, ao, V, D, rfl, ⟨fun h0 => by rw [hsp h0], hl, hm, by omega, fun h0 => ?_⟩, fun i hi => ⟨?_, ⟨n, Pl i, (hx i (by omega)).2⟩, fun k hk => hw k (List.mem_cons_of_mem _ (List.mem_append_left _ (weightsAll_mem (List.mem_map.2 ⟨i, List.mem_range.2 hi, rfl⟩) k hk)))⟩⟩
    · have h3 := (hx 0 (by omega)).1
      have := World.block_lt_of_cell? _ _ h3
      simpa [Addr.add] using this
    · have h3 := (hx i (by omega)).1
      have h4 := hsp (by omega)
      subst h4
      rwa [addr_add] at h3
theorem open_IntsAt {t e : TypeId} {fuel : Nat} {cs : List Value} {x : DataW H × List MemPlace} (ht : P.underlying t = some (.slice e)) (he : P.underlying e = some (.int .i64)) (hc : P.cellsOf e = 1) (hb : 1 ≤ P.bytesOf e)
    (h : DataW.trod enc P w base (fun _ => true) held fuel t cs = some x) (hw : ∀ n ∈ x.1.weights P t, n ≤ reachBytes) : ∃ v l, cs = [v] ∧ IntsAt w v l := by
  obtain ⟨oa, len, cap, b, off, V, D, rfl, hd, hx⟩ := open_hd ht hc hb h hw
  have hV : ∀ i, i < len → ∃ z : Int, V i = .int .i64 z := fun i hi => by
    obtain ⟨-, ⟨n, p, h2⟩, -⟩ := hx i hi
    obtain ⟨k, e1, -, -⟩ := DataW.trod_int he h2
    exact ⟨k, by simpa using e1⟩
  obtain ⟨Z, hZ⟩ := choose_lt hV
  refine ⟨_, (List.range len).map Z, rfl, ?_⟩
  have hl : (ints ((List.range len).map Z)).length = len := by simp
  refine ⟨oa, cap, b, off, by rw [hl], by rw [hl]; exact hd, fun i hi => ?_⟩
  rw [hl] at hi
  rw [(hx i hi).1, hZ i hi, ints_getD _ _ (by simpa using hi)]
  simp [List.getD, hi]
theorem open_RowsAt {t e q : TypeId} {fuel : Nat} {cs : List Value} {x : DataW H × List MemPlace} (ht : P.underlying t = some (.slice e)) (he : P.underlying e = some (.slice q)) (hq : P.underlying q = some (.int .i64)) (hc : P.cellsOf e = 1) (hb : 1 ≤ P.bytesOf e) (hcq : P.cellsOf q = 1) (hbq : 1 ≤ P.bytesOf q)
    (h : DataW.trod enc P w base (fun _ => true) held fuel t cs = some x) (hw : ∀ n ∈ x.1.weights P t, n ≤ reachBytes) : ∃ v l, cs = [v] ∧ RowsAt w v l := by
  obtain ⟨oa, len, cap, b, off, V, D, rfl, hd, hx⟩ := open_hd ht hc hb h hw
  have hV : ∀ i, i < len → ∃ l : List Int, IntsAt w (V i) l := fun i hi => by
    obtain ⟨-, ⟨n, p, h2⟩, h3⟩ := hx i hi
    obtain ⟨v, l, e1, h4⟩ := open_IntsAt he hq hcq hbq h2 h3
    simp only [List.cons.injEq, and_true] at e1
    exact ⟨l, e1 ▸ h4⟩
  obtain ⟨Z, hZ⟩ := choose_lt hV
  refine ⟨_, (List.range len).map Z, rfl, (List.range len).map V, ⟨oa, cap, b, off, by simp, by simpa using hd, fun i hi => ?_⟩, by simp, fun i hi => ?_⟩
  · have hi' : i < len := by simpa using hi
    rw [(hx i hi').1]; simp [List.getD, hi']
  · have hi' : i < len := by simpa using hi
    have := hZ i hi'
    simpa [List.getD, hi'] using this
end

section
variable {H : Type} {enc : TypeId × Value → H} {w : World} {base : Nat} {held : Bool}
set_option maxRecDepth 10000 in
theorem open_ints {v : Value} {x : DataW H} {p : List MemPlace} {r : Reach} {b0 : Nat} (hv : Value.okWide Try.prog w r b0 23 v) (h : DataW.Trod enc Try.prog w base (fun _ => true) held 23 v x p) (hw : ∀ n ∈ x.weights Try.prog 23, n ≤ reachBytes) : ∃ l, IntsAt w v l := by
  obtain ⟨a0, len0, cap0, rfl⟩ := okWide_slice Try.underlying23 hv
  obtain ⟨fuel, hf⟩ := h
  have c5 : Try.prog.cellsOf 3 = 1 := by kernel_rfl
  have b5 : Try.prog.bytesOf 3 = 8 := by kernel_rfl
  obtain ⟨v', l, hcs, hI⟩ := open_IntsAt Try.underlying23 Try.underlying3 c5 (by rw [b5]; decide) hf hw
  have hcs' : Value.slice a0 len0 cap0 = v' := by
    have : [Value.slice a0 len0 cap0] = [v'] := hcs
    injection this
  rw [hcs']
  exact ⟨l, hI⟩
end
end Go.Cm

/- Arguments that are trees, opened. Conditions: none. -/
namespace Go.Cm
open Go.RowKit Go.Proofs Go.WideShapes Go.ChangeShapes Go.Deep

section
variable {H : Type} {enc : TypeId × Value → H} {P : Program} {w : World} {base : Nat} {held : Bool}
/-- a slice of elements of k cells, opened -/
theorem open_hdK {t e : TypeId} {fuel : Nat} {cs : List Value} {x : DataW H × List MemPlace} (k : Nat) (hk : 0 < k) (ht : P.underlying t = some (.slice e)) (hc : P.cellsOf e = k) (hb : 1 ≤ P.bytesOf e) (h : DataW.trod enc P w base (fun _ => true) held fuel t cs = some x) (hw : ∀ n ∈ x.1.weights P t, n ≤ reachBytes) :
    ∃ (oa : Option Addr) (len cap b off : Nat) (C : Nat → List Value) (D : Nat → DataW H), cs = [.slice oa len cap] ∧ Hd w oa len cap b off ∧ ∀ i, i < len → (C i).length = k ∧ (∀ c, c < k → w.cell? ⟨b, off + i * k + c, none⟩ = some ((C i).getD c undef)) ∧ (∃ n p, DataW.trod enc P w base (fun _ => true) held n e (C i) = some (D i, p)) ∧ ∀ n ∈ (D i).weights P e, n ≤ reachBytes := by
  rcases open_slice ht h with ⟨rfl, -⟩ | ⟨a, len, cap, m, n, D, Pl, rfl, -, hl, hm, hmm, rfl, hx⟩
  · exact ⟨none, 0, 0, 0, 0, fun _ => [], fun _ => .nil, rfl, ⟨fun h => absurd h (Nat.lt_irrefl 0), Nat.le_refl _, by simp [maxLen], by simp, fun h => absurd h (Nat.lt_irrefl 0)⟩, fun i hi => absurd hi (Nat.not_lt_zero i)⟩
  · simp only [if_true] at hmm
    subst hmm
    rw [hc] at hx
    have hwt := weights_slice (P := P) (elems := (List.range len).map D) (spare := (List.range (m - len)).map fun j => D (len + j)) ht
    simp only at hw
    rw [hwt] at hw
    have h1 := hw _ (List.mem_cons_self ..)
    simp only [List.length_map, List.length_range] at h1
    have h2 : m * 1 ≤ (len + (m - len)) * P.bytesOf e := Nat.mul_le_mul (by omega) hb
    rw [reach_is] at h1
    have hx2 : ∀ i, i < m → ∃ cs', cs'.length = k ∧ (∀ c, c < k → w.cell? ((a.add (i * k)).add c) = some (cs'.getD c undef)) ∧ DataW.trod enc P w base (fun _ => true) held n e cs' = some (D i, Pl i) := fun i hi => by
      obtain ⟨cs', h3, h4⟩ := hx i hi
      obtain ⟨_, hlen, hcell⟩ := World.cells?_some h3
      refine ⟨cs', hlen, fun c hcl => ?_, h4⟩
      rw [hcell c (by omega)]
      simp [List.getD, show c < cs'.length by omega]
    obtain ⟨C, hC⟩ := choose_lt hx2
    obtain ⟨ab, ao, asp⟩ := a
    have hsp : 0 < len → asp = none := fun h0 => by
      have h3 := (hC 0 (by omega)).2.1 0 hk
      rw [Nat.zero_mul] at h3
      simpa [Addr.add] using World.cell?_spot h3
    refine ⟨some ⟨ab, ao, asp⟩, len, m, ab, ao, C, D, rfl, ⟨fun h0 => by rw [hsp h0], hl, hm, by omega, fun h0 => ?_⟩, fun i hi => ⟨(hC i (by omega)).1, fun c hcl => ?_, ⟨n, Pl i, (hC i (by omega)).2.2⟩, fun k hk => hw k (List.mem_cons_of_mem _ (List.mem_append_left _ (weightsAll_mem (List.mem_map.2 ⟨i, List.mem_range.2 hi, rfl⟩) k hk)))⟩⟩
    · have h3 := (hC 0 (by omega)).2.1 0 hk
      have := World.block_lt_of_cell? _ _ h3
      simpa [Addr.add] using this
    · have h3 := (hC i (by omega)).2.1 c hcl
      have h4 := hsp (by omega)
      subst h4
      rw [addr_add, addr_add] at h3
      exact h3
end
instance : Inhabited Nd := ⟨⟨0, 0, 0, 0, 0, 0, 0, 0⟩⟩
theorem list4 {α : Type} {l : List α} (h : l.length = 4) : ∃ a b c d, l = [a, b, c, d] := by
  match l, h with
  | [a, b, c, d], _ => exact ⟨a, b, c, d, rfl⟩
theorem list8 {α : Type} {l : List α} (h : l.length = 8) : ∃ a b c d e f g i, l = [a, b, c, d, e, f, g, i] := by
  match l, h with
  | [a, b, c, d, e, f, g, i], _ => exact ⟨a, b, c, d, e, f, g, i, rfl⟩
section
variable {H : Type} {enc : TypeId × Value → H} {w : World} {base : Nat} {held : Bool}
set_option maxRecDepth 10000 in
theorem open_set {fuel : Nat} {cs : List Value} {y : DataW H × List MemPlace} (h : DataW.trod enc Try.prog w base (fun _ => true) held fuel 55 cs = some y) (hl : cs.length = 4) :
    ∃ a b c d : Int, cs = [.int .u64 a, .int .u64 b, .int .u64 c, .int .u64 d] ∧ WQ a ∧ WQ b ∧ WQ c ∧ WQ d := by
  obtain ⟨ys, m, -, -, -, hyl, hyy⟩ := DataW.trod_array Try.underlying55 h
  have cu : Try.prog.cellsOf 53 = 1 := by kernel_rfl
  have hcell : ∀ i, i < 4 → ∃ z : Int, cs[i]? = some (.int .u64 z) ∧ WQ z := fun i hi => by
    have h3 := hyy i hi
    rw [cu, Nat.mul_one] at h3
    have hy : ys[i]? = some (ys[i]'(by omega)) := List.getElem?_eq_getElem (by omega)
    rw [hy] at h3
    obtain ⟨k, e1, -, hwf⟩ := DataW.trod_int Try.underlying53 h3
    refine ⟨k, ?_, ?_⟩
    · have e2 : ((cs.drop i).take 1)[0]? = some (.int .u64 k) := congrArg (fun l => l[0]?) e1
      simpa using e2
    · simp [Lit.wf, IntKind.min, IntKind.max, IntKind.signed, IntKind.bits] at hwf
      unfold WQ; omega
  obtain ⟨a, ha, ha0⟩ := hcell 0 (by omega)
  obtain ⟨b, hb, hb0⟩ := hcell 1 (by omega)
  obtain ⟨c, hc, hc0⟩ := hcell 2 (by omega)
  obtain ⟨d, hd, hd0⟩ := hcell 3 (by omega)
  refine ⟨a, b, c, d, ?_, ha0, hb0, hc0, hd0⟩
  obtain ⟨q0, q1, q2, q3, rfl⟩ := list4 hl
  simp at ha hb hc hd
  rw [ha, hb, hc, hd]
set_option maxRecDepth 10000 in
theorem open_node {fuel : Nat} {cs : List Value} {y : DataW H × List MemPlace} (h : DataW.trod enc Try.prog w base (fun _ => true) held fuel 100 cs = some y) (hl : cs.length = 8) :
    ∃ x : Nd, cs = ndC x ∧ NdQ x := by
  obtain ⟨xs, n, -, -, -, hxl, hg⟩ := DataW.trod_struct Try.underlying100 h
  match xs, hxl with
  | [x0, x1, x2, x3, x4], _ =>
    have h0 := hg 0 _ rfl
    have h1 := hg 1 _ rfl
    have h2 := hg 2 _ rfl
    have h3 := hg 3 _ rfl
    have h4 := hg 4 _ rfl
    have cs4 : Try.prog.cellsOf 55 = 4 := by kernel_rfl
    have c3 : Try.prog.cellsOf 3 = 1 := by kernel_rfl
    simp only [List.getElem?_cons_zero, List.getElem?_cons_succ] at h0 h1 h2 h3 h4
    change DataW.trod enc Try.prog w base (fun _ => true) held n 3 ((cs.drop 0).take (Try.prog.cellsOf 3)) = some x0 at h0
    change DataW.trod enc Try.prog w base (fun _ => true) held n 3 ((cs.drop 1).take (Try.prog.cellsOf 3)) = some x1 at h1
    change DataW.trod enc Try.prog w base (fun _ => true) held n 55 ((cs.drop 2).take (Try.prog.cellsOf 55)) = some x2 at h2
    change DataW.trod enc Try.prog w base (fun _ => true) held n 3 ((cs.drop 6).take (Try.prog.cellsOf 3)) = some x3 at h3
    change DataW.trod enc Try.prog w base (fun _ => true) held n 3 ((cs.drop 7).take (Try.prog.cellsOf 3)) = some x4 at h4
    obtain ⟨k0, e0, -, -⟩ := DataW.trod_int Try.underlying3 h0
    obtain ⟨k1, e1, -, -⟩ := DataW.trod_int Try.underlying3 h1
    obtain ⟨k3, e3, -, -⟩ := DataW.trod_int Try.underlying3 h3
    obtain ⟨k4, e4, -, -⟩ := DataW.trod_int Try.underlying3 h4
    obtain ⟨a, b, c, d, e2, ha, hb, hc, hd⟩ := open_set h2 (by rw [cs4]; simp; omega)
    rw [c3] at e0 e1 e3 e4
    rw [cs4] at e2
    obtain ⟨q0, q1, q2, q3, q4, q5, q6, q7, rfl⟩ := list8 hl
    simp at e0 e1 e2 e3 e4
    obtain ⟨rfl, rfl, rfl, rfl⟩ := e2
    subst e0 e1 e3 e4
    exact ⟨⟨k0, k1, a, b, c, d, k3, k4⟩, rfl, ha, hb, hc, hd⟩
set_option maxRecDepth 10000 in
theorem open_nodes {fuel : Nat} {cs : List Value} {x : DataW H × List MemPlace} (h : DataW.trod enc Try.prog w base (fun _ => true) held fuel 48 cs = some x) (hw : ∀ n ∈ x.1.weights Try.prog 48, n ≤ reachBytes) : ∃ v l, cs = [v] ∧ NodesAt w v l ∧ ∀ z ∈ l, NdQ z := by
  have c8 : Try.prog.cellsOf 100 = 8 := by kernel_rfl
  have b8 : Try.prog.bytesOf 100 = 64 := by kernel_rfl
  obtain ⟨oa, len, cap, b, off, C, D, rfl, hd, hx⟩ := open_hdK 8 (by decide) Try.underlying48 c8 (by rw [b8]; decide) h hw
  have hN : ∀ i, i < len → ∃ z : Nd, C i = ndC z ∧ NdQ z := fun i hi => by
    obtain ⟨hl, -, ⟨n, p, h2⟩, -⟩ := hx i hi
    exact open_node h2 hl
  obtain ⟨Z, hZ⟩ := choose_lt hN
  refine ⟨_, (List.range len).map Z, rfl, ⟨oa, cap, b, off, by simp, by simpa using hd, fun i hi c hcl => ?_⟩, fun z hz => ?_⟩
  · have hi' : i < len := by simpa using hi
    rw [(hx i hi').2.1 c hcl, (hZ i hi').1]
    simp [List.getD, hi']
  · obtain ⟨i, hi, rfl⟩ := List.mem_map.1 hz
    exact (hZ i (List.mem_range.1 hi)).2
set_option maxRecDepth 10000 in
theorem open_treesC {fuel : Nat} {cs : List Value} {x : DataW H × List MemPlace} (h : DataW.trod enc Try.prog w base (fun _ => true) held fuel 39 cs = some x) (hw : ∀ n ∈ x.1.weights Try.prog 39, n ≤ reachBytes) : ∃ v ll, cs = [v] ∧ TreesAt w v ll ∧ TreesQ ll := by
  have c1 : Try.prog.cellsOf 48 = 1 := by kernel_rfl
  have b1 : Try.prog.bytesOf 48 = 24 := by kernel_rfl
  obtain ⟨oa, len, cap, b, off, V, D, rfl, hd, hx⟩ := open_hd Try.underlying39 c1 (by rw [b1]; decide) h hw
  have hV : ∀ i, i < len → ∃ l : List Nd, NodesAt w (V i) l ∧ ∀ z ∈ l, NdQ z := fun i hi => by
    obtain ⟨-, ⟨n, p, h2⟩, h3⟩ := hx i hi
    obtain ⟨v, l, e1, h4, h5⟩ := open_nodes h2 h3
    simp only [List.cons.injEq, and_true] at e1
    exact ⟨l, e1 ▸ h4, h5⟩
  obtain ⟨Z, hZ⟩ := choose_lt hV
  refine ⟨_, (List.range len).map Z, rfl, ⟨(List.range len).map V, ⟨oa, cap, b, off, by simp, by simpa using hd, fun i hi => ?_⟩, by simp, fun i hi => ?_⟩, fun l hl z hz => ?_⟩
  · have hi' : i < len := by simpa using hi
    rw [(hx i hi').1]; simp [List.getD, hi']
  · have hi' : i < len := by simpa using hi
    have := (hZ i hi').1
    simpa [List.getD, hi'] using this
  · obtain ⟨i, hi, rfl⟩ := List.mem_map.1 hl
    exact (hZ i (List.mem_range.1 hi)).2 z hz
set_option maxRecDepth 10000 in
theorem open_trees {v : Value} {x : DataW H} {p : List MemPlace} {r : Reach} {b0 : Nat} (hv : Value.okWide Try.prog w r b0 39 v) (h : DataW.Trod enc Try.prog w base (fun _ => true) held 39 v x p) (hw : ∀ n ∈ x.weights Try.prog 39, n ≤ reachBytes) : ∃ ll, TreesAt w v ll ∧ TreesQ ll := by
  obtain ⟨a0, len0, cap0, rfl⟩ := okWide_slice Try.underlying39 hv
  obtain ⟨fuel, hf⟩ := h
  obtain ⟨v', ll, hcs, h1, h2⟩ := open_treesC hf hw
  have hcs' : Value.slice a0 len0 cap0 = v' := by
    have : [Value.slice a0 len0 cap0] = [v'] := hcs
    injection this
  rw [hcs']
  exact ⟨ll, h1, h2⟩
end
end Go.Cm
