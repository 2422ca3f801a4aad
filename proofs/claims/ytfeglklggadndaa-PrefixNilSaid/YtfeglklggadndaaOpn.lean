/- Arguments that a law is handed, as data: lists of ints, texts. Conditions: none. -/
import Derived.Test.YtfeglklggadndaaOwnM
import Derived.SizedLaws
import Derived.ProofKit
import Derived.OpenShut
import Derived.Deep.Slices
import Derived.ChangeSlices
import Derived.WideKeyArgs
namespace Go.Cm
open Go.RowKit Go.Proofs Go.WideShapes Go.ChangeShapes Go.Deep

section
variable {H : Type} {enc : TypeId × Value → H} {P : Program}
theorem post_of_below {f : Func} {s : ChangeSpec} {apart fresh handsOn again : Bool} {W W' : World} {args : Array Value} {v : Value} {ds gs : List (DataW H)} {before pa pv : List MemPlace}
    (hW : DataW.Whole enc P f.params.toList s.vars apart W args.toList ds gs before)
    (hres : ∀ (b : Nat) (sp : Nat → Bool) (hd : Bool), DataW.TrodAll enc P W' b sp hd f.resultTypes.toList (v.resultList f.resultTypes.size) (s.fn H (ds ++ gs)).results [])
    (hargs : ∀ sp : Nat → Bool, (∀ p ∈ before, sp p.block = true) → DataW.TrodAll enc P W' 0 sp true f.params.toList args.toList (s.fn H (ds ++ gs)).args pa)
    (hvars : ∀ sp : Nat → Bool, (∀ p ∈ before, sp p.block = true) → DataW.TrodVars enc P W' sp s.vars (s.fn H (ds ++ gs)).vars pv)
    (hps : before = pa ++ pv) (hb : Below W.heap.size W W')
    (hok : ∀ (j : Nat) (t : TypeId) (r : Value), f.resultTypes[j]? = some t → (v.resultList f.resultTypes.size)[j]? = some r → Value.okWide P W' .any 0 t r) :
    s.post enc P f apart fresh handsOn again W args v W' := by
  have hlt : ∀ p ∈ before, p.block < W.heap.size := fun p hp => hW.lt p hp
  have hold : ∀ p ∈ before, (fun b => decide (b < W.heap.size)) p.block = true := fun p hp => by simpa using hlt p hp
  refine ⟨ds, gs, before, [], pa, pv, hW, hres _ _ _, hargs _ hold, hvars _ hold, World.keptBut_mono (fun p hp => ⟨hp, ?_⟩) (hb.frame (· ∈ before)), fun _ => ?_⟩
  · rw [hps, List.mem_append] at hp
    exact Or.inr hp
  · obtain ⟨_, _, _, _, _, hz, hn⟩ := hW
    refine ⟨hok, _, _, ([] ++ pa) ++ pv, ⟨[] ++ pa, pv, trodAll_append (hargs _ (fun _ _ => rfl)) (hres _ _ _), hvars _ (fun _ _ => rfl), rfl, ?_, ?_⟩, ?_⟩
    · intro b off hp
      have hin : MemPlace.cell b off ∈ before := by rw [hps]; simpa using hp
      rw [hb.frozen (hlt _ hin)]
      exact hz b off hin
    · intro ha
      have := hn ha
      rw [hps] at this
      simpa using this
    · intro p hp _
      rw [hps]
      simpa using hp
end

section
variable {H : Type} {enc : TypeId × Value → H} {P : Program} {w : World} {base : Nat} {held : Bool}
theorem weights_slice {t e : TypeId} {elems spare : List (DataW H)} (hu : P.underlying t = some (.slice e)) : (DataW.slice elems spare).weights P t = (elems.length + spare.length) * P.bytesOf e :: (DataW.weightsAll P e elems ++ DataW.weightsAll P e spare) := by
  simp [DataW.weights, hu]
theorem weightsAll_mem {e : TypeId} {d : DataW H} : ∀ {l : List (DataW H)}, d ∈ l → ∀ n ∈ d.weights P e, n ∈ DataW.weightsAll P e l
  | a :: l, h, n, hn => by
    simp only [DataW.weightsAll, List.mem_append]
    rcases List.mem_cons.1 h with rfl | h
    · exact .inl hn
    · exact .inr (weightsAll_mem h n hn)
theorem addr_add (b off j : Nat) : (⟨b, off, none⟩ : Addr).add j = ⟨b, off + j, none⟩ := by unfold Addr.add; split <;> simp_all
theorem reach_is : reachBytes = 140737488351232 := rfl
/-- a slice of whatever elements of one cell, opened -/
theorem open_hd {t e : TypeId} {fuel : Nat} {cs : List Value} {x : DataW H × List MemPlace} (ht : P.underlying t = some (.slice e)) (hc : P.cellsOf e = 1) (hb : 1 ≤ P.bytesOf e) (h : DataW.trod enc P w base (fun _ => true) held fuel t cs = some x) (hw : ∀ n ∈ x.1.weights P t, n ≤ reachBytes) :
    ∃ (oa : Option Addr) (len cap b off : Nat) (V : Nat → Value) (D : Nat → DataW H), cs = [.slice oa len cap] ∧ Hd w oa len cap b off ∧ ∀ i, i < len → w.cell? ⟨b, off + i, none⟩ = some (V i) ∧ (∃ n p, DataW.trod enc P w base (fun _ => true) held n e [V i] = some (D i, p)) ∧ ∀ n ∈ (D i).weights P e, n ≤ reachBytes := by
  rcases open_slice1 ht hc h with ⟨rfl, -⟩ | ⟨a, len, cap, m, n, V, D, Pl, rfl, -, hl, hm, hmm, rfl, hx⟩
  · exact ⟨none, 0, 0, 0, 0, fun _ => undef, fun _ => .nil, rfl, ⟨fun h => absurd h (Nat.lt_irrefl 0), Nat.le_refl _, by simp [maxLen], by simp, fun h => absurd h (Nat.lt_irrefl 0)⟩, fun i hi => absurd hi (Nat.not_lt_zero i)⟩
  · simp only [if_true] at hmm
    subst hmm
    have hwt := weights_slice (P := P) (elems := (List.range len).map D) (spare := (List.range (m - len)).map fun j => D (len + j)) ht
    simp only at hw
    rw [hwt] at hw
    have h1 := hw _ (List.mem_cons_self ..)
    simp only [List.length_map, List.length_range] at h1
    have h2 : m * 1 ≤ (len + (m - len)) * P.bytesOf e := Nat.mul_le_mul (by omega) hb
    rw [reach_is] at h1
    obtain ⟨ab, ao, asp⟩ := a
    have hsp : 0 < len → asp = none := fun h0 => by
      have h3 := (hx 0 (by omega)).1
      simpa [Addr.add] using World.cell?_spot h3
    refine ⟨some ⟨ab, ao, asp⟩, len, m, ab, ao, V, D, rfl, ⟨fun h0 => by rw [hsp h0], hl, hm, by omega, fun h0 => ?_⟩, fun i hi => ⟨?_, ⟨n, Pl i, (hx i (by omega)).2⟩, fun k hk => hw k (List.mem_cons_of_mem _ (List.mem_append_left _ (weightsAll_mem (List.mem_map.2 ⟨i, List.mem_range.2 hi, rfl⟩) k hk)))⟩⟩
    · have h3 := (hx 0 (by omega)).1
      have := World.block_lt_of_cell? _ _ h3
      simpa [Addr.add] using this
    · have h3 := (hx i (by omega)).1
      have h4 := hsp (by omega)
      subst h4
      rwa [addr_add] at h3
theorem open_IntsAt {t e : TypeId} {fuel : Nat} {cs : List Value} {x : DataW H × List MemPlace} (ht : P.underlying t = some (.slice e)) (he : P.underlying e = some (.int .i64)) (hc : P.cellsOf e = 1) (hb : 1 ≤ P.bytesOf e)
    (h : DataW.trod enc P w base (fun _ => true) held fuel t cs = some x) (hw : ∀ n ∈ x.1.weights P t, n ≤ reachBytes) : ∃ v l, cs = [v] ∧ IntsAt w v l := by
  obtain ⟨oa, len, cap, b, off, V, D, rfl, hd, hx⟩ := open_hd ht hc hb h hw
  have hV : ∀ i, i < len → ∃ z : Int, V i = .int .i64 z := fun i hi => by
    obtain ⟨-, ⟨n, p, h2⟩, -⟩ := hx i hi
    obtain ⟨k, e1, -, -⟩ := DataW.trod_int he h2
    exact ⟨k, by simpa using e1⟩
  obtain ⟨Z, hZ⟩ := choose_lt hV
  refine ⟨_, (List.range len).map Z, rfl, ?_⟩
  have hl : (ints ((List.range len).map Z)).length = len := by simp
  refine ⟨oa, cap, b, off, by rw [hl], by rw [hl]; exact hd, fun i hi => ?_⟩
  rw [hl] at hi
  rw [(hx i hi).1, hZ i hi, ints_getD _ _ (by simpa using hi)]
  simp [List.getD, hi]
theorem open_RowsAt {t e q : TypeId} {fuel : Nat} {cs : List Value} {x : DataW H × List MemPlace} (ht : P.underlying t = some (.slice e)) (he : P.underlying e = some (.slice q)) (hq : P.underlying q = some (.int .i64)) (hc : P.cellsOf e = 1) (hb : 1 ≤ P.bytesOf e) (hcq : P.cellsOf q = 1) (hbq : 1 ≤ P.bytesOf q)
    (h : DataW.trod enc P w base (fun _ => true) held fuel t cs = some x) (hw : ∀ n ∈ x.1.weights P t, n ≤ reachBytes) : ∃ v l, cs = [v] ∧ RowsAt w v l := by
  obtain ⟨oa, len, cap, b, off, V, D, rfl, hd, hx⟩ := open_hd ht hc hb h hw
  have hV : ∀ i, i < len → ∃ l : List Int, IntsAt w (V i) l := fun i hi => by
    obtain ⟨-, ⟨n, p, h2⟩, h3⟩ := hx i hi
    obtain ⟨v, l, e1, h4⟩ := open_IntsAt he hq hcq hbq h2 h3
    simp only [List.cons.injEq, and_true] at e1
    exact ⟨l, e1 ▸ h4⟩
  obtain ⟨Z, hZ⟩ := choose_lt hV
  refine ⟨_, (List.range len).map Z, rfl, (List.range len).map V, ⟨oa, cap, b, off, by simp, by simpa using hd, fun i hi => ?_⟩, by simp, fun i hi => ?_⟩
  · have hi' : i < len := by simpa using hi
    rw [(hx i hi').1]; simp [List.getD, hi']
  · have hi' : i < len := by simpa using hi
    have := hZ i hi'
    simpa [List.getD, hi'] using this
end

section
variable {H : Type} {enc : TypeId × Value → H} {w : World} {base : Nat} {held : Bool}
theorem open_ints {v : Value} {x : DataW H} {p : List MemPlace} {r : Reach} {b0 : Nat} (hv : Value.okWide Try.prog w r b0 22 v) (h : DataW.Trod enc Try.prog w base (fun _ => true) held 22 v x p) (hw : ∀ n ∈ x.weights Try.prog 22, n ≤ reachBytes) : ∃ l, IntsAt w v l := by
  obtain ⟨a0, len0, cap0, rfl⟩ := okWide_slice Try.underlying22 hv
  obtain ⟨fuel, hf⟩ := h
  have c5 : Try.prog.cellsOf 3 = 1 := by kernel_rfl
  have b5 : Try.prog.bytesOf 3 = 8 := by kernel_rfl
  obtain ⟨v', l, hcs, hI⟩ := open_IntsAt Try.underlying22 Try.underlying3 c5 (by rw [b5]; decide) hf hw
  have hcs' : Value.slice a0 len0 cap0 = v' := by
    have : [Value.slice a0 len0 cap0] = [v'] := hcs
    injection this
  rw [hcs']
  exact ⟨l, hI⟩
end
end Go.Cm
