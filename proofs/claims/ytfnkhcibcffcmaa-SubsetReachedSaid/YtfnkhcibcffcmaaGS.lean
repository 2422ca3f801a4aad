/- Texts of this claim, joined: walks of small functions and plain facts about them. Conditions: as each says. -/
import Derived.Test.YtfnkhcibcffcmaaGL
import Derived.Test.YtfnkhcibcffcmaaGR
/- An argument that is an automaton, opened. Conditions: none. -/
namespace Go.Cm
open Go.RowKit Go.Proofs Go.WideShapes Go.ChangeShapes Go.Deep

def EdW (x : Ed) : Prop := WQ x.a ∧ WQ x.b ∧ WQ x.c ∧ WQ x.d
theorem EdW.set {x : Ed} (h : EdW x) : SetW x := wq_setW h
instance : Inhabited Ed := ⟨⟨0, false, 0, 0, 0, 0⟩⟩
theorem list6 {α : Type} {l : List α} (h : l.length = 6) : ∃ a b c d e f, l = [a, b, c, d, e, f] := by
  match l, h with
  | [a, b, c, d, e, f], _ => exact ⟨a, b, c, d, e, f, rfl⟩
section
variable {H : Type} {enc : TypeId × Value → H} {w : World} {base : Nat} {held : Bool}
set_option maxRecDepth 10000 in
theorem open_edge {fuel : Nat} {cs : List Value} {y : DataW H × List MemPlace} (h : DataW.trod enc Try.prog w base (fun _ => true) held fuel 92 cs = some y) (hl : cs.length = 6) :
    ∃ x : Ed, cs = edC x ∧ EdW x := by
  obtain ⟨xs, n, -, -, -, hxl, hg⟩ := DataW.trod_struct Try.underlying92 h
  match xs, hxl with
  | [x0, x1, x2], _ =>
    have h0 := hg 0 _ rfl
    have h1 := hg 1 _ rfl
    have h2 := hg 2 _ rfl
    have cs4 : Try.prog.cellsOf 55 = 4 := by kernel_rfl
    have c3 : Try.prog.cellsOf 3 = 1 := by kernel_rfl
    have cb : Try.prog.cellsOf 4 = 1 := by kernel_rfl
    simp only [List.getElem?_cons_zero, List.getElem?_cons_succ] at h0 h1 h2
    change DataW.trod enc Try.prog w base (fun _ => true) held n 3 ((cs.drop 0).take (Try.prog.cellsOf 3)) = some x0 at h0
    change DataW.trod enc Try.prog w base (fun _ => true) held n 4 ((cs.drop 1).take (Try.prog.cellsOf 4)) = some x1 at h1
    change DataW.trod enc Try.prog w base (fun _ => true) held n 55 ((cs.drop 2).take (Try.prog.cellsOf 55)) = some x2 at h2
    obtain ⟨k0, e0, -, -⟩ := DataW.trod_int Try.underlying3 h0
    obtain ⟨k1, e1, -⟩ := DataW.trod_bool Try.underlying4 h1
    obtain ⟨a, b, c, d, e2, ha, hb, hc, hd⟩ := open_set h2 (by rw [cs4]; simp; omega)
    rw [c3] at e0
    rw [cb] at e1
    rw [cs4] at e2
    obtain ⟨q0, q1, q2, q3, q4, q5, rfl⟩ := list6 hl
    simp at e0 e1 e2
    obtain ⟨rfl, rfl, rfl, rfl⟩ := e2
    subst e0 e1
    exact ⟨⟨k0, k1, a, b, c, d⟩, rfl, ha, hb, hc, hd⟩
set_option maxRecDepth 10000 in
theorem open_edgeRow {fuel : Nat} {cs : List Value} {x : DataW H × List MemPlace} (h : DataW.trod enc Try.prog w base (fun _ => true) held fuel 85 cs = some x) (hw : ∀ n ∈ x.1.weights Try.prog 85, n ≤ reachBytes) : ∃ (v : Value) (l : List Ed), cs = [v] ∧ SlK 6 w v (l.map edC) ∧ ∀ z ∈ l, EdW z := by
  have c6 : Try.prog.cellsOf 92 = 6 := by kernel_rfl
  have b6 : Try.prog.bytesOf 92 = 48 := by kernel_rfl
  obtain ⟨oa, len, cap, b, off, C, D, rfl, hd, hx⟩ := open_hdK 6 (by decide) Try.underlying85 c6 (by rw [b6]; decide) h hw
  have hN : ∀ i, i < len → ∃ z : Ed, C i = edC z ∧ EdW z := fun i hi => by
    obtain ⟨hl, -, ⟨n, p, h2⟩, -⟩ := hx i hi
    exact open_edge h2 hl
  obtain ⟨Z, hZ⟩ := choose_lt hN
  refine ⟨_, (List.range len).map Z, rfl, ⟨oa, cap, b, off, by simp, by simpa using hd, fun i hi c hcl => ?_⟩, fun z hz => ?_⟩
  · have hi' : i < len := by simpa using hi
    rw [(hx i hi').2.1 c hcl, (hZ i hi').1]
    simp [List.getD, hi']
  · obtain ⟨i, hi, rfl⟩ := List.mem_map.1 hz
    exact (hZ i (List.mem_range.1 hi)).2
set_option maxRecDepth 10000 in
theorem open_edges {fuel : Nat} {cs : List Value} {x : DataW H × List MemPlace} (h : DataW.trod enc Try.prog w base (fun _ => true) held fuel 22 cs = some x) (hw : ∀ n ∈ x.1.weights Try.prog 22, n ≤ reachBytes) : ∃ v ll, cs = [v] ∧ EdgesAt w v ll ∧ ∀ a x, x ∈ Row ll a → EdW x := by
  have c1 : Try.prog.cellsOf 85 = 1 := by kernel_rfl
  have b1 : Try.prog.bytesOf 85 = 24 := by kernel_rfl
  obtain ⟨oa, len, cap, b, off, V, D, rfl, hd, hx⟩ := open_hd Try.underlying22 c1 (by rw [b1]; decide) h hw
  have hV : ∀ i, i < len → ∃ l : List Ed, SlK 6 w (V i) (l.map edC) ∧ ∀ z ∈ l, EdW z := fun i hi => by
    obtain ⟨-, ⟨n, p, h2⟩, h3⟩ := hx i hi
    obtain ⟨v, l, e1, h4, h5⟩ := open_edgeRow h2 h3
    simp only [List.cons.injEq, and_true] at e1
    exact ⟨l, e1 ▸ h4, h5⟩
  obtain ⟨Z, hZ⟩ := choose_lt hV
  refine ⟨_, (List.range len).map Z, rfl, ⟨(List.range len).map V, ⟨oa, cap, b, off, by simp, by simpa using hd, fun i hi => ?_⟩, by simp, fun i hi => ?_⟩, fun a z hz => ?_⟩
  · have hi' : i < len := by simpa using hi
    rw [(hx i hi').1]; simp [List.getD, hi']
  · have hi' : i < len := by simpa using hi
    have := (hZ i hi').1
    simpa [List.getD, hi'] using this
  · unfold Row at hz
    by_cases ha : a < len
    · have e1 : ((List.range len).map Z).getD a [] = Z a := by simp [List.getD, ha]
      rw [e1] at hz
      exact (hZ a ha).2 z hz
    · have e1 : ((List.range len).map Z).getD a [] = [] := by simp [List.getD, ha]
      rw [e1] at hz
      cases hz
set_option maxRecDepth 10000 in
theorem open_nfa {v : Value} {x : DataW H} {p : List MemPlace} {r : Reach} {b0 : Nat} (hv : Value.okWide Try.prog w r b0 25 v) (h : DataW.Trod enc Try.prog w base (fun _ => true) held 25 v x p) (hw : ∀ n ∈ x.weights Try.prog 25, n ≤ reachBytes) :
    ∃ A e F r, v = .agg A ∧ NfaV w A e F r ∧ ∀ a x, x ∈ Row e a → EdW x := by
  obtain ⟨A, rfl, hsz⟩ := okWide_struct Try.underlying25 hv
  obtain ⟨fuel, hf⟩ := h
  obtain ⟨xs, n, -, hx, hlen, hxl, hg⟩ := DataW.trod_struct Try.underlying25 hf
  have hs : A.size = 3 := hsz.trans (by kernel_rfl)
  simp only [Prod.mk.injEq] at hx
  obtain ⟨hx1, -⟩ := hx
  match xs, hxl with
  | [x0, x1, x2], _ =>
    have h0 := hg 0 _ rfl
    have h1 := hg 1 _ rfl
    have h2 := hg 2 _ rfl
    have c25 : Try.prog.cellsOf 22 = 1 := by kernel_rfl
    have c24 : Try.prog.cellsOf 23 = 1 := by kernel_rfl
    have c3 : Try.prog.cellsOf 3 = 1 := by kernel_rfl
    have b3 : Try.prog.bytesOf 3 = 8 := by kernel_rfl
    simp only [List.getElem?_cons_zero, List.getElem?_cons_succ] at h0 h1 h2
    have hwx : ∀ n ∈ DataW.weightsEach Try.prog [22, 3, 23] [x0.1, x1.1, x2.1], n ≤ reachBytes := fun k hk => hw k (by
      rw [hx1]
      simpa [DataW.weights, Try.underlying25] using hk)
    have hw0 : ∀ n ∈ x0.1.weights Try.prog 22, n ≤ reachBytes := fun k hk => hwx k (DataW.weights_mem_each (j := 0) rfl rfl k hk)
    have hw2 : ∀ n ∈ x2.1.weights Try.prog 23, n ≤ reachBytes := fun k hk => hwx k (DataW.weights_mem_each (j := 2) rfl rfl k hk)
    obtain ⟨u0, e, e0, he, hsw⟩ := open_edges h0 hw0
    obtain ⟨F, ef, -, -⟩ := DataW.trod_int Try.underlying3 h1
    obtain ⟨u2, r, e2, hr⟩ := open_IntsAt Try.underlying23 Try.underlying3 c3 (by rw [b3]; decide) h2 hw2
    refine ⟨A, e, F, r, rfl, ⟨u0, u2, ?_, he, hr⟩, hsw⟩
    have q0 : A[0]? = some u0 := by
      have e := congrArg (fun l => l[0]?) e0
      simpa [c25, Value.cells] using e
    have q1 : A[1]? = some (.int .i64 F) := by
      have e := congrArg (fun l => l[0]?) ef
      simpa [c3, Value.cells] using e
    have q2 : A[2]? = some u2 := by
      have e := congrArg (fun l => l[0]?) e2
      simpa [c24, Value.cells] using e
    refine Array.ext (by rw [hs]; rfl) fun i hi hi2 => ?_
    have hi3 : i < 3 := by omega
    have hq : A[i]? = (#[u0, .int .i64 F, u2] : Array Value)[i]? := by
      match i, hi3 with
      | 0, _ => rw [q0]; rfl
      | 1, _ => rw [q1]; rfl
      | 2, _ => rw [q2]; rfl
      | i + 3, h => omega
    rw [Array.getElem?_eq_getElem hi, Array.getElem?_eq_getElem hi2] at hq
    exact Option.some.inj hq
end
end Go.Cm
