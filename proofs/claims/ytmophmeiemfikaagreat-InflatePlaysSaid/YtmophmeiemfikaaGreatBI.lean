/- Texts of this claim, joined: walks of small functions and plain facts about them. Conditions: as each says. -/
import Derived.Test.YtmophmeiemfikaaGreatBH
import Derived.Test.YtmophmeiemfikaaGreatRows
import Derived.WalkKit
import Derived.WalkSpells
import Derived.WalkLawsBesides
import Derived.Deep.QuietTactic
import Derived.BigQuiet
import Derived.Lib.Hide
import Derived.Laws.BitsLemmas
import Derived.Deep.LoopGhost
import Derived.Laws.Small
import Derived.Deep.DeepCutAuto
/- A region that draws its order, by a script: looks that are taken first, and branches where several operations may come next. Conditions: none. -/
namespace Go.Cm
open Go.RowKit

inductive Scr where
  | done
  | q (i : Nat) (s : Scr)
  | br (i : Nat) (s : Scr) (t : Scr)
  | no
def Scr.heads : Scr → List Nat
  | .br i _ t => i :: t.heads
  | _ => []
def Scr.run (md : Region.Mode) (ops : Array Oper) : Scr → Bool → Nat → Array Bool → Bool
  | .done, top, n, listed => top && n == 0 && Region.ready md ops listed == []
  | .q i s, top, n, listed => top && decide (0 < n) && (Region.ready md ops listed).contains i && Region.free md ops listed i && ((ops[i]?).map (fun o => noCall o.op)).getD false && s.run md ops true (n - 1) (listed.setIfInBounds i true)
  | .br i s t, top, n, listed => (!top || Region.ready md ops listed == i :: t.heads) && decide (0 < n) && ((ops[i]?).isSome) && s.run md ops true (n - 1) (listed.setIfInBounds i true) && t.run md ops false n listed
  | .no, top, _, _ => !top
/-- one after the other -/
def Scr.as : List Nat → Scr → Scr
  | [], s => s
  | i :: r, s => .br i (Scr.as r s) .no
section
variable {P : Program} {ops : Array Oper} {md : Region.Mode} {C : World → Prop}
def wpScr (P : Program) (ops : Array Oper) (C : World → Prop) (Q : Act → World → Prop) : Scr → Act → World → Prop
  | .done, a, w => Q a w
  | .q i s, a, w => wpQuiet P ops C (fun a' => wpScr P ops C Q s a' w) (pick ops.toList [i]) a
  | .br i s t, a, w => wpAct P ops C (wpScr P ops C Q s) (pick ops.toList [i]) a w ∧ wpScr P ops C Q t a w
  | .no, _, _ => True
theorem pick_one {i : Nat} {o : Oper} (ho : ops[i]? = some o) : pick ops.toList [i] = [o] := by
  have hol : ops.toList.getD i default = o := by rw [List.getD_eq_getElem?_getD, Array.getElem?_toList, ho]; rfl
  show [ops.toList.getD i default] = [o]
  rw [hol]
theorem wpOp_of_act {K : Act → World → Prop} {K' : Act → World → Prop} {i : Nat} {o : Oper} {a : Act} {w : World} (ho : ops[i]? = some o) (h : wpAct P ops C K [o] a w) (hk : ∀ a w, C w → K a w → K' a w) : wpOp P ops noQ i K' a w := by
  have h' : wpList P ops (actQ C (wpAct P ops C K [])) [o] a w := h
  unfold wpList at h'
  unfold wpOp
  simp only [ho]
  split
  · rename_i hw
    rw [if_pos hw] at h'
    rcases h' with h' | ⟨-, h'⟩
    · refine .inl (Oper.wp_mono ?_ (wp_exits (fun _ _ _ h => h) actQ_out h'))
      intro a' w' hh
      obtain ⟨hC', hk'⟩ := (hh : actQ C (wpAct P ops C K []) .normal a' w')
      exact hk a' w' hC' hk'
    · exact (actQ_out h').elim
  · rename_i hw
    rw [if_neg hw] at h'
    obtain ⟨hC', hk'⟩ := (h' : actQ C (wpAct P ops C K []) .normal (a.put o.dst undef) w)
    exact hk _ _ hC' hk'
theorem wpAnyM_scr {Q : Act → World → Prop} (hs : Region.noSelect ops = true) : ∀ (s : Scr) (n : Nat) (listed : Array Bool) (a : Act) (w : World), C w → wpScr P ops C Q s a w →
    (s.run md ops true n listed = true → wpAnyM P md ops C Q n listed a w) ∧
    (s.run md ops false n listed = true → ∀ j ∈ s.heads, ∃ m, n = m + 1 ∧ wpOp P ops noQ j (wpAnyM P md ops C Q m (listed.setIfInBounds j true)) a w) := by
  intro s
  induction s with
  | done =>
    intro n listed a w hC h
    refine ⟨fun hB => ?_, fun _ j hj => by cases hj⟩
    simp only [Scr.run, Bool.true_and, Bool.and_eq_true, beq_iff_eq] at hB
    obtain ⟨rfl, hr⟩ := hB
    exact ⟨hC, hr, h⟩
  | no =>
    intro n listed a w hC h
    exact ⟨fun hB => by simp [Scr.run] at hB, fun _ j hj => by cases hj⟩
  | q i s ih =>
    intro n listed a w hC h
    refine ⟨fun hB => ?_, fun _ j hj => by cases hj⟩
    simp only [Scr.run, Bool.true_and, Bool.and_eq_true, decide_eq_true_eq] at hB
    obtain ⟨⟨⟨⟨h0, hr⟩, hf⟩, hn⟩, hB'⟩ := hB
    obtain ⟨m, rfl⟩ : ∃ m, n = m + 1 := ⟨n - 1, by omega⟩
    have him : i ∈ Region.ready md ops listed := by simpa using hr
    obtain ⟨_, o, ho, _⟩ := mem_ready.1 him
    have hn' : noCall o.op = true := by simpa [ho] using hn
    have h' : wpQuiet P ops C (fun a' => wpScr P ops C Q s a' w) [o] a := by
      have := h; unfold wpScr at this; rwa [pick_one ho] at this
    obtain ⟨v, hy, hK⟩ := yin_of_qOp (K := wpQuiet P ops C (fun a' => wpScr P ops C Q s a' w) []) hn' h'
    exact wpAnyM_first ho (Region.noSelect_spec hs) _ listed a w (Region.free_spec ho hf) him hy ((ih m _ _ w hC hK).1 hB')
  | br i s t ihs iht =>
    intro n listed a w hC h
    obtain ⟨h1, h2⟩ := h
    have key : s.run md ops true (n - 1) (listed.setIfInBounds i true) = true → (ops[i]?).isSome = true → 0 < n → t.run md ops false n listed = true → ∀ j ∈ (Scr.br i s t).heads, ∃ m, n = m + 1 ∧ wpOp P ops noQ j (wpAnyM P md ops C Q m (listed.setIfInBounds j true)) a w := by
      intro hB1 hsome h0 hB2 j hj
      obtain ⟨m, rfl⟩ : ∃ m, n = m + 1 := ⟨n - 1, by omega⟩
      rcases List.mem_cons.1 hj with rfl | hj
      · obtain ⟨o, ho⟩ := Option.isSome_iff_exists.1 hsome
        rw [pick_one ho] at h1
        exact ⟨m, rfl, wpOp_of_act ho h1 fun a' w' hC' hk => (ihs m _ a' w' hC' hk).1 hB1⟩
      · exact (iht (m + 1) listed a w hC h2).2 hB2 j hj
    constructor
    · intro hB
      simp only [Scr.run, Bool.not_true, Bool.false_or, Bool.and_eq_true, beq_iff_eq, decide_eq_true_eq] at hB
      obtain ⟨⟨⟨⟨hr, h0⟩, hsome⟩, hB1⟩, hB2⟩ := hB
      obtain ⟨m, rfl⟩ : ∃ m, n = m + 1 := ⟨n - 1, by omega⟩
      refine ⟨hC, fun h0 => (by rw [hr] at h0; cases h0), fun j hj => ?_⟩
      rw [hr] at hj
      obtain ⟨m', hm, hw⟩ := key hB1 hsome h0 hB2 j hj
      obtain rfl : m = m' := by omega
      exact hw
    · intro hB
      simp only [Scr.run, Bool.not_false, Bool.true_or, Bool.true_and, Bool.and_eq_true, decide_eq_true_eq] at hB
      obtain ⟨⟨⟨h0, hsome⟩, hB1⟩, hB2⟩ := hB
      exact key hB1 hsome h0 hB2
def scrB (md : Region.Mode) (ops : Array Oper) (s : Scr) : Bool := Region.noSelect ops && s.run md ops true ops.size (Array.replicate ops.size false)
/-- THE REGION by a script -/
theorem wp_region_scr {id : Nat} {Q : Exit → Act → World → Prop} {a : Act} {w : World} {l : List Oper} (C : World → Prop) (s : Scr) (hm : P.follows .mixedOrders = true) (hB : scrB .any l.toArray s = true) (hC : C w.drew)
    (h : wpScr P l.toArray C (fun a'' w'' => C w'' → Q .normal a'' w'') s a w.drew) : (Code.region id l.toArray true).wp P Q a w := by
  simp only [scrB, Bool.and_eq_true] at hB
  obtain ⟨hs, hB⟩ := hB
  refine wp_region_any hm ?_
  have h1 := (wpAnyM_scr (Q := fun a'' w'' => C w'' → Q .normal a'' w'') (md := .any) hs s l.toArray.size (Array.replicate l.toArray.size false) a w.drew hC h).1 hB
  exact wpAny_of_M (fun a w hC hq => hq hC) _ _ _ _ h1
end
end Go.Cm

/- Parts of slices, tables that stay, lengths of rows. Conditions: none. -/
namespace Go.Cm
open Go.RowKit Go.Proofs

theorem run_cut {P : Program} (t E : TypeId) (ht : P.underlying t = some (.slice E)) (hE : (P.info? E).map (·.size) = some 1) : P.underlying t = some (.slice (P.elem t)) ∧ ∀ W : World, (sizeOf (P.elem t)).run P W = .ok 1 W := by
  have he : P.elem t = E := by simp [Program.elem, ht]
  refine ⟨by rw [he]; exact ht, fun W => ?_⟩
  rw [he]
  cases hq : P.info? E with
  | none => simp [hq] at hE
  | some inf =>
    have : inf.size = 1 := by simpa [hq] using hE
    simp [sizeOf, typeInfo, hq, this]
/-- the first n of a slice -/
theorem Sl.low {P : Program} {w : World} {v : Value} {l : List Value} (h : Sl w v l) (t E : TypeId) (ht : P.underlying t = some (.slice E)) (hE : (P.info? E).map (·.size) = some 1) (n : Nat) (hn : n ≤ l.length) :
    ∃ u, (∀ W : World, (Instr.sliceAt t v none (some (.int .i64 (n : Int))) none).run P W = .ok u W) ∧ Sl w u (l.take n) := by
  obtain ⟨oa, cap, b, off, rfl, hd, hc⟩ := h
  obtain ⟨h1, h2⟩ := run_cut t E ht hE
  have hcap := hd.hcap
  have hl : (l.take n).length = n := by rw [List.length_take]; omega
  refine ⟨sliced oa 0 n cap 1, fun W => ?_, ?_⟩
  · rw [run_sliceAt_slice (P := P) (t := t) (h := h1), run_slice_h (t := t) (ht := h1) (h0 := by omega) (h2 := by omega), h2]
    simp [Result.andThen]
  · refine ⟨if cap = 0 then oa else oa.map (·.add (0 * 1)), cap, b, off, by rw [hl]; simp [sliced], ⟨fun h0 => ?_, by omega, hd.hmax, by have := hd.hsml; omega, fun h0 => hd.hblk (by omega)⟩, fun i hi => ?_⟩
    · rw [hl] at h0
      rw [if_neg (by omega), hd.hat (by omega)]
      simp [add_off]
    · rw [hl] at hi
      rw [hc i (by omega)]
      simp [List.getD, hi]
/-- a slice from n on -/
theorem Sl.high {P : Program} {w : World} {v : Value} {l : List Value} (h : Sl w v l) (t E : TypeId) (ht : P.underlying t = some (.slice E)) (hE : (P.info? E).map (·.size) = some 1) (n : Nat) (hn : n ≤ l.length) :
    ∃ u, (∀ W : World, (Instr.sliceAt t v (some (.int .i64 (n : Int))) none none).run P W = .ok u W) ∧ Sl w u (l.drop n) := by
  obtain ⟨oa, cap, b, off, rfl, hd, hc⟩ := h
  obtain ⟨h1, h2⟩ := run_cut t E ht hE
  have hcap := hd.hcap
  have hl : (l.drop n).length = l.length - n := by rw [List.length_drop]
  refine ⟨sliced oa n l.length cap 1, fun W => ?_, ?_⟩
  · rw [run_sliceAt_slice (P := P) (t := t) (h := h1), run_slice_l (t := t) (ht := h1) (h0 := by omega) (h1 := by omega), h2]
    simp [Result.andThen]
  · refine ⟨if cap = n then oa else oa.map (·.add (n * 1)), cap - n, b, off + n, by rw [hl]; simp [sliced], ⟨fun h0 => ?_, by omega, by have := hd.hmax; omega, by have := hd.hsml; omega, fun h0 => hd.hblk (by omega)⟩, fun i hi => ?_⟩
    · rw [hl] at h0
      rw [if_neg (by omega), hd.hat (by omega)]
      simp [add_off]
    · rw [hl] at hi
      rw [Nat.add_assoc, hc (n + i) (by omega)]
      simp [List.getD]
theorem ints_take (l : List Nat) (n : Nat) : (ints (nls l)).take n = ints (nls (l.take n)) := by simp [ints, nls, List.map_take]
theorem ints_drop (l : List Nat) (n : Nat) : (ints (nls l)).drop n = ints (nls (l.drop n)) := by simp [ints, nls, List.map_drop]
theorem ints_nls_len (l : List Nat) : (ints (nls l)).length = l.length := by simp [ints, nls]
theorem Fx.ownB {S : Nat → Prop} {w w' : World} {B E : Nat} {v : Value} {xs : List Value} (h : Fx S w w') (ho : Own w B E v xs) (hS : ∀ k, S k → k < B) : Own w' B E v xs :=
  h.own ho (fun k hk hs => by have := (ho.lt k hk).1; have := hS k hs; omega)
theorem TabAt.fx {S : Nat → Prop} {w w' : World} {B g : Nat} {L : List Nat} (h : TabAt w B g L) (hf : Fx S w w') (hS : ∀ k, S k → k < B) : TabAt w' B g L := by
  obtain ⟨E, fs, vf, hM, hok⟩ := h
  exact ⟨E, fs, vf, ⟨hf.ownB hM.box hS, hf.ownB hM.outer hS, hM.ne, fun k f hk => ⟨hf.ownB (hM.rows k f hk).1 hS, (hM.rows k f hk).2⟩, hM.apart⟩, hok⟩
theorem fitsE_le (l : List Int) (o : Bool) : fitsE l o ≤ 64 := by
  have hw : wrongI l ≤ 3 := by
    unfold wrongI
    split
    · omega
    · split <;> omega
  have he : errI l ≤ 7 := by
    unfold errI
    split
    · omega
    · split <;> omega
  unfold fitsE
  split
  · omega
  · split
    · omega
    · split
      · omega
      · split <;> omega
theorem fits2_le (a b : List Nat) : fits2 a b ≤ 64 := by
  have h1 := fitsE_le (nls a) true
  have h2 := fitsE_le (nls b) true
  unfold fits2
  split
  · omega
  · split <;> omega
theorem rowN_len (N T : Nat) (L : List Nat) (n : Nat) : ∀ (f : Nat) (l : List Nat) (st : Nat × Nat), l.length ≤ n → n - l.length < f → (rowN N T L n f l st).2.1 = 0 → (rowN N T L n f l st).1.length = n := by
  intro f
  induction f with
  | zero => intro l st h1 h2; omega
  | succ f ih =>
    intro l st h1 h2 h
    by_cases hc : st.1 = 0 ∧ l.length < n
    · obtain ⟨en, p⟩ := st
      obtain ⟨h0, hlt⟩ := hc
      simp only at h0; subst h0
      rw [rowN_step N T L n f l p hlt] at h ⊢
      obtain ⟨f1, -, -, -⟩ := readF_facts L (N / 2 ^ p) (T - p)
      generalize readF L (N / 2 ^ p) (T - p) = r at *
      unfold rowStep at h ⊢
      by_cases h1' : r.2.1 ≠ 0
      · rw [if_pos h1'] at h; exact absurd h h1'
      · rw [if_neg h1'] at h ⊢
        by_cases h3 : r.1 < 16
        · rw [if_pos h3] at h ⊢
          exact ih _ _ (by simp; omega) (by simp; omega) h
        · rw [if_neg h3] at h ⊢
          have hrp := rep_pos N T r.1 l (p + r.2.2)
          generalize repN N T r.1 l (0, p + r.2.2) = m at *
          by_cases h4 : n < l.length + m.1
          · rw [if_pos h4] at h
            exfalso
            by_cases h5 : m.2.2.1 = 0
            · unfold xf at h; rw [if_pos h5] at h; cases h
            · rw [xf_of h5] at h; exact h5 h
          · rw [if_neg h4] at h ⊢
            by_cases h5 : m.2.2.1 = 0
            · have := hrp h5
              exact ih _ _ (by simp; omega) (by simp; omega) h
            · exfalso
              rw [rowN_stop _ _ _ _ _ _ _ (fun z => h5 z.1)] at h
              exact h5 h
    · rw [rowN_stop _ _ _ _ _ _ _ hc] at h ⊢
      simp only at h ⊢
      have : ¬ l.length < n := fun z => hc ⟨h, z⟩
      omega
theorem codeK_len (N T c : Nat) (x : List Nat × (Nat × Nat)) : ∀ k, (codeK N T c k x).1.length = x.1.length
  | 0 => rfl
  | k + 1 => by
    rw [codeK]; split
    · simp only [List.length_set]; exact codeK_len N T c x k
    · exact codeK_len N T c x k
end Go.Cm

/- The walk of the source's dynamic head. Conditions: the source and the head are there. -/
namespace Go.Cm
open Go.RowKit Go.Proofs

theorem run_index_arr {P : Program} (T E n : Nat) (hT : P.underlying T = some (.array n E)) (hE : P.underlying E = some (.int .i64)) (hs : (P.info? E).map (·.size) = some 1) (A : Array Value) (j : Nat) (hj : j < n) (v : Value) (hv : A[j]? = some v) :
    ∀ W : World, (Instr.index T (.agg A) (.int .i64 (j : Int))).run P W = .ok v W := by
  intro W
  have hsz : (sizeOf E).run P W = .ok 1 W := by
    cases hq : P.info? E with
    | none => simp [hq] at hs
    | some inf =>
      have : inf.size = 1 := by simpa [hq] using hs
      simp [sizeOf, typeInfo, hq, this]
  have hag : (isAgg E).run P W = .ok false W := by unfold isAgg; rw [Sem.run_bind, run_underlying hE]; rfl
  have hc : (0 : Int) ≤ (j : Int) ∧ (j : Int) < ((n : Nat) : Int) := by omega
  simp only [Instr.index, asIntOf, Sem.run_bind, Sem.run_pure, Result.andThen_ok, run_underlying hT]
  rw [if_pos hc]
  simp only [Sem.run_bind, hsz, Result.andThen_ok, part, hag, Int.toNat_natCast, Nat.mul_one, hv]
  rfl
theorem ordN_lt (j : Nat) : ordN.getD j 0 < 19 := by
  by_cases h : j < 19
  · have : ∀ j, j < 19 → ordN.getD j 0 < 19 := by decide
    exact this j h
  · rw [List.getD_eq_getElem?_getD, List.getElem?_eq_none (by show 19 ≤ j; omega)]; decide
theorem ordA (j : Nat) (h : j < 19) : ((ints (nls ordN)).toArray)[j]? = some (.int .i64 (ordN.getD j 0 : Nat)) := by
  have hl : j < ordN.length := h
  simp [ints, nls, List.getD, hl]
theorem codeK_step (N T c k : Nat) (x : List Nat × (Nat × Nat)) : codeK N T c (k + 1) x = if k < 4 + c ∧ (codeK N T c k x).2.1 = 0 then ((codeK N T c k x).1.set (ordN.getD k 0) (xb N T 3 (codeK N T c k x).2).1, (xb N T 3 (codeK N T c k x).2).2) else codeK N T c k x := rfl
set_option maxRecDepth 100000 in
set_option maxHeartbeats 4000000 in
theorem dynamicS {w : World} {q g b p k z : Nat} {s : ByteArray} {fin : Bool} (h : SrcT w q g s (0, p)) (hh : BoxH w b fin k z (.slice none 0 0) (.slice none 0 0)) (hq : q ≠ b) (hg : g ≠ b) (hs : s.size ≤ 4294967296) :
    Calls Tryz.prog 59 #[.pointer (some ⟨q, 0, none⟩), .pointer (some ⟨b, 0, none⟩)] w fun e w' => e = .returned (.tuple #[]) ∧ SrcT w' q g s (dynN (numS s) (8 * s.size) (0, p)).2.2 ∧ Three q g b w w' ∧
      ∃ v1 v2, BoxH w' b fin k z v1 v2 ∧ ((dynN (numS s) (8 * s.size) (0, p)).2.2.1 = 0 → Own w' w.heap.size 3 v1 (ints (nls (dynN (numS s) (8 * s.size) (0, p)).1)) ∧ Own w' w.heap.size 3 v2 (ints (nls (dynN (numS s) (8 * s.size) (0, p)).2.1))) := by
  have HT := Lib.hid h
  have HH := Lib.hid hh
  have hqw := h.src.lt
  have hbw := hh.lt
  have hgw := h.box.lt
  have HSB := Lib.hid (fun (W : World) (st : Nat × Nat) (n : Nat) (hn : n ≤ 32) (h : SrcT W q g s st) => srcBits h hs n hn)
  have HXL := Lib.hid (fun st n => xb_lt (numS s) (8 * s.size) n st)
  have HFA := Lib.hid (fun (W : World) (st : Nat × Nat) (er : Nat) (he : er ≤ 64) (h : SrcT W q g s st) => failS h er he)
  have HRS := Lib.hid (fun (W : World) (gt : Nat) (st : Nat × Nat) (h : SrcT W q g s st) => rowS (gt := gt) h hs)
  have HRP := Lib.hid (fun (W : World) (B gt p : Nat) (L : List Nat) (hT : TabAt W B gt L) (h15 : ∀ x ∈ L, x ≤ 15) (h : BoxS W g s p) (hp : p ≤ 8 * s.size) => readP hT h h15 hs hp)
  obtain ⟨D, hD⟩ : ∃ D, D = dynN (numS s) (8 * s.size) (0, p) := ⟨_, rfl⟩
  rw [← hD]
  unfold dynN at hD
  clear h hh
  generalize hNN : numS s = N at HSB HXL hD
  generalize hTT : 8 * s.size = T at HSB HXL hD
  have HNN := Lib.hid hNN
  have HTT := Lib.hid hTT
  clear hNN hTT
  obtain ⟨r1, h1⟩ : ∃ r1, r1 = xb N T 5 (0, p) := ⟨_, rfl⟩
  rw [← h1] at hD
  obtain ⟨r2, h2⟩ : ∃ r2, r2 = xb N T 5 r1.2 := ⟨_, rfl⟩
  rw [← h2] at hD
  obtain ⟨r3, h3⟩ : ∃ r3, r3 = xb N T 4 r2.2 := ⟨_, rfl⟩
  rw [← h3] at hD
  have hx1 := HXL.out (0, p) 5
  have hx2 := HXL.out r1.2 5
  have hx3 := HXL.out r2.2 4
  have HB1 := Lib.hid (fun W h => HSB.out W (0, p) 5 (by omega) h)
  have HB2 := Lib.hid (fun W h => HSB.out W r1.2 5 (by omega) h)
  have HB3 := Lib.hid (fun W h => HSB.out W r2.2 4 (by omega) h)
  have HB4 : Hid (∀ (W : World) (st : Nat × Nat), SrcT W q g s st → Calls Tryz.prog 55 #[.pointer (some ⟨q, 0, none⟩), .int .i64 3] W fun e w' => e = .returned (.int .i64 ((xb N T 3 st).1 : Nat)) ∧ SrcT w' q g s (xb N T 3 st).2 ∧ Two q g W w') := Lib.hid (fun W st h => HSB.out W st 3 (by omega) h)
  rw [← h1] at HB1 hx1
  rw [← h2] at HB2 hx2
  rw [← h3] at HB3 hx3
  rw [show ((5 : Nat) : Int) = 5 from rfl] at HB1 HB2
  rw [show ((4 : Nat) : Int) = 4 from rfl] at HB3
  clear h1 h2 h3 HSB
  obtain ⟨a, s1⟩ := r1
  obtain ⟨d, s2⟩ := r2
  obtain ⟨c, s3⟩ := r3
  simp only at hx1 hx2 hx3 hD
  unfold dynM at hD
  obtain ⟨la, hla⟩ : ∃ la, la = 257 + a := ⟨_, rfl⟩
  obtain ⟨lb, hlb⟩ : ∃ lb, lb = 1 + d := ⟨_, rfl⟩
  obtain ⟨st4, h4⟩ : ∃ st4, st4 = if 286 < la ∨ 30 < lb then xf 3 s3 else s3 := ⟨_, rfl⟩
  rw [← hla, ← hlb, ← h4] at hD
  have HD := Lib.hid hD
  have HLA := Lib.hid hla
  have HLB := Lib.hid hlb
  have H4 := Lib.hid h4
  have H4E : Hid (st4.1 = 0 → la ≤ 286 ∧ lb ≤ 30) := Lib.hid (fun h => by
    by_cases hc : 286 < la ∨ 30 < lb
    · exfalso
      rw [h4, if_pos hc] at h
      by_cases h0 : s3.1 = 0
      · unfold xf at h; rw [if_pos h0] at h; cases h
      · rw [xf_of h0] at h; exact h0 h
    · omega)
  clear hD hla hlb h4
  go_enter Tryz.func59, Tryz.ntmps59
  go_upto_region 1 with (go_at_call 55; first | ((with_reducible refine (HB1.out w HT.out).mono ?_); rintro e w1 ⟨rfl, hb1, hb2⟩; (have HS1 := Lib.hid hb1; have HF1 := Lib.hid (Three.of2 (b := b) hb2); have HH1 := Lib.hid (HH.out.fx hb2 (fun e => e.elim (fun e => hq e.symm) (fun e => hg e.symm))); clear hb1 hb2 HB1)) | ((with_reducible refine (HB2.out w1 HS1.out).mono ?_); rintro e w2 ⟨rfl, hb1, hb2⟩; (have HS2 := Lib.hid hb1; have HF2 := Lib.hid (HF1.out.trans (Three.of2 hb2)); have HH2 := Lib.hid (HH1.out.fx hb2 (fun e => e.elim (fun e => hq e.symm) (fun e => hg e.symm))); clear hb1 hb2 HB2)) | ((with_reducible refine (HB3.out w2 HS2.out).mono ?_); rintro e w3 ⟨rfl, hb1, hb2⟩; (have HS3 := Lib.hid hb1; have HF3 := Lib.hid (HF2.out.trans (Three.of2 hb2)); have HH3 := Lib.hid (HH2.out.fx hb2 (fun e => e.elim (fun e => hq e.symm) (fun e => hg e.symm))); clear hb1 hb2 HB3)))
  clear HS1 HF1 HH1 HS2 HF2 HH2
  rw [show (257 : Int) + (a : Int) = (la : Int) by rw [HLA.out]; go_num, show (1 : Int) + (d : Int) = (lb : Int) by rw [HLB.out]; go_num, show (4 : Int) + (c : Int) = ((4 + c : Nat) : Int) by go_num]
  have hlam : la ≤ 300 := by have := HLA.out; omega
  have hlbm : lb ≤ 300 := by have := HLB.out; omega
  have hsz := HF3.out.size
  go_cut [4, 5, 6, 28] (fun x4 x5 x6 x28 wx => x4 = .int .i64 (la : Int) ∧ x5 = .int .i64 (lb : Int) ∧ x6 = .int .i64 ((4 + c : Nat) : Int) ∧ x28 = .bool (decide (286 < la ∨ 30 < lb)) ∧ wx = w3)
  case first =>
    by_cases hc1 : 286 < la
    · have hi : (la : Int) > 286 := by omega
      go_wp2
      go_meet
      case rel => exact ⟨rfl, rfl, rfl, by simp [hc1], rfl⟩
    · have hi : ¬ (la : Int) > 286 := by omega
      by_cases hc2 : 30 < lb
      · have hi2 : (lb : Int) > 30 := by omega
        go_wp2
        go_meet
        case rel => exact ⟨rfl, rfl, rfl, by simp [hc1, hc2], rfl⟩
      · have hi2 : ¬ (lb : Int) > 30 := by omega
        go_wp2
        go_meet
        case rel => exact ⟨rfl, rfl, rfl, by simp [hc1, hc2], rfl⟩
  case rest =>
  obtain ⟨rfl, rfl, rfl, rfl, rfl⟩ := hcut
  go_upto_if 28 with fail
  go_cut [4, 5, 6] (fun x4 x5 x6 wx => x4 = .int .i64 (la : Int) ∧ x5 = .int .i64 (lb : Int) ∧ x6 = .int .i64 ((4 + c : Nat) : Int) ∧ SrcT wx q g s st4 ∧ Three q g b w wx ∧ BoxH wx b fin k z (.slice none 0 0) (.slice none 0 0))
  case first =>
    have HC4 := Lib.hid (HFA.out _ s3 3 (by omega) HS3.out)
    rw [show ((3 : Nat) : Int) = 3 from rfl] at HC4
    by_cases hc1 : 286 < la ∨ 30 < lb
    · have HST : Hid (st4 = xf 3 s3) := Lib.hid (by rw [H4.out, if_pos hc1])
      have hdt : decide (286 < la ∨ 30 < lb) = true := decide_eq_true hc1
      rw [hdt]
      go_wp2_with (go_at_call 60; (with_reducible refine HC4.out.mono ?_); rintro e w4 ⟨rfl, hb1, hb2⟩; (have HS4 := Lib.hid hb1; have HF4 := Lib.hid (HF3.out.trans (Three.of2 hb2)); have HH4 := Lib.hid (HH3.out.fx hb2 (fun e => e.elim (fun e => hq e.symm) (fun e => hg e.symm))); clear hb1 hb2))
      go_meet
      case rel => exact ⟨rfl, rfl, rfl, by rw [HST.out]; exact HS4.out, HF4.out, HH4.out⟩
    · have HST : Hid (st4 = s3) := Lib.hid (by rw [H4.out, if_neg hc1])
      have hdt : decide (286 < la ∨ 30 < lb) = false := decide_eq_false hc1
      rw [hdt]
      go_wp2
      go_meet
      case rel => exact ⟨rfl, rfl, rfl, by rw [HST.out]; exact HS3.out, HF3.out, HH3.out⟩
  case rest =>
    obtain ⟨rfl, rfl, rfl, hs4, hf4, hh4⟩ := hcut
    clear HS3 HF3 HH3 HXL
    have HS4 := Lib.hid hs4
    have HF4 := Lib.hid hf4
    have HH4 := Lib.hid hh4
    have hsz4 := hf4.size
    clear hs4 hf4 hh4 hsz
    have hmk : ∀ W : World, (Instr.makeSlice 35 (.int .i64 19) (.int .i64 19)).run Tryz.prog W = .ok (.slice (some ⟨W.heap.size, 0, none⟩) 19 19) (W.alloc (.cells (madeCells #[Value.int .i64 0] 19) 3)) := run_mk (P := Tryz.prog) 35 3 (.int .i64 0) 8 19 Tryz.underlying35 (by kernel_rfl) rfl (by decide) (by omega)
    have hom := own_made wc w.heap.size 3 (.int .i64 0) 19 hsz4 (by decide)
    have hzl : List.replicate 19 (Value.int .i64 0) = ints (nls (List.replicate 19 0)) := rfl
    rw [hzl] at hom
    clear hzl
    obtain ⟨Z, hZ⟩ : ∃ Z, Z = List.replicate 19 0 := ⟨_, rfl⟩
    rw [← hZ] at hom HD
    have HZ : Hid (Z.length = 19) := Lib.hid (by rw [hZ]; rfl)
    have HOM := Lib.hid hom
    clear hZ hom
    generalize madeCells #[Value.int .i64 0] 19 = MC at *
    obtain ⟨O, hO⟩ : ∃ O, O = (ints (nls ordN)).toArray := ⟨_, rfl⟩
    have HO : Hid (∀ j, j < 19 → O[j]? = some (.int .i64 (ordN.getD j 0 : Nat))) := Lib.hid (fun j hj => by rw [hO]; exact ordA j hj)
    have HOR : Hid (∀ W : World, Calls Tryz.prog 79 #[] W fun e w' => e = .returned (.agg O) ∧ Below W.heap.size W w') := Lib.hid (fun W => by rw [hO]; exact ordP W)
    clear hO
    have HSTEP := Lib.hid (fun j => codeK_step N T c j (Z, st4))
    have HCL := Lib.hid (fun j => codeK_len N T c (Z, st4) j)
    have HK0 : Hid (codeK N T c 0 (Z, st4) = (Z, st4)) := Lib.hid rfl
    go_wp2_with (go_at_call 79; (with_reducible refine (HOR.out _).mono ?_); rintro e w5 ⟨rfl, hb5⟩; (have HB5 := Lib.hid hb5; clear hb5))
    have HO5 := Lib.hid (HOM.out.up HB5.out)
    have HB4 := Lib.hid (below_alloc wc (.cells MC 3))
    have HS5 := Lib.hid ((HS4.out.up HB4.out).up HB5.out)
    have HF5 : Hid (Three q g b w w5) := Lib.hid ((HF4.out.trans (fx_below HB4.out)).trans (fx_below HB5.out))
    have HH5 := Lib.hid ((HH4.out.up HB4.out).up HB5.out)
    have hgc5 : wc.heap.size < w5.heap.size := Nat.lt_of_lt_of_le (by simp) HB5.out.size
    clear HOM HB4 HB5 HS4 HF4 HH4 hmk HOR
    generalize wc.heap.size = gc at *
    go_loopg [33] 20 (fun gk i wr => ∃ j, j ≤ 19 ∧ i = .int .i64 (j : Nat) ∧ Own wr w.heap.size 3 (.slice (some ⟨gc, 0, none⟩) 19 19) (ints (nls (codeK N T c j (Z, st4)).1)) ∧ SrcT wr q g s (codeK N T c j (Z, st4)).2 ∧ Three q g b w wr ∧ BoxH wr b fin k z (.slice none 0 0) (.slice none 0 0) ∧ gk = 20 - j)
    case atStart => exact ⟨0, Nat.zero_le _, rfl, by rw [HK0.out]; exact HO5.out, by rw [HK0.out]; exact HS5.out, HF5.out, HH5.out, rfl⟩
    case round =>
      clear HO5 HS5 HF5 HH5 HK0
      obtain ⟨j, hj, rfl, ho, hsr, hf, hh, hgk⟩ := hrel
      have HOW := Lib.hid ho
      have HSW := Lib.hid hsr
      have HFW := Lib.hid hf
      have HHW := Lib.hid hh
      have hszr := hf.size
      have hgcw := (ho.lt gc rfl).2
      have hcl := HCL.out j
      have hst := HSTEP.out j
      clear ho hsr hf hh
      by_cases hlt : j < 19
      · clear HSTEP HCL HD
        generalize codeK N T c j (Z, st4) = K at *
        obtain ⟨L, en, p5⟩ := K
        have HST := Lib.hid hst
        have hcell := HO.out j hlt
        have hy := ordN_lt j
        have hji : (j : Int) < 19 := by omega
        have hixO := run_index_arr (P := Tryz.prog) 129 3 19 Tryz.underlying129 Tryz.underlying3 (by kernel_rfl) O j hlt _ hcell
        have HLL : Hid (L.length = 19) := Lib.hid (by rw [← HZ.out]; exact hcl)
        clear hst hcl
        generalize ordN.getD j 0 = y at *
        have c0 := HSW.out.src.c0
        have c1 := HSW.out.src.c1
        have he : (((L, en, p5).2.1 : Nat) : Int) = (en : Int) := rfl
        rw [he] at c1
        clear he
        have hqr := HSW.out.src.lt
        by_cases hc : j < 4 + c
        · have hci : (j : Int) < ((4 + c : Nat) : Int) := by omega
          by_cases h0 : en = 0
          · subst h0
            have HK2 : Hid (codeK N T c (j + 1) (Z, st4) = (L.set y (xb N T 3 (0, p5)).1, (xb N T 3 (0, p5)).2)) := Lib.hid (by rw [HST.out]; exact if_pos ⟨hc, rfl⟩)
            have HBC := Lib.hid (HB4.out wr (0, p5) HSW.out)
            generalize xb N T 3 (0, p5) = r at *
            obtain ⟨x, st6⟩ := r
            clear HST HB4
            have hd : Hd wr (some ⟨gc, 0, none⟩) 19 19 gc 0 := ⟨fun _ => rfl, Nat.le_refl _, by decide, by decide, fun _ => hgcw⟩
            have hixk := fun W : World => index_any (P := Tryz.prog) 35 3 Tryz.underlying35 (by kernel_rfl) hd W .i64 (y : Int) (by omega) (by omega)
            simp only [Nat.zero_add, Int.toNat_natCast] at hixk
            have HSL : Hid ((ints (nls L)).set y (.int .i64 (x : Nat)) = ints (nls (L.set y x))) := Lib.hid (by rw [ints_set', nls_set])
            clear hd
            go_wp2_with (go_at_call 55; (with_reducible refine HBC.out.mono ?_); rintro e w6 ⟨rfl, hb1, hb2⟩; (have HS6 := Lib.hid hb1; have HF6 := Lib.hid (HFW.out.trans (Three.of2 hb2)); have HH6 := Lib.hid (HHW.out.fx hb2 (fun e => e.elim (fun e => hq e.symm) (fun e => hg e.symm))); have HO6 := Lib.hid (hb2.ownB HOW.out (fun k hk => hk.elim (fun e => by omega) (fun e => by omega))); have hf6 := HO6.out.free y; have hgc6 := (HO6.out.lt gc rfl).2; have HSET := Lib.hid (HO6.out.store y (.int .i64 (x : Nat))); have hcc6 := HO6.out.cell (i := y) (by rw [ints_nls_len]; show y < L.length; rw [HLL.out]; exact hy); clear hb1 hb2))
            go_roundg (20 - (j + 1))
            case measure => omega
            case rel =>
              have hset := HSET.out
              rw [HSL.out] at hset
              refine ⟨j + 1, by omega, by go_num, ?_, ?_, ?_, ?_, rfl⟩
              · rw [HK2.out]; exact hset.1
              · rw [HK2.out]
                exact ⟨HS6.out.src.keep hset.2 (fun e => by injection e with e; omega), HS6.out.box.stay hset.2 (fun e => by injection e with e; omega), HS6.out.ne, HS6.out.le, HS6.out.err⟩
              · exact HF6.out.grown hset.2 (fun k e => .inr (by injection e with e; omega))
              · exact HH6.out.stay hset.2 (fun e => by injection e with e; omega)
          · have h0' : ((en : Int) == 0) = false := by simp; omega
            have HK2 : Hid (codeK N T c (j + 1) (Z, st4) = (L, en, p5)) := Lib.hid (by rw [HST.out]; exact if_neg (fun z => h0 z.2))
            clear HST HB4 h0
            go_wp2
            go_roundg (20 - (j + 1))
            case measure => omega
            case rel => exact ⟨j + 1, by omega, by go_num, by rw [HK2.out]; exact HOW.out, by rw [HK2.out]; exact HSW.out, HFW.out, HHW.out, rfl⟩
        · have hci : ¬ (j : Int) < ((4 + c : Nat) : Int) := by omega
          have HK2 : Hid (codeK N T c (j + 1) (Z, st4) = (L, en, p5)) := Lib.hid (by rw [HST.out]; exact if_neg (fun z => hc z.1))
          clear HST HB4
          go_wp2
          go_roundg (20 - (j + 1))
          case measure => omega
          case rel => exact ⟨j + 1, by omega, by go_num, by rw [HK2.out]; exact HOW.out, by rw [HK2.out]; exact HSW.out, HFW.out, HHW.out, rfl⟩
      · obtain rfl : j = 19 := by omega
        clear hlt HSTEP HB4 HO hst
        generalize codeK N T c 19 (Z, st4) = K at *
        obtain ⟨L, en, p5⟩ := K
        have hcl' : L.length = 19 := by rw [← HZ.out]; exact hcl
        have HLL := Lib.hid hcl'
        have c0 := HSW.out.src.c0
        have c1 := HSW.out.src.c1
        have he : (((L, en, p5).2.1 : Nat) : Int) = (en : Int) := rfl
        rw [he] at c1
        have hqr := HSW.out.src.lt
        have HLT : Hid (wr.cell? ⟨q, 1, none⟩ = wr.cell? ⟨q, 1, none⟩) := Lib.hid rfl
        clear he hcl hcl' HLT HCL HZ H4
        by_cases h0 : en = 0
        · subst h0
          have HI := Lib.hid (show IntsAt wr (.slice (some ⟨gc, 0, none⟩) 19 19) (nls L) from HOW.out.sl)
          have HFI := Lib.hid (fun (W : World) (hb : Below wr.heap.size wr W) => fitsP (.slice (some ⟨gc, 0, none⟩) 19 19) (nls L) false W (HI.out.up hb))
          have HNW := Lib.hid (newP (.slice (some ⟨gc, 0, none⟩) 19 19) (nls L) wr HI.out)
          unfold RetTab at HNW
          have HFE := Lib.hid (fun h => fitsE_bad (l := nls L) false h)
          have HFL := Lib.hid (fitsE_le (nls L) false)
          have HEL := Lib.hid (fun h => errI_list (l := nls L) h)
          have hhd := HD.out
          unfold dynL at hhd
          dsimp only at hhd
          have hen0 : ¬ ((0 : Nat) ≠ 0) := fun h => h rfl
          rw [if_neg hen0] at hhd
          have HD2 := Lib.hid hhd
          clear HD hhd hen0
          generalize fitsE (nls L) false = F at *
          generalize errI (nls L) = E at *
          by_cases hF : F = 0
          · subst hF
            have hE : E = 0 := by
              apply Classical.byContradiction; intro hn
              exact hn (HFE.out hn).symm
            subst hE
            have HD3 : Hid (D = if (rowN N T L (257 + a + (1 + d)) (257 + a + (1 + d) + 1) [] (0, p5)).2.1 ≠ 0 then ([], [], (rowN N T L (257 + a + (1 + d)) (257 + a + (1 + d) + 1) [] (0, p5)).2) else ((rowN N T L (257 + a + (1 + d)) (257 + a + (1 + d) + 1) [] (0, p5)).1.take (257 + a), (rowN N T L (257 + a + (1 + d)) (257 + a + (1 + d) + 1) [] (0, p5)).1.drop (257 + a), fits2 ((rowN N T L (257 + a + (1 + d)) (257 + a + (1 + d) + 1) [] (0, p5)).1.take (257 + a)) ((rowN N T L (257 + a + (1 + d)) (257 + a + (1 + d) + 1) [] (0, p5)).1.drop (257 + a)), (rowN N T L (257 + a + (1 + d)) (257 + a + (1 + d) + 1) [] (0, p5)).2.2)) := Lib.hid (by rw [HD2.out, if_neg (fun h => h rfl)])
            have hla := HLA.out
            have hlb := HLB.out
            rw [← hla, ← hlb] at HD3
            clear hla hlb HD2
            obtain ⟨L', hL', -, h15, -⟩ := HEL.out rfl
            have hLL' : L' = L := by
              have := congrArg (List.map Int.toNat) hL'
              rw [nls_toNat, nls_toNat] at this
              exact this.symm
            subst hLL'
            clear hL' HEL HFE
            have hnn := HNN.out
            have htt := HTT.out
            subst hnn htt
            have HN : Hid (Calls Tryz.prog 38 #[.slice (some ⟨gc, 0, none⟩) 19 19] wr fun e w' => ∃ gt, e = .returned (.tuple #[.pointer (some ⟨gt, 0, none⟩), .int .i64 0]) ∧ TabAt w' wr.heap.size gt L' ∧ Below wr.heap.size wr w') := Lib.hid (HNW.out.mono fun e w' ⟨hb, h⟩ => by
              rcases h with ⟨-, gt, he, hT⟩ | ⟨hne, -⟩
              · rw [nls_toNat] at hT; exact ⟨gt, he, hT, hb⟩
              · exact absurd rfl hne)
            have H15 := Lib.hid h15
            clear HNW h15
            obtain ⟨r, hr⟩ : ∃ r, r = rowN (numS s) (8 * s.size) L' (la + lb) (la + lb + 1) [] (0, p5) := ⟨_, rfl⟩
            have HRL : Hid (r.2.1 = 0 → r.1.length = la + lb) := Lib.hid (fun h => by rw [hr] at h ⊢; exact rowN_len _ _ _ _ _ _ _ (Nat.zero_le _) (by simp) h)
            have hq2 := HSW.out.src.lt
            have hg2 := HSW.out.box.lt
            have HROW : Hid (∀ (W : World) (gt : Nat), SrcT W q g s (0, p5) → TabAt W wr.heap.size gt L' → Calls Tryz.prog 81 #[.pointer (some ⟨q, 0, none⟩), .pointer (some ⟨gt, 0, none⟩), .int .i64 ((la : Int) + (lb : Int))] W fun e w' => ∃ v, e = .returned v ∧ Own w' W.heap.size 3 v (ints (nls r.1)) ∧ SrcT w' q g s r.2 ∧ Two q g W w') := Lib.hid (fun W gt hW hT => by
              have := HRS.out W gt (0, p5) hW (la + lb) (by omega) L' (by rw [HLL.out]; decide) (fun W' p' hf hb hp => HRP.out W' wr.heap.size gt p' L' (hT.fx hf (fun k hk => hk.elim (fun e => by omega) (fun e => by omega))) H15.out hb hp)
              rw [← hr, Int.natCast_add] at this
              exact this)
            rw [← hr] at HD3
            clear hr HRS HRP
            obtain ⟨R, en6, p6⟩ := r
            dsimp only at HD3 HRL HROW
            by_cases h6 : en6 = 0
            · subst h6
              have HRL2 : Hid (R.length = la + lb) := Lib.hid (HRL.out rfl)
              have HDX : Hid (D = (R.take la, R.drop la, fits2 (R.take la) (R.drop la), p6)) := Lib.hid (by rw [HD3.out]; exact if_neg (fun h => h rfl))
              have HTB : Hid (∀ {w7 w8 : World} {gt : Nat}, TabAt w7 wr.heap.size gt L' → Below w7.heap.size w7 w8 → TabAt w8 wr.heap.size gt L') := Lib.hid (fun h hb => h.fx (S := fun _ => False) (fx_below hb) (fun k hk => hk.elim))
              clear HD3 HRL
              go_wp2_with (first | (go_at_call 38; (with_reducible refine HN.out.mono ?_); rintro e w7 ⟨gt, rfl, hT7, hb7⟩; (have HT7 := Lib.hid hT7; have HB7 := Lib.hid hb7; have HFC := Lib.hid (HFI.out w7 hb7); clear hT7 hb7)) | (go_at_call 80; (with_reducible refine HFC.out.mono ?_); rintro e w8 ⟨rfl, hb8⟩; (have HB8 := Lib.hid (below_up HB7.out hb8); have HS8 := Lib.hid (HSW.out.up (below_up HB7.out hb8)); have HT8 := Lib.hid (HTB.out HT7.out hb8); have HRC := Lib.hid (HROW.out w8 gt HS8.out HT8.out); clear hb8)) | (go_at_call 81; (with_reducible refine HRC.out.mono ?_); rintro e w9 ⟨v9, rfl, hb9, hc9, hd9⟩; (have HR9 := Lib.hid hb9; have HS9 := Lib.hid hc9; have HF9 := Lib.hid hd9; have cc9 := hc9.src.c1; have cq9 := hc9.src.lt; have hee : (((0, p6) : Nat × Nat).1 : Int) = (0 : Int) := rfl; rw [hee] at cc9; clear hb9 hc9 hd9 hee)))
              have HF9W : Hid (Three q g b w w9) := Lib.hid ((HFW.out.trans (fx_below HB8.out)).trans (Three.of2 HF9.out))
              have HH9 := Lib.hid ((HHW.out.up HB8.out).fx HF9.out (fun e => e.elim (fun e => hq e.symm) (fun e => hg e.symm)))
              have hrl := HRL2.out
              obtain ⟨u1, hu1, hsl1⟩ := HR9.out.sl.low (P := Tryz.prog) 35 3 Tryz.underlying35 (by kernel_rfl) la (by rw [ints_nls_len]; omega)
              obtain ⟨u2, hu2, hsl2⟩ := HR9.out.sl.high (P := Tryz.prog) 35 3 Tryz.underlying35 (by kernel_rfl) la (by rw [ints_nls_len]; omega)
              rw [ints_take] at hsl1
              rw [ints_drop] at hsl2
              have HL1 := Lib.hid hsl1
              have HL2 := Lib.hid hsl2
              have HN1 : Hid ((ints (nls (R.take la))).length ≤ 4294967296 ∧ (ints (nls (R.drop la))).length ≤ 4294967296) := Lib.hid (by simp [ints, nls]; omega)
              have HZ0 : Hid (w.heap.size ≤ w9.heap.size) := Lib.hid HF9W.out.size
              clear hsl1 hsl2 hrl HSW HFW HHW HOW HFI HN HROW HB7 HFC HB8 HS8 HT8 HT7 HRC HF9 HTB HI c0 c1
              refine wp_region_scr (C := fun w' => ∃ x, w' = chg w9 (some b) x) (.q 0 (.q 1 (.q 2 (.q 3 (.q 4 (.q 6 (.q 7 (.q 8 (.br 5 (.br 9 (.br 10 (.br 11 (.br 12 (.br 13 (.br 14 (.br 15 .done .no) .no) .no) .no) .no) .no) .no) .no))))))))) (by kernel_rfl) (by kernel_rfl) (ex_chg (grown_drew _ _)) ?_
              have HB10 : Hid (Below w9.heap.size w9 w9.drew) := Lib.hid (b_drew1 (Below.refl _ _))
              generalize w9.drew = w10 at *
              have HR10 := Lib.hid HB10.out.size
              (repeat ((unfold wpScr; simp only [pick, List.map_cons, List.map_nil, List.getD_cons_zero, List.getD_cons_succ]); go_big_quiet_step (fail); refine wpQuiet_nil ?_))
              ((unfold wpScr; simp only [pick, List.map_cons, List.map_nil, List.getD_cons_zero, List.getD_cons_succ]); refine ⟨?_, by unfold wpScr; trivial⟩; unfold wpAct)
              go_wp2_with (at_builtin; refine wpList_app rfl (.const (.slice none 0 0)) (.tmp 91) 35 rfl w.heap.size 3 (.int .i64 0) 8 Tryz.underlying35 (by kernel_rfl) rfl (by decide) (.slice none 0 0) [] rfl (Own.nil _ _ _) u1 (ints (nls (R.take la))) rfl (HL1.out.up HB10.out) (ints_cell _) (by have := HN1.out.1; simpa using this) (Nat.le_trans HZ0.out HR10.out) ?_; intro v1 w11 hown1 hg1 hk1; (have HO11 := Lib.hid hown1; have HG11 := Lib.hid hg1; clear hown1 hg1 hk1))
              have HB11 : Hid (Below w9.heap.size w9 w11) := Lib.hid (HB10.out.grown HG11.out HR10.out (fun k hk => by cases hk))
              refine ⟨ex_chg (grown_below HB11.out _), ?_⟩
              unfold wpAct
              ((unfold wpScr; simp only [pick, List.map_cons, List.map_nil, List.getD_cons_zero, List.getD_cons_succ]); refine ⟨?_, by unfold wpScr; trivial⟩; unfold wpAct)
              go_wp2_with (at_builtin; refine wpList_app rfl (.const (.slice none 0 0)) (.tmp 95) 35 rfl w.heap.size 3 (.int .i64 0) 8 Tryz.underlying35 (by kernel_rfl) rfl (by decide) (.slice none 0 0) [] rfl (Own.nil _ _ _) u2 (ints (nls (R.drop la))) rfl (HL2.out.up HB11.out) (ints_cell _) (by have := HN1.out.2; simpa using this) (Nat.le_trans HZ0.out HB11.out.size) ?_; intro v2 w12 hown1 hg1 hk1; (have HO12 := Lib.hid hown1; have HG12 := Lib.hid hg1; clear hown1 hg1 hk1))
              have HB12 : Hid (Below w9.heap.size w9 w12) := Lib.hid (HB11.out.grown HG12.out HB11.out.size (fun k hk => by cases hk))
              refine ⟨ex_chg (grown_below HB12.out _), ?_⟩
              unfold wpAct
              have HO13 := Lib.hid (HO11.out.keep HG12.out (ne_of_row (fun k hk e => by cases e)))
              rw [List.nil_append] at HO12 HO13
              obtain ⟨o1, c1', g1, hv1, -⟩ := HO13.out.cases
              obtain ⟨o2, c2', g2, hv2, -⟩ := HO12.out.cases
              subst hv1 hv2
              generalize (ints (nls (R.take la))).length = n1 at *
              generalize (ints (nls (R.drop la))).length = n2 at *
              have HH12 := Lib.hid (HH9.out.up HB12.out)
              have hb12 := HH12.out.lt
              have hf12 := HH12.out.free 3
              have hc12 := HH12.out.c3
              have HST := Lib.hid (HH12.out.set3 (.slice o1 n1 c1'))
              clear HO11 HG11 HG12 HB11 HB10 HL1 HL2
              (((unfold wpScr; simp only [pick, List.map_cons, List.map_nil, List.getD_cons_zero, List.getD_cons_succ]); refine ⟨?_, by unfold wpScr; trivial⟩; unfold wpAct); go_wp2; refine ⟨ex_chg (grown_below HB12.out _), ?_⟩)
              unfold wpAct
              (((unfold wpScr; simp only [pick, List.map_cons, List.map_nil, List.getD_cons_zero, List.getD_cons_succ]); refine ⟨?_, by unfold wpScr; trivial⟩; unfold wpAct); go_wp2; refine ⟨ex_chg (grown_below HB12.out _), ?_⟩)
              unfold wpAct
              (((unfold wpScr; simp only [pick, List.map_cons, List.map_nil, List.getD_cons_zero, List.getD_cons_succ]); refine ⟨?_, by unfold wpScr; trivial⟩; unfold wpAct); go_wp2; refine ⟨ex_chg (grown_trans (grown_below HB12.out _) HST.out.2), ?_⟩)
              unfold wpAct
              have HH13 := Lib.hid HST.out.1
              have hb13 := HH13.out.lt
              have hf13 := HH13.out.free 4
              have hc13 := HH13.out.c4
              have HST2 := Lib.hid (HH13.out.set4 (.slice o2 n2 c2'))
              have HG13 := Lib.hid (grown_trans (grown_below HB12.out (some b)) HST.out.2)
              have HO14 := Lib.hid (HO13.out.keep HST.out.2 (ne_of_row (fun k hk e => by have := (HO13.out.lt k hk).1; injection e with e; omega)))
              have HP14 := Lib.hid (HO12.out.keep HST.out.2 (ne_of_row (fun k hk e => by have := (HO12.out.lt k hk).1; injection e with e; omega)))
              clear hb12 hf12 hc12 HST HH12 HB12 HO13 HO12
              generalize w12.setCell ⟨b, 3, none⟩ (.slice o1 n1 c1') = w13 at *
              (((unfold wpScr; simp only [pick, List.map_cons, List.map_nil, List.getD_cons_zero, List.getD_cons_succ]); refine ⟨?_, by unfold wpScr; trivial⟩; unfold wpAct); go_wp2; refine ⟨ex_chg HG13.out, ?_⟩)
              unfold wpAct
              (((unfold wpScr; simp only [pick, List.map_cons, List.map_nil, List.getD_cons_zero, List.getD_cons_succ]); refine ⟨?_, by unfold wpScr; trivial⟩; unfold wpAct); go_wp2; refine ⟨ex_chg HG13.out, ?_⟩)
              unfold wpAct
              (((unfold wpScr; simp only [pick, List.map_cons, List.map_nil, List.getD_cons_zero, List.getD_cons_succ]); refine ⟨?_, by unfold wpScr; trivial⟩; unfold wpAct); go_wp2; refine ⟨ex_chg (grown_trans HG13.out HST2.out.2), ?_⟩)
              unfold wpAct
              unfold wpScr
              first | (intro _ hqq; clear hqq) | (intro hqq; clear hqq)
              have HG14 := Lib.hid (grown_trans HG13.out HST2.out.2)
              have HH14 := Lib.hid HST2.out.1
              have HO15 := Lib.hid (HO14.out.keep HST2.out.2 (ne_of_row (fun k hk e => by have := (HO14.out.lt k hk).1; injection e with e; omega)))
              have HP15 := Lib.hid (HP14.out.keep HST2.out.2 (ne_of_row (fun k hk e => by have := (HP14.out.lt k hk).1; injection e with e; omega)))
              clear HST2 hb13 hf13 hc13 HH13 HG13 HO14 HP14
              generalize w13.setCell ⟨b, 4, none⟩ (.slice o2 n2 c2') = w14 at *
              have HS14 : Hid (SrcT w14 q g s (0, p6)) := Lib.hid (HS9.out.kept HG14.out (fun e => hq (by injection e with e; exact e.symm)) (fun e => hg (by injection e with e; exact e.symm)))
              have HF14 : Hid (Three q g b w w14) := Lib.hid (HF9W.out.trans (Three.ofb HG14.out))
              clear HG14 HF9W HS9 HH9 cc9
              have cb3 := HH14.out.c3
              have cb4 := HH14.out.c4
              have hb14 := HH14.out.lt
              have HLE := Lib.hid (fits2_le (R.take la) (R.drop la))
              have HLT : Hid (256 < (R.take la).length) := Lib.hid (by have := HRL2.out; have := HLA.out; simp; omega)
              have HFT : Hid (∀ W, Below w14.heap.size w14 W → Calls Tryz.prog 82 #[.slice o1 n1 c1', .slice o2 n2 c2'] W fun e w' => e = .returned (.int .i64 (fits2 (R.take la) (R.drop la) : Nat)) ∧ Below W.heap.size W w') := Lib.hid (fun W hb => fits2P _ _ _ _ W (show IntsAt W _ _ from HO15.out.sl.up hb) (show IntsAt W _ _ from HP15.out.sl.up hb) HLT.out)
              have HFG := Lib.hid (fun (W : World) (hb : Below w14.heap.size w14 W) => HFA.out W (0, p6) (fits2 (R.take la) (R.drop la)) HLE.out (HS14.out.up hb))
              clear HRL2 HLE HLT
              generalize fits2 (R.take la) (R.drop la) = fe at *
              have HXF : Hid (xf fe (0, p6) = (fe, p6)) := Lib.hid rfl
              rw [HXF.out] at HFG
              go_wp2
              refine wp_region_tailg [0,1,2,3,4,5,6,7,8] [9] [10] (by kernel_rfl) (by kernel_rfl) ?_
              simp only [pick, List.map_cons, List.map_nil, List.getD_cons_zero, List.getD_cons_succ]
              repeat (go_big_quiet_step (fail))
              refine wpQuiet_nil ?_
              have HB15 : Hid (Below w14.heap.size w14 w14.drew) := Lib.hid (b_drew1 (Below.refl _ _))
              generalize w14.drew = w15 at *
              unfold wpAct
              go_wp2_with (go_at_call 82; (with_reducible refine (HFT.out _ HB15.out).mono ?_); rintro e w16 ⟨rfl, hb16⟩; (have HB16 := Lib.hid (HB15.out.trans (hb16.mono HB15.out.size)); clear hb16))
              refine ⟨ex_ext HB16.out, ?_⟩
              unfold wpAct
              unfold wpAct
              go_wp2_with (go_at_call 60; (with_reducible refine (HFG.out _ HB16.out).mono ?_); rintro e w17 ⟨rfl, hs17, hf17⟩; (have HS17 := Lib.hid hs17; have HF17 := Lib.hid hf17; clear hs17 hf17))
              refine ⟨trivial, ?_⟩
              unfold wpAct
              go_wp2
              go_end0
              rw [HDX.out]
              have hwb : w.heap.size ≤ w14.heap.size := HF14.out.size
              exact ⟨rfl, HS17.out, (HF14.out.trans (fx_below HB16.out)).trans (Three.of2 HF17.out), _, _, (HH14.out.up HB16.out).fx HF17.out (fun e => e.elim (fun e => hq e.symm) (fun e => hg e.symm)), fun _ => ⟨HF17.out.ownB (HO15.out.up HB16.out) (fun k hk => hk.elim (fun e => by omega) (fun e => by omega)), HF17.out.ownB (HP15.out.up HB16.out) (fun k hk => hk.elim (fun e => by omega) (fun e => by omega))⟩⟩
            · have h6' : ((en6 : Int) != 0) = true := by simpa using h6
              have HDX : Hid (D = ([], [], (en6, p6))) := Lib.hid (by rw [HD3.out]; exact if_pos h6)
              have HTB : Hid (∀ {w7 w8 : World} {gt : Nat}, TabAt w7 wr.heap.size gt L' → Below w7.heap.size w7 w8 → TabAt w8 wr.heap.size gt L') := Lib.hid (fun h hb => h.fx (S := fun _ => False) (fx_below hb) (fun k hk => hk.elim))
              clear HD3 h6 HRL
              go_wp2_with (first | (go_at_call 38; (with_reducible refine HN.out.mono ?_); rintro e w7 ⟨gt, rfl, hT7, hb7⟩; (have HT7 := Lib.hid hT7; have HB7 := Lib.hid hb7; have HFC := Lib.hid (HFI.out w7 hb7); clear hT7 hb7)) | (go_at_call 80; (with_reducible refine HFC.out.mono ?_); rintro e w8 ⟨rfl, hb8⟩; (have HB8 := Lib.hid (below_up HB7.out hb8); have HS8 := Lib.hid (HSW.out.up (below_up HB7.out hb8)); have HT8 := Lib.hid (HTB.out HT7.out hb8); have HRC := Lib.hid (HROW.out w8 gt HS8.out HT8.out); clear hb8)) | (go_at_call 81; (with_reducible refine HRC.out.mono ?_); rintro e w9 ⟨v9, rfl, hb9, hc9, hd9⟩; (have HR9 := Lib.hid hb9; have HS9 := Lib.hid hc9; have HF9 := Lib.hid hd9; have cc9 := hc9.src.c1; have cq9 := hc9.src.lt; have hee : (((en6, p6).1 : Nat) : Int) = (en6 : Int) := rfl; rw [hee] at cc9; clear hb9 hc9 hd9 hee)))
              ((try simp only [Exit.inBlock, Exit.then]); refine bodyPost_ret (results_none rfl _ _ _) rfl ?_)
              rw [HDX.out]
              have h6 : en6 ≠ 0 := by simpa using h6'
              exact ⟨rfl, HS9.out, (HFW.out.trans (fx_below HB8.out)).trans (Three.of2 HF9.out), _, _, (HHW.out.up HB8.out).fx HF9.out (fun e => e.elim (fun e => hq e.symm) (fun e => hg e.symm)), fun h => absurd h h6⟩
          · have HDX : Hid (D = ([], [], (F, p5))) := Lib.hid (by rw [HD2.out]; exact if_pos hF)
            have HXF : Hid (xf F (0, p5) = (F, p5)) := Lib.hid rfl
            have hFi : ((F : Int) != 0) = true := by simpa using hF
            clear HD2 HRS HRP HEL
            by_cases hE : E = 0
            · subst hE
              have HN : Hid (Calls Tryz.prog 38 #[.slice (some ⟨gc, 0, none⟩) 19 19] wr fun e w' => ∃ gt, e = .returned (.tuple #[.pointer (some ⟨gt, 0, none⟩), .int .i64 0]) ∧ Below wr.heap.size wr w') := Lib.hid (HNW.out.mono fun e w' ⟨hb, h⟩ => by
                rcases h with ⟨-, gt, he, -⟩ | ⟨hne, -⟩
                · exact ⟨gt, he, hb⟩
                · exact absurd rfl hne)
              have hmx : (F : Int) > 0 := by omega
              clear HNW
              go_wp2_with (first | (go_at_call 38; (with_reducible refine HN.out.mono ?_); rintro e w7 ⟨gt, rfl, hb7⟩; (have HB7 := Lib.hid hb7; have HFC := Lib.hid (HFI.out w7 hb7); clear hb7)) | (go_at_call 80; (with_reducible refine HFC.out.mono ?_); rintro e w8 ⟨rfl, hb8⟩; (have HB8 := Lib.hid (below_up HB7.out hb8); have HS8 := Lib.hid (HSW.out.up (below_up HB7.out hb8)); have HFAC := Lib.hid (HFA.out w8 (0, p5) F HFL.out HS8.out); clear hb8)) | (go_at_call 60; (with_reducible refine HFAC.out.mono ?_); rintro e w9 ⟨rfl, hb9, hc9⟩; (have HS9 := Lib.hid hb9; have HF9 := Lib.hid hc9; clear hb9 hc9)))
              ((try simp only [Exit.inBlock, Exit.then]); refine bodyPost_ret (results_none rfl _ _ _) rfl ?_)
              rw [HXF.out] at HS9
              rw [HDX.out]
              exact ⟨rfl, HS9.out, (HFW.out.trans (fx_below HB8.out)).trans (Three.of2 HF9.out), _, _, (HHW.out.up HB8.out).fx HF9.out (fun e => e.elim (fun e => hq e.symm) (fun e => hg e.symm)), fun h => absurd h hF⟩
            · have HN : Hid (Calls Tryz.prog 38 #[.slice (some ⟨gc, 0, none⟩) 19 19] wr fun e w' => e = .returned (.tuple #[.pointer none, .int .i64 (F : Nat)]) ∧ Below wr.heap.size wr w') := Lib.hid (HNW.out.mono fun e w' ⟨hb, h⟩ => by
                rcases h with ⟨he, -⟩ | ⟨hne, he⟩
                · exact absurd he hE
                · rw [HFE.out hE]; exact ⟨he, hb⟩)
              clear HNW hF hE HFE
              go_wp2_with (first | (go_at_call 38; (with_reducible refine HN.out.mono ?_); rintro e w7 ⟨rfl, hb7⟩; (have HB7 := Lib.hid hb7; have HFC := Lib.hid (HFI.out w7 hb7); clear hb7)) | (go_at_call 80; (with_reducible refine HFC.out.mono ?_); rintro e w8 ⟨rfl, hb8⟩; (have HB8 := Lib.hid (below_up HB7.out hb8); have HS8 := Lib.hid (HSW.out.up (below_up HB7.out hb8)); have HFAC := Lib.hid (HFA.out w8 (0, p5) F HFL.out HS8.out); clear hb8)) | (go_at_call 60; (with_reducible refine HFAC.out.mono ?_); rintro e w9 ⟨rfl, hb9, hc9⟩; (have HS9 := Lib.hid hb9; have HF9 := Lib.hid hc9; clear hb9 hc9)))
              ((try simp only [Exit.inBlock, Exit.then]); refine bodyPost_ret (results_none rfl _ _ _) rfl ?_)
              rw [HXF.out] at HS9
              rw [HDX.out]
              have hF : F ≠ 0 := by simpa using hFi
              exact ⟨rfl, HS9.out, (HFW.out.trans (fx_below HB8.out)).trans (Three.of2 HF9.out), _, _, (HHW.out.up HB8.out).fx HF9.out (fun e => e.elim (fun e => hq e.symm) (fun e => hg e.symm)), fun h => absurd h hF⟩
        · have h0' : ((en : Int) != 0) = true := by simpa using h0
          have HDX : Hid (D = ([], [], (en, p5))) := Lib.hid (by rw [HD.out]; unfold dynL; exact if_pos h0)
          have HS9 := Lib.hid HSW.out
          clear HD
          go_wp2
          ((try simp only [Exit.inBlock, Exit.then]); refine bodyPost_ret (results_none rfl _ _ _) rfl ?_)
          rw [HDX.out]
          exact ⟨rfl, HSW.out, HFW.out, _, _, HHW.out, fun h => absurd h h0⟩
end Go.Cm

/- The document's times: a row and n more of x. Conditions: the argument reads as a list. -/
namespace Go.Cm
open Go.RowKit Go.Proofs

theorem timesR (v : Value) (l : List Nat) (n x : Nat) (w : World) (h : Sl w v (ints (nls l))) (hl : l.length + n ≤ 1000000) :
    Calls Tryz.prog 68 #[v, .int .i64 n, .int .i64 x] w fun e w' => ∃ v', e = .returned v' ∧ Own w' w.heap.size 3 v' (ints (nls (l ++ List.replicate n x))) ∧ Below w.heap.size w w' := by
  have HSL := Lib.hid h
  have HL : Hid (∀ k, k < n → (ints (nls (l ++ List.replicate k x))).length + 1 ≤ 4294967296) := Lib.hid (fun k hk => by simp [ints, nls]; omega)
  have HL0 : Hid ((ints (nls l)).length ≤ 4294967296) := Lib.hid (by simp [ints, nls]; omega)
  have HAP := Lib.hid (fun k => row_app l k x)
  have H0 : Hid (ints (nls l) = ints (nls (l ++ List.replicate 0 x))) := Lib.hid (by simp)
  clear h
  go_enter Tryz.func68, Tryz.ntmps68
  go_wp2_with (at_builtin; refine wpList_app rfl (.tmp 9) (.tmp 10) 35 rfl w.heap.size 3 (.int .i64 0) 8 Tryz.underlying35 (by kernel_rfl) rfl (by decide) (.slice none 0 0) [] rfl (Own.nil _ _ _) v (ints (nls l)) rfl HSL.out (ints_cell _) (by have := HL0.out; simpa using this) (Nat.le_refl _) ?_; intro v1 w1 hown1 hg1 hk1; (have HO1 := Lib.hid hown1; have HG1 := Lib.hid hg1; clear hown1 hg1 hk1))
  go_loopg [7, 8] n (fun gk r i wr => ∃ k : Nat, k ≤ n ∧ i = .int .i64 k ∧ Own wr w.heap.size 3 r (ints (nls (l ++ List.replicate k x))) ∧ Below w.heap.size w wr ∧ gk = n - k)
  case atStart => exact ⟨0, Nat.zero_le _, rfl, by rw [← H0.out]; exact HO1.out, (Below.refl _ _).grown HG1.out (Nat.le_refl _) (fun k hk => by cases hk), rfl⟩
  case round =>
    obtain ⟨k, hk, rfl, ho, hb, hgk⟩ := hrel
    have HOW := Lib.hid ho
    have HB := Lib.hid hb
    have hsz := hb.size
    clear ho hb
    by_cases hlt : k < n
    · have HLK := Lib.hid (HL.out k hlt)
      have hki : (k : Int) < (n : Int) := by omega
      go_wp2_with (at_builtin; refine wpList_app rfl (.tmp 17) (.tmp 19) 35 rfl w.heap.size 3 (.int .i64 0) 8 Tryz.underlying35 (by kernel_rfl) rfl (by decide) u7 (ints (nls (l ++ List.replicate k x))) rfl (HOW.out.up (below_alloc _ _)) (.slice (some ⟨wr.heap.size, 0, none⟩) 1 1) (ints (nls [x])) rfl (by simpa [ints, nls] using sl_lit wr #[.int .i64 (x : Int)] 3 (by simp)) (ints_cell _) (by have := HLK.out; simpa [ints, nls] using this) (Nat.le_trans hsz (by simp)) ?_; intro v' w2 hown1 hg1 hk1; (have HO2 := Lib.hid hown1; have HG2 := Lib.hid hg1; clear hown1 hg1 hk1))
      go_roundg (n - (k + 1))
      case measure => omega
      case rel => exact ⟨k + 1, by omega, by go_num, by rw [HAP.out]; exact HO2.out, below_grown (B := w.heap.size) (HB.out.alloc hsz _) (by simp; omega) (HOW.out.up (below_alloc _ _)) HG2.out, rfl⟩
    · obtain rfl : k = n := by omega
      have hki : ¬ (k : Int) < (k : Int) := by omega
      go_wp2
      go_ret
      exact ⟨_, rfl, HOW.out, HB.out⟩
end Go.Cm
