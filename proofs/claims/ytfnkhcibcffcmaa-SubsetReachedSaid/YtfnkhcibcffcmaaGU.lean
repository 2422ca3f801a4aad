/- Texts of this claim, joined: walks of small functions and plain facts about them. Conditions: as each says. -/
import Derived.Test.YtfnkhcibcffcmaaGA
import Derived.Test.YtfnkhcibcffcmaaGK
import Derived.Test.YtfnkhcibcffcmaaGT
import Derived.Laws.IdiomCopy
import Derived.Test.YtfnkhcibcffcmaaGN
import Derived.Deep.LoopGhost
/- Automata that a call builds in a variable of its own. Conditions: none. -/
namespace Go.Cm
open Go.RowKit Go.Proofs

/-- an automaton in the making, in the block g -/
structure BoxD (w : World) (g : Nat) (nv rv : Value) (cl : List Int) : Prop where
  own : Own w g 33 (.slice (some ⟨g, 0, none⟩) 258 258) (ints cl ++ [nv, rv])
  len : cl.length = 256
theorem BoxD.keep {w w' : World} {g : Nat} {nv rv : Value} {cl : List Int} {row : Option Nat} (h : BoxD w g nv rv cl) (hg : w.grownBy w' row) (hne : row ≠ some g) : BoxD w' g nv rv cl := ⟨h.own.keep hg (.inr (fun e => hne e.symm)), h.len⟩
theorem BoxD.up {w w' : World} {g : Nat} {nv rv : Value} {cl : List Int} (h : BoxD w g nv rv cl) (hb : Below w.heap.size w w') : BoxD w' g nv rv cl := ⟨h.own.up hb, h.len⟩
theorem BoxD.lt {w : World} {g : Nat} {nv rv : Value} {cl : List Int} (h : BoxD w g nv rv cl) : g < w.heap.size := (h.own.lt g rfl).2
theorem box_getD_next {cl : List Int} {nv rv : Value} (h : cl.length = 256) : (ints cl ++ [nv, rv]).getD 256 undef = nv := by
  have : (ints cl).length = 256 := by rw [ints_length, h]
  rw [List.getD_eq_getElem?_getD, List.getElem?_append_right (by omega), this]; rfl
theorem box_getD_rules {cl : List Int} {nv rv : Value} (h : cl.length = 256) : (ints cl ++ [nv, rv]).getD 257 undef = rv := by
  have : (ints cl).length = 256 := by rw [ints_length, h]
  rw [List.getD_eq_getElem?_getD, List.getElem?_append_right (by omega), this]; rfl
theorem box_getD_cls {cl : List Int} {nv rv : Value} (h : cl.length = 256) {c : Nat} (hc : c < 256) : (ints cl ++ [nv, rv]).getD c undef = .int .i64 (cl.getD c 0) := by
  rw [List.getD_eq_getElem?_getD, List.getElem?_append_left (by rw [ints_length, h]; exact hc), ← List.getD_eq_getElem?_getD, ints_getD _ _ (by rw [h]; exact hc)]
section
variable {w : World} {g : Nat} {nv rv : Value} {cl : List Int}
theorem BoxD.cellN (h : BoxD w g nv rv cl) : w.cell? ⟨g, 256, none⟩ = some nv := by
  rw [h.own.cell (by simp [h.len]), box_getD_next h.len]
theorem BoxD.cellR (h : BoxD w g nv rv cl) : w.cell? ⟨g, 257, none⟩ = some rv := by
  rw [h.own.cell (by simp [h.len]), box_getD_rules h.len]
theorem BoxD.cellC (h : BoxD w g nv rv cl) {c : Nat} (hc : c < 256) : w.cell? ⟨g, c, none⟩ = some (.int .i64 (cl.getD c 0)) := by
  rw [h.own.cell (by simp [h.len]; omega), box_getD_cls h.len hc]
theorem BoxD.free (h : BoxD w g nv rv cl) (c : Nat) : w.frozen? ⟨g, c, none⟩ = false := h.own.free c
theorem BoxD.setR (h : BoxD w g nv rv cl) (v : Value) : BoxD (w.setCell ⟨g, 257, none⟩ v) g nv v cl ∧ w.grownBy (w.setCell ⟨g, 257, none⟩ v) (some g) := by
  obtain ⟨h1, h2⟩ := h.own.store 257 v
  refine ⟨⟨?_, h.len⟩, h2⟩
  have hl : (ints cl).length = 256 := by rw [ints_length, h.len]
  rw [List.set_append_right _ _ (by omega), hl] at h1
  exact h1
theorem BoxD.setN (h : BoxD w g nv rv cl) (v : Value) : BoxD (w.setCell ⟨g, 256, none⟩ v) g v rv cl ∧ w.grownBy (w.setCell ⟨g, 256, none⟩ v) (some g) := by
  obtain ⟨h1, h2⟩ := h.own.store 256 v
  refine ⟨⟨?_, h.len⟩, h2⟩
  have hl : (ints cl).length = 256 := by rw [ints_length, h.len]
  rw [List.set_append_right _ _ (by omega), hl] at h1
  exact h1
theorem BoxD.setC (h : BoxD w g nv rv cl) {c : Nat} (hc : c < 256) (k : Int) : BoxD (w.setCell ⟨g, c, none⟩ (.int .i64 k)) g nv rv (cl.set c k) ∧ w.grownBy (w.setCell ⟨g, c, none⟩ (.int .i64 k)) (some g) := by
  obtain ⟨h1, h2⟩ := h.own.store c (.int .i64 k)
  refine ⟨⟨?_, by simp [h.len]⟩, h2⟩
  rw [List.set_append_left _ _ (by rw [ints_length, h.len]; exact hc), ints_set] at h1
  exact h1
/-- the box as one value -/
theorem BoxD.open (h : BoxD w g nv rv cl) : ∃ A, w.heap[g]? = some (.cells A 33 (0, 0)) ∧ A.size = 258 ∧ A.toList = ints cl ++ [nv, rv] := by
  rcases h.own.1.2 with ⟨h1, _⟩ | ⟨g', cap, cur, h1, _, hg, hnc, hcm, hcs, htake⟩
  · cases h1
  · simp only [Value.slice.injEq, Option.some.injEq, Addr.mk.injEq, and_true] at h1
    obtain ⟨rfl, h2, rfl⟩ := h1
    have hs : cur.size = 258 := by omega
    refine ⟨cur, hg, hs, ?_⟩
    rw [← htake, List.take_of_length_le]
    simp [hs, h.len]
theorem dfaV_of {A : Array Value} (hA : A.toList = ints cl ++ [nv, rv]) (hl : cl.length = 256) {next : List (List Int)} {rules : List Int} (hn : RowsAt w nv next) (hr : IntsAt w rv rules) : DfaV w A ⟨cl, next, rules⟩ := by
  have hs : A.size = 258 := by rw [← Array.length_toList, hA]; simp [hl]
  have hg : ∀ i, i < 258 → A[i]? = some ((ints cl ++ [nv, rv]).getD i undef) := fun i hi => by
    rw [← Array.getElem?_toList, hA, List.getD_eq_getElem?_getD, List.getElem?_eq_getElem (by simp [hl]; omega)]; rfl
  exact ⟨hs, hl, fun i hi => by rw [hg i (by omega), box_getD_cls hl hi], ⟨nv, by rw [hg 256 (by omega), box_getD_next hl], hn⟩, ⟨rv, by rw [hg 257 (by omega), box_getD_rules hl], hr⟩⟩
end
theorem one_box {cl : List Int} {nv rv : Value} (h1 : nv.oneCell' = true) (h2 : rv.oneCell' = true) : ∀ u ∈ ints cl ++ [nv, rv], u.oneCell' = true := by
  intro u hu
  rcases List.mem_append.1 hu with h | h
  · exact ints_one _ u h
  · simp only [List.mem_cons, List.not_mem_nil, or_false] at h
    rcases h with rfl | rfl
    · exact h1
    · exact h2
theorem store_dfa {ops : Array Oper} {rest : List Oper} {o : Oper} {a : Act} {w : World} {Q : Exit → Act → World → Prop} (hgd : o.guard = none) (x y : Operand) (ho : o.op = .store 33 x y)
    (g : Nat) (hx : a.eval x = .pointer (some ⟨g, 0, none⟩)) (C : Array Value) (hy : a.eval y = .agg C) {nv rv nv' rv' : Value} {cl cl' : List Int} (hC : C.toList = ints cl' ++ [nv', rv']) (hl : cl'.length = 256) (h1 : nv'.oneCell' = true) (h2 : rv'.oneCell' = true) (hB : BoxD w g nv rv cl)
    (h : ∀ w', BoxD w' g nv' rv' cl' → w.grownBy w' (some g) → wpList Try.prog ops Q rest (a.put o.dst undef) w') : wpList Try.prog ops Q (o :: rest) a w := by
  have hs : C.size = 258 := by rw [← Array.length_toList, hC, List.length_append, ints_length, hl]; rfl
  have hx258 : (ints cl ++ [nv, rv]).length = 258 := by rw [List.length_append, ints_length, hB.len]; rfl
  refine wpList_store_agg hgd 33 x y ho g 33 g 258 258 hx C hy (by rw [hs]; kernel_rfl) (ints cl ++ [nv, rv]) hB.own (by rw [hs, hx258]; exact Nat.le_refl _) (by rw [hC]; exact one_box h1 h2) fun w' hw hg => h w' ⟨?_, hl⟩ hg
  rw [hs, List.drop_of_length_le (by rw [hx258]; exact Nat.le_refl _), List.append_nil, hC] at hw
  exact hw
/-- the zero automaton -/
def zArr : Array Value := (ints (List.replicate 256 0) ++ [Value.slice none 0 0, Value.slice none 0 0]).toArray
theorem zero_dfa (W : World) : (zeroValue 33).run Try.prog W = .ok (.agg zArr) W := by kernel_rfl
theorem build_dfa (W : World) : (Instr.build 33 #[]).run Try.prog W = .ok (.agg zArr) W := by kernel_rfl
theorem zArr_list : zArr.toList = ints (List.replicate 256 0) ++ [Value.slice none 0 0, Value.slice none 0 0] := rfl
theorem zArr_size : zArr.size = 258 := by
  rw [← Array.length_toList, zArr_list, List.length_append, ints_length, List.length_replicate]; rfl
theorem box_new (w : World) : BoxD (w.alloc (.cells zArr 33)) w.heap.size (.slice none 0 0) (.slice none 0 0) (List.replicate 256 0) := by
  refine ⟨?_, List.length_replicate⟩
  have h := own_lit w w.heap.size zArr 33 (by rw [zArr_size]; decide) (Nat.le_refl _)
  rw [zArr_list, zArr_size] at h
  exact h
theorem ret_dfa {fn : Func} {tmps : Array Value} {w : World} {ds : List Deferred} {s b g : Nat} {nv rv y : Value} {cl : List Int} {next : List (List Int)} {rules : List Int} {R : Ending → World → Prop} (hf : fn.results = #[.cell s 33, .tmp b]) (ha : tmps.getD s undef = .pointer (some ⟨g, 0, none⟩)) (hb : tmps.getD b undef = y) (hd : ds = [])
    (hB : BoxD w g nv rv cl) (hn : RowsAt w nv next) (hr : IntsAt w rv rules) (h : ∀ v, DfaAt w v ⟨cl, next, rules⟩ → R (.returned (.tuple #[v, y])) w) : bodyPost Try.prog fn R .ret ⟨tmps, ds⟩ w := by
  obtain ⟨A, hg, hs, hA⟩ := hB.open
  have hl := run_loadVar_sub (P := Try.prog) w g 0 258 33 33 A (0, 0) _ hg Try.underlying33 rfl (by kernel_rfl) (by rw [hs]; decide)
  have e : A.extract 0 (0 + 258) = A := by rw [Nat.zero_add, ← hs]; simp
  rw [e] at hl
  refine bodyPost_ret (v := .tuple #[.agg A, y]) ?_ hd (h _ ⟨A, rfl, dfaV_of hA hB.len hn hr⟩)
  rw [results_cell_tmp hf ha hl, hb]
theorem rows_nil (w : World) : RowsAt w (.slice none 0 0) [] := ⟨[], Sl.nil _, rfl, fun i hi => absurd hi (Nat.not_lt_zero i)⟩
end Go.Cm

/- The automaton without choices that an automaton makes, in plain Lean: the classes of bytes, the lists of states, and what they tell. Conditions: none. -/
namespace Go.Cm

/-! the classes -/
/-- the edges that read a byte, in order -/
def flatE (e : List (List Ed)) : List Ed := e.flatten.filter (fun x => !x.free)
def sigB (l : List Ed) (c : Nat) : List Bool := l.map (fun x => hasN x c)
def byts : List Nat := List.range 256
theorem mem_byts {c : Nat} : c ∈ byts ↔ c < 256 := by simp [byts]
theorem byts_len : byts.length = 256 := by simp [byts]
theorem byts_get {c : Nat} (h : c < 256) : byts.getD c 0 = c := by simp [byts, List.getD, h]
def clsAt (l : List Ed) (c : Nat) : Nat := place (sigB l) byts c
def headAt (l : List Ed) : List Nat := pickBy (sigB l) byts
theorem sigB_eq {l : List Ed} {a b : Nat} : sigB l a = sigB l b ↔ ∀ x ∈ l, hasN x a = hasN x b := by
  unfold sigB
  induction l with
  | nil => simp
  | cons y l ih => simp only [List.map_cons, List.cons.injEq, ih, List.mem_cons, forall_eq_or_imp]
theorem headAt_mem {l : List Ed} {c : Nat} (h : c ∈ headAt l) : c < 256 := mem_byts.1 (mem_pickBy h)
theorem headAt_len (l : List Ed) : (headAt l).length ≤ 256 := by
  have := pickBy_len (sigB l) byts
  rw [byts_len] at this
  exact this
theorem clsAt_lt (l : List Ed) {c : Nat} (h : c < 256) : clsAt l c < (headAt l).length := place_lt (mem_byts.2 h)
theorem headAt_pos (l : List Ed) : 0 < (headAt l).length := by
  have := clsAt_lt l (c := 0) (by decide)
  omega
theorem cls_head (l : List Ed) {c : Nat} (h : c < 256) : sigB l ((headAt l).getD (clsAt l c) 0) = sigB l c := by
  unfold clsAt headAt place
  have h1 : sigB l c ∈ (pickBy (sigB l) byts).map (sigB l) := by
    rw [pickBy_map, mem_uniq]; exact List.mem_map_of_mem (mem_byts.2 h)
  generalize pickBy (sigB l) byts = hs at *
  have h2 := idxOf_lt h1
  have h3 := getElem_idx h1
  rw [List.getElem_map] at h3
  rw [List.length_map] at h2
  rw [List.getD_eq_getElem?_getD, List.getElem?_eq_getElem h2, Option.getD_some]
  exact h3
theorem cls_eq (l : List Ed) {a b : Nat} (ha : a < 256) (hb : b < 256) : clsAt l a = clsAt l b ↔ sigB l a = sigB l b := by
  constructor
  · intro h
    rw [← cls_head l ha, ← cls_head l hb, h]
  · intro h
    unfold clsAt place
    rw [h]
theorem cls_nil : (∀ c, c < 256 → clsAt [] c = 0) ∧ (headAt []).length = 1 := by
  have h : headAt [] = [0] := by
    have : ∀ n, pickBy (sigB []) (List.range (n + 1)) = [0] := by
      intro n
      induction n with
      | zero => rfl
      | succ n ih => rw [List.range_succ, pickBy_snoc, ih]; simp [sigB]
    exact this 255
  refine ⟨fun c hc => ?_, by rw [h]; rfl⟩
  have := clsAt_lt [] hc
  rw [h] at this
  simpa using this
/-- the classes, split once more by a set -/
def keyP (l : List Ed) (x : Ed) (c : Nat) : Nat × Bool := (clsAt l c, hasN x c)
theorem cls_step (l : List Ed) (x : Ed) : headAt (l ++ [x]) = pickBy (keyP l x) byts ∧ ∀ c, c < 256 → clsAt (l ++ [x]) c = place (keyP l x) byts c := by
  have h := pickBy_congr (f := sigB (l ++ [x])) (g := keyP l x) (l := byts) (fun a ha b hb => by
    rw [mem_byts] at ha hb
    unfold keyP
    rw [sigB_eq, Prod.mk.injEq, cls_eq l ha hb, sigB_eq]
    simp only [List.mem_append, List.mem_singleton]
    exact ⟨fun h => ⟨fun y hy => h y (.inl hy), h x (.inr rfl)⟩, fun h y hy => hy.elim (h.1 y) (fun e => e ▸ h.2)⟩)
  exact ⟨h.1, fun c hc => h.2 c (mem_byts.2 hc)⟩
/-- a set as a key -/
def keyE (x : Ed) : Int × Int × Int × Int := (x.a, x.b, x.c, x.d)
def setsE (e : List (List Ed)) : List Ed := pickBy keyE (flatE e)
theorem hasN_key {x y : Ed} (h : keyE x = keyE y) (c : Nat) : hasN x c = hasN y c := by
  simp only [keyE, Prod.mk.injEq] at h
  obtain ⟨h1, h2, h3, h4⟩ := h
  unfold hasN
  rw [h1, h2, h3, h4]
theorem sets_cls (e : List (List Ed)) : headAt (setsE e) = headAt (flatE e) ∧ ∀ c, c < 256 → clsAt (setsE e) c = clsAt (flatE e) c := by
  have h := pickBy_congr (f := sigB (setsE e)) (g := sigB (flatE e)) (l := byts) (fun a _ b _ => by
    rw [sigB_eq, sigB_eq]
    constructor
    · intro h x hx
      have : keyE x ∈ (setsE e).map keyE := by unfold setsE; rw [pickBy_map, mem_uniq]; exact List.mem_map_of_mem hx
      obtain ⟨y, hy, hk⟩ := List.mem_map.1 this
      rw [← hasN_key hk, ← hasN_key hk]
      exact h y hy
    · exact fun h x hx => h x (mem_pickBy hx))
  exact ⟨h.1, fun c hc => h.2 c (mem_byts.2 hc)⟩
def clsN (e : List (List Ed)) (c : Nat) : Nat := clsAt (flatE e) c
def headN (e : List (List Ed)) : List Nat := headAt (flatE e)
def clsL (e : List (List Ed)) : List Int := nl (byts.map (clsN e))
theorem clsL_len (e : List (List Ed)) : (clsL e).length = 256 := by simp [clsL, nl, byts]
theorem clsL_get (e : List (List Ed)) {c : Nat} (h : c < 256) : (clsL e).getD c 0 = clsN e c := by
  simp [clsL, nl, byts, List.getD, h]
theorem clsL_from (e : List (List Ed)) : classesFrom 0 (clsL e) = some (headN e).length := by
  have h1 := classesFrom_place (sigB (flatE e)) byts []
  have h0 : (pickBy (sigB (flatE e)) []).length = 0 := rfl
  rw [h0, List.nil_append] at h1
  unfold clsL clsN clsAt headN headAt
  exact h1

/-! the lists of states -/
section
variable {α : Type} [DecidableEq α]
/-- the things that are met, one behind the other -/
def goS (nx : α → List α) (z : α) : Nat → Nat → List α → Option (List α)
  | 0, _, _ => none
  | f + 1, i, ls => if i < ls.length then (if 1000 < ((nx (ls.getD i z)).foldl addNew ls).length then none else goS nx z f (i + 1) ((nx (ls.getD i z)).foldl addNew ls)) else some ls
def stS (nx : α → List α) (s0 : α) (l : List α) : List α := uniq (s0 :: l.flatMap nx)
structure MetS (nx : α → List α) (s0 : α) (l : List α) : Prop where
  more : ∀ j, j < l.length → j < (stS nx s0 (l.take j)).length
  all : stS nx s0 l = l
  len : l.length ≤ 1000
  nod : l.Nodup
theorem stS_snoc (nx : α → List α) (s0 : α) (l : List α) (x : α) : stS nx s0 (l ++ [x]) = (nx x).foldl addNew (stS nx s0 l) := by
  unfold stS
  rw [List.flatMap_append, ← List.cons_append, uniq_append]
  simp
theorem goS_met (nx : α → List α) (z s0 : α) : ∀ f i ls R, goS nx z f i ls = some R → i ≤ ls.length → stS nx s0 (ls.take i) = ls → (∀ j, j < i → j < (stS nx s0 (ls.take j)).length) → ls.length ≤ 1000 → MetS nx s0 R ∧ ∃ k, R = ls ++ k := by
  intro f
  induction f with
  | zero => intro i ls R h; cases h
  | succ f ih =>
    intro i ls R h hi hall hmore hlen
    unfold goS at h
    by_cases hlt : i < ls.length
    · rw [if_pos hlt] at h
      split at h
      · cases h
      · rename_i h1
        obtain ⟨k, hk⟩ := foldl_addNew_prefix (nx (ls.getD i z)) ls
        have hg : ls.getD i z = ls[i] := by simp [List.getD, hlt]
        have htk : ∀ j, j ≤ ls.length → (((nx (ls.getD i z)).foldl addNew ls).take j) = ls.take j := fun j hj => by
          rw [hk, List.take_append_of_le_length hj]
        obtain ⟨h2, k2, h3⟩ := ih (i + 1) _ R h (by rw [hk, List.length_append]; omega) (by
          rw [htk _ hlt, List.take_succ_eq_append_getElem hlt, stS_snoc, hall, ← hg]) (fun j hj => by
          rw [htk j (by omega)]
          rcases Nat.lt_succ_iff_lt_or_eq.1 hj with h | rfl
          · exact hmore j h
          · rw [hall]; exact hlt) (by omega)
        exact ⟨h2, k ++ k2, by rw [h3, hk, List.append_assoc]⟩
    · rw [if_neg hlt] at h
      obtain rfl : ls = R := by injection h
      have hi' : i = ls.length := by omega
      subst hi'
      rw [List.take_length] at hall
      refine ⟨⟨hmore, hall, hlen, ?_⟩, [], by simp⟩
      rw [← hall]
      exact uniq_nodup _
theorem MetS.mem {nx : α → List α} {s0 : α} {R : List α} (h : MetS nx s0 R) {L x : α} (hL : L ∈ R) (hx : x ∈ nx L) : x ∈ R := by
  rw [← h.all]
  unfold stS
  rw [mem_uniq]
  exact List.mem_cons_of_mem _ (List.mem_flatMap.2 ⟨L, hL, hx⟩)
theorem MetS.zero {nx : α → List α} {s0 : α} {R : List α} (h : MetS nx s0 R) (z : α) : R.getD 0 z = s0 ∧ 0 < R.length := by
  have : ∃ k, stS nx s0 R = [s0] ++ k := uniq_prefix [s0] _
  obtain ⟨k, hk⟩ := this
  rw [h.all] at hk
  rw [hk]
  exact ⟨rfl, by simp⟩
theorem MetS.pre {nx : α → List α} {s0 : α} {R : List α} (h : MetS nx s0 R) (i : Nat) : ∃ k, R = stS nx s0 (R.take i) ++ k := by
  have h1 := uniq_prefix (s0 :: (R.take i).flatMap nx) ((R.drop i).flatMap nx)
  rw [List.cons_append, ← List.flatMap_append, List.take_append_drop] at h1
  obtain ⟨k, hk⟩ := h1
  exact ⟨k, by rw [← h.all]; exact hk.trans (by rw [h.all]; rfl)⟩
end
end Go.Cm

/- The automaton without choices, in plain Lean: it is right, it tells the least rule, and each state is reached. Conditions: as each says. -/
namespace Go.Cm

section
variable {α : Type} [DecidableEq α]
/-- what has been met when j things of row i have been looked at -/
def curS (nx : α → List α) (s0 z : α) (R : List α) (i j : Nat) : List α := ((nx (R.getD i z)).take j).foldl addNew (stS nx s0 (R.take i))
theorem MetS.cur {nx : α → List α} {s0 z : α} {R : List α} (h : MetS nx s0 R) {i : Nat} (hi : i < R.length) (j : Nat) : ∃ k, R = curS nx s0 z R i j ++ k := by
  obtain ⟨k2, h2⟩ := h.pre (i + 1)
  have e : R.take (i + 1) = R.take i ++ [R.getD i z] := by rw [List.take_succ_eq_append_getElem hi]; simp [List.getD, hi]
  rw [e, stS_snoc] at h2
  have h3 : (nx (R.getD i z)).foldl addNew (stS nx s0 (R.take i)) = ((nx (R.getD i z)).drop j).foldl addNew (curS nx s0 z R i j) := by
    unfold curS; rw [← List.foldl_append, List.take_append_drop]
  obtain ⟨k1, h4⟩ := foldl_addNew_prefix ((nx (R.getD i z)).drop j) (curS nx s0 z R i j)
  exact ⟨k1 ++ k2, h2.trans (by rw [h3, h4, List.append_assoc])⟩
theorem MetS.step {nx : α → List α} {s0 z : α} {R : List α} (h : MetS nx s0 R) {i : Nat} (hi : i < R.length) {j : Nat} (hj : j < (nx (R.getD i z)).length) :
    ((nx (R.getD i z)).getD j z ∈ curS nx s0 z R i j → idx R ((nx (R.getD i z)).getD j z) < (curS nx s0 z R i j).length ∧ (curS nx s0 z R i (j + 1)).length = (curS nx s0 z R i j).length) ∧
    ((nx (R.getD i z)).getD j z ∉ curS nx s0 z R i j → idx R ((nx (R.getD i z)).getD j z) = (curS nx s0 z R i j).length ∧ (curS nx s0 z R i (j + 1)).length = (curS nx s0 z R i j).length + 1) := by
  have e : curS nx s0 z R i (j + 1) = addNew (curS nx s0 z R i j) ((nx (R.getD i z)).getD j z) := by
    unfold curS
    generalize nx (R.getD i z) = l at hj ⊢
    rw [List.take_succ_eq_append_getElem hj, List.foldl_append]
    simp [List.getD, hj]
  obtain ⟨k, hk⟩ := h.cur (z := z) hi j
  obtain ⟨k', hk'⟩ := h.cur (z := z) hi (j + 1)
  generalize (nx (R.getD i z)).getD j z = x at *
  generalize curS nx s0 z R i j = c at *
  generalize curS nx s0 z R i (j + 1) = c' at *
  subst e
  constructor
  · intro hx
    refine ⟨?_, by unfold addNew; rw [if_pos hx]⟩
    rw [hk, idxOf_append_left hx]
    exact idxOf_lt hx
  · intro hx
    have e2 : addNew c x = c ++ [x] := by unfold addNew; rw [if_neg hx]
    rw [e2] at hk' ⊢
    refine ⟨?_, by simp⟩
    rw [hk', idxOf_append_left (by simp), idxOf_append_new hx]
theorem MetS.zeroCur {nx : α → List α} {s0 z : α} {R : List α} (i : Nat) : curS nx s0 z R i 0 = stS nx s0 (R.take i) := rfl
theorem MetS.endCur {nx : α → List α} {s0 z : α} {R : List α} {i : Nat} (hi : i < R.length) : curS nx s0 z R i (nx (R.getD i z)).length = stS nx s0 (R.take (i + 1)) := by
  have e : R.take (i + 1) = R.take i ++ [R.getD i z] := by rw [List.take_succ_eq_append_getElem hi]; simp [List.getD, hi]
  rw [e, stS_snoc]
  unfold curS
  rw [List.take_length]
end

def zeroD : Dfa := ⟨List.replicate 256 0, [], []⟩
noncomputable def nxtN (e : List (List Ed)) (F : Int) (r : List Int) (L : List Nat) : List (List Nat) := (headN e).map fun c => stepG e F r (nz L) c
noncomputable def listsN (e : List (List Ed)) (F : Int) (r : List Int) : Option (List (List Nat)) := goS (nxtN e F r) [] 1001 0 [cloN e F r [F]]
def lessI (r : List Int) (o : Int) (s : Nat) : Int := if 0 ≤ r.getD s 0 ∧ (o < 0 ∨ r.getD s 0 < o) then r.getD s 0 else o
def leastI (r : List Int) (L : List Nat) : Int := L.foldl (lessI r) (-1)
noncomputable def rowS (e : List (List Ed)) (F : Int) (r : List Int) (R : List (List Nat)) (L : List Nat) : List Int := (nxtN e F r L).map fun x => (idx R x : Int)
noncomputable def dfaS (e : List (List Ed)) (F : Int) (r : List Int) (R : List (List Nat)) : Dfa := ⟨clsL e, R.map (rowS e F r R), R.map (leastI r)⟩
noncomputable def subI (e : List (List Ed)) (F : Int) (r : List Int) : Dfa := if rightN e F r then (match listsN e F r with | some R => dfaS e F r R | none => zeroD) else zeroD
noncomputable def subE (e : List (List Ed)) (F : Int) (r : List Int) : Int := if rightN e F r then (match listsN e F r with | some _ => 0 | none => 3) else 4
theorem nxtN_len (e : List (List Ed)) (F : Int) (r : List Int) (L : List Nat) : (nxtN e F r L).length = (headN e).length := by simp [nxtN]
theorem lists_met {e : List (List Ed)} {F : Int} {r : List Int} {R : List (List Nat)} (h : listsN e F r = some R) : MetS (nxtN e F r) (cloN e F r [F]) R := by
  refine (goS_met (nxtN e F r) [] (cloN e F r [F]) 1001 0 [cloN e F r [F]] R h (Nat.zero_le _) ?_ (fun j hj => absurd hj (Nat.not_lt_zero j)) (by simp)).1
  rfl
theorem least_range {r : List Int} (h : ∀ s, -1 ≤ r.getD s 0 ∧ r.getD s 0 < 32) (L : List Nat) : ∀ o : Int, -1 ≤ o → o < 32 → -1 ≤ L.foldl (lessI r) o ∧ L.foldl (lessI r) o < 32 := by
  induction L with
  | nil => intro o h1 h2; exact ⟨h1, h2⟩
  | cons s L ih =>
    intro o h1 h2
    have := h s
    rw [List.foldl_cons]
    refine ih _ ?_ ?_ <;> (unfold lessI; split <;> omega)
theorem least_spec {r : List Int} (L : List Nat) : (leastI r L = -1 ∧ ∀ s ∈ L, r.getD s 0 < 0) ∨ (0 ≤ leastI r L ∧ (∃ s ∈ L, r.getD s 0 = leastI r L) ∧ ∀ s ∈ L, 0 ≤ r.getD s 0 → leastI r L ≤ r.getD s 0) := by
  unfold leastI
  induction L using list_snoc_ind with
  | h0 => exact .inl ⟨rfl, fun s hs => by cases hs⟩
  | h L s ih =>
    rw [List.foldl_append, List.foldl_cons, List.foldl_nil]
    generalize L.foldl (lessI r) (-1) = o at *
    unfold lessI
    rcases ih with ⟨h1, h2⟩ | ⟨h1, ⟨q, hq, hq2⟩, h3⟩
    · by_cases h0 : 0 ≤ r.getD s 0
      · rw [if_pos ⟨h0, .inl (by omega)⟩]
        refine .inr ⟨h0, ⟨s, by simp, rfl⟩, fun x hx hx0 => ?_⟩
        rcases List.mem_append.1 hx with hx | hx
        · have := h2 x hx; omega
        · rw [List.mem_singleton.1 hx]; exact Int.le_refl _
      · rw [if_neg (fun h => h0 h.1)]
        refine .inl ⟨h1, fun x hx => ?_⟩
        rcases List.mem_append.1 hx with hx | hx
        · exact h2 x hx
        · rw [List.mem_singleton.1 hx]; omega
    · by_cases h0 : 0 ≤ r.getD s 0 ∧ (o < 0 ∨ r.getD s 0 < o)
      · rw [if_pos h0]
        refine .inr ⟨h0.1, ⟨s, by simp, rfl⟩, fun x hx hx0 => ?_⟩
        rcases List.mem_append.1 hx with hx | hx
        · have := h3 x hx hx0; omega
        · rw [List.mem_singleton.1 hx]; exact Int.le_refl _
      · rw [if_neg h0]
        refine .inr ⟨h1, ⟨q, by simp [hq], hq2⟩, fun x hx hx0 => ?_⟩
        rcases List.mem_append.1 hx with hx | hx
        · exact h3 x hx hx0
        · rw [List.mem_singleton.1 hx] at hx0 ⊢; omega
theorem setL_head (n : Nat) (P : Nat → Prop) : (setL n P = [] ∧ ∀ k, k < n → ¬ P k) ∨ ∃ k tl, setL n P = k :: tl ∧ k < n ∧ P k ∧ ∀ j, j < k → ¬ P j := by
  cases h : setL n P with
  | nil => exact .inl ⟨rfl, fun k hk hp => by have : k ∈ setL n P := mem_setL.2 ⟨hk, hp⟩; rw [h] at this; cases this⟩
  | cons k tl =>
    have hk : k ∈ setL n P := by rw [h]; simp
    obtain ⟨h1, h2⟩ := mem_setL.1 hk
    refine .inr ⟨k, tl, rfl, h1, h2, fun j hj hp => ?_⟩
    have hjm : j ∈ setL n P := mem_setL.2 ⟨by omega, hp⟩
    have hs := setL_asc n P
    rw [h] at hs hjm
    rcases List.mem_cons.1 hjm with e | hm
    · omega
    · have := (List.pairwise_cons.1 hs).1 j hm; omega
theorem right_rules {e : List (List Ed)} {F : Int} {r : List Int} (h : rightN e F r = true) : r.length = e.length ∧ ∀ s, -1 ≤ r.getD s 0 ∧ r.getD s 0 < 32 := by
  obtain ⟨h1, h2⟩ := rightN_iff.1 h
  have h3 := of_decide_eq_true h1
  refine ⟨h3.2.2.1, fun s => ?_⟩
  by_cases hs : s < e.length
  · exact (row_iff.1 (h2 s hs)).1
  · have : r.getD s 0 = 0 := by rw [List.getD_eq_getElem?_getD, List.getElem?_eq_none (by omega)]; rfl
    omega
theorem dfaS_valid {e : List (List Ed)} {F : Int} {r : List Int} {R : List (List Nat)} (hr : rightN e F r = true) (h : listsN e F r = some R) : Valid (dfaS e F r R) := by
  have hm := lists_met h
  have h0 := (hm.zero []).2
  refine ⟨by simp [dfaS]; omega, by simpa [dfaS] using hm.len, by simp [dfaS], (headN e).length, clsL_from e, fun i hi => ?_⟩
  have hi' : i < R.length := by simpa [dfaS] using hi
  have e1 : (dfaS e F r R).rules.getD i 0 = leastI r R[i] := by simp [dfaS, List.getD, hi']
  have e2 : (dfaS e F r R).next.getD i [] = rowS e F r R R[i] := by simp [dfaS, List.getD, hi']
  have e3 : (dfaS e F r R).next.length = R.length := by simp [dfaS]
  rw [e1, e2, e3]
  have hl := least_range (right_rules hr).2 R[i] (-1) (by omega) (by omega)
  refine ⟨hl.1, hl.2, by simp [rowS, nxtN_len], fun j hj => ?_⟩
  have hj' : j < (nxtN e F r R[i]).length := by simpa [rowS] using hj
  have e4 : (rowS e F r R R[i]).getD j 0 = (idx R ((nxtN e F r R[i])[j]) : Int) := by simp [rowS, List.getD, hj']
  rw [e4]
  have := idxOf_lt (hm.mem (List.getElem_mem hi') (List.getElem_mem hj'))
  omega
end Go.Cm

/- After any text the automaton without choices tells the least rule that the one with choices tells, in plain Lean. Conditions: as each says. -/
namespace Go.Cm

theorem flat_mem {e : List (List Ed)} {a : Nat} {x : Ed} (h : x ∈ e.getD a []) (hf : x.free = false) : x ∈ flatE e := by
  unfold flatE
  rw [List.mem_filter, List.mem_flatten]
  refine ⟨?_, by simp [hf]⟩
  by_cases ha : a < e.length
  · rw [show e.getD a [] = e[a] by simp [List.getD, ha]] at h
    exact ⟨_, List.getElem_mem ha, h⟩
  · rw [List.getD_eq_getElem?_getD, List.getElem?_eq_none (by omega)] at h
    cases h
theorem by_alike {e : List (List Ed)} {S : Nat → Prop} {c c' : Nat} (h : sigB (flatE e) c = sigB (flatE e) c') : By e S c = By e S c' := by
  rw [sigB_eq] at h
  funext b
  refine propext ⟨?_, ?_⟩
  · rintro ⟨a, ha, x, hx, hf, hh, ht⟩
    exact ⟨a, ha, x, hx, hf, by rw [← h x (flat_mem hx hf)]; exact hh, ht⟩
  · rintro ⟨a, ha, x, hx, hf, hh, ht⟩
    exact ⟨a, ha, x, hx, hf, by rw [h x (flat_mem hx hf)]; exact hh, ht⟩
theorem stepN_alike {e : List (List Ed)} {st : List Int} {c c' : Nat} (h : sigB (flatE e) c = sigB (flatE e) c') : stepN e st c = stepN e st c' := by
  unfold stepN; rw [by_alike h]
theorem idx_get {R : List (List Nat)} {x : List Nat} (h : x ∈ R) : R.getD (idx R x) [] = x := by
  have h1 := idxOf_lt h
  rw [List.getD_eq_getElem?_getD, List.getElem?_eq_getElem h1, Option.getD_some]
  exact getElem_idx h
theorem dfaS_step {e : List (List Ed)} {F : Int} {r : List Int} {R : List (List Nat)} (hr : rightN e F r = true) (h : listsN e F r = some R) {a : Nat} (ha : a < R.length) {c : Nat} (hc : c < 256) :
    ((dfaS e F r R).next.getD a []).getD ((dfaS e F r R).cls.getD c 0).toNat 0 = (idx R (stepN e (nz (R.getD a [])) c) : Int) ∧ stepN e (nz (R.getD a [])) c ∈ R := by
  have hm := lists_met h
  have e1 : (dfaS e F r R).cls.getD c 0 = clsN e c := clsL_get e hc
  have e2 : (dfaS e F r R).next.getD a [] = rowS e F r R (R.getD a []) := by simp [dfaS, List.getD, ha]
  have hk : clsN e c < (headN e).length := clsAt_lt (flatE e) hc
  have e3 : (nxtN e F r (R.getD a [])).getD (clsN e c) [] = stepN e (nz (R.getD a [])) c := by
    have h1 := cls_head (flatE e) hc
    have h2 : (nxtN e F r (R.getD a [])).getD (clsN e c) [] = stepG e F r (nz (R.getD a [])) ((headN e).getD (clsN e c) 0) := by
      unfold nxtN
      simp [List.getD, hk]
    rw [h2]
    unfold stepG
    rw [if_pos hr]
    exact stepN_alike h1
  have hj : clsN e c < (nxtN e F r (R.getD a [])).length := by rw [nxtN_len]; exact hk
  have hmem : stepN e (nz (R.getD a [])) c ∈ R := by
    rw [← e3]
    exact hm.mem (L := R.getD a []) (by simp [List.getD, ha]) (getD_mem _ _ _ hj)
  refine ⟨?_, hmem⟩
  rw [e1, e2, Int.toNat_natCast, ← e3]
  unfold rowS
  generalize nxtN e F r (R.getD a []) = l at hj ⊢
  simp [List.getD, hj]
theorem run_lists {e : List (List Ed)} {F : Int} {r : List Int} {R : List (List Nat)} (hr : rightN e F r = true) (h : listsN e F r = some R) : ∀ (bs : List UInt8) (cs : List Nat) (a : Nat), a < R.length → R.getD a [] = setL e.length (After e F.toNat cs) →
    ∃ b : Nat, runFrom (dfaS e F r R) a bs = b ∧ b < R.length ∧ R.getD b [] = setL e.length (After e F.toNat ((bs.map UInt8.toNat).reverse ++ cs)) := by
  intro bs
  induction bs with
  | nil => intro cs a ha hs; exact ⟨a, rfl, ha, by simpa using hs⟩
  | cons c bs ih =>
    intro cs a ha hs
    obtain ⟨h1, h2⟩ := dfaS_step hr h ha (c := c.toNat) (UInt8.toNat_lt c)
    have h3 : R.getD (idx R (stepN e (nz (R.getD a [])) c.toNat)) [] = setL e.length (After e F.toNat (c.toNat :: cs)) := by
      rw [idx_get h2, hs, step_after]
    obtain ⟨b, hb1, hb2, hb3⟩ := ih (c.toNat :: cs) _ (idxOf_lt h2) h3
    refine ⟨b, ?_, hb2, by rw [hb3]; simp⟩
    unfold runFrom
    rw [Int.toNat_natCast, h1]
    exact hb1
def headI (l : List Nat) : Int := match l with | [] => -1 | k :: _ => k
theorem after_told {e : List (List Ed)} {F : Int} {r : List Int} {R : List (List Nat)} (hr : rightN e F r = true) (h : listsN e F r = some R) (bs : List UInt8) : afterI (dfaS e F r R) bs = headI (runN e F r (bs.map UInt8.toNat)) := by
  have hm := lists_met h
  obtain ⟨z0, z1⟩ := hm.zero []
  obtain ⟨b, hb1, hb2, hb3⟩ := run_lists hr h bs [] 0 z1 (by rw [z0]; exact clo_after hr)
  rw [List.append_nil] at hb3
  unfold afterI
  rw [if_pos (dfaS_valid hr h), show (0 : Int) = ((0 : Nat) : Int) from rfl, hb1, Int.toNat_natCast]
  have e1 : (dfaS e F r R).rules.getD b ((0 : Nat) : Int) = leastI r (R.getD b []) := by simp [dfaS, List.getD, hb2]
  rw [e1]
  unfold runN
  rw [if_pos hr]
  have ht := fun k => told_iff (e := e) (F := F) (r := r) (t := bs.map UInt8.toNat) (R.getD b []) hb3 k
  have hrr := (right_rules hr).2
  generalize R.getD b [] = L at *
  have hq : ∀ k : Nat, Told e F r (bs.map UInt8.toNat) k ↔ ∃ s ∈ L, r.getD s 0 = k := fun k => by
    rw [ht k]
    constructor
    · rintro ⟨q, hq, h⟩; exact ⟨L.getD q 0, by simp [List.getD, hq], h⟩
    · rintro ⟨s, hs, h⟩
      obtain ⟨q, hq, rfl⟩ := List.getElem_of_mem hs
      exact ⟨q, hq, by rw [show L.getD q 0 = L[q] by simp [List.getD, hq]]; exact h⟩
  rcases setL_head 32 (Told e F r (bs.map UInt8.toNat)) with ⟨h1, h2⟩ | ⟨k, tl, h1, h2, h3, h4⟩
  · rw [h1]
    rcases least_spec (r := r) L with ⟨h5, -⟩ | ⟨h5, ⟨s, hs, h6⟩, -⟩
    · exact h5
    · have := hrr s
      exact absurd ((hq (r.getD s 0).toNat).2 ⟨s, hs, by omega⟩) (h2 _ (by omega))
  · rw [h1]
    show leastI r L = (k : Int)
    obtain ⟨s, hs, h6⟩ := (hq k).1 h3
    rcases least_spec (r := r) L with ⟨-, h5⟩ | ⟨h5, ⟨s', hs', h7⟩, h8⟩
    · have := h5 s hs; omega
    · have h9 := h8 s hs (by omega)
      rcases Int.lt_or_eq_of_le h9 with hlt | heq
      · exact absurd ((hq (leastI r L).toNat).2 ⟨s', hs', by omega⟩) (h4 _ (by omega))
      · rw [heq, h6]
end Go.Cm

/- A list of states as a text that no other list has: plain, and the walk of text. Conditions: the numbers take two bytes. -/
namespace Go.Cm
open Go.RowKit Go.Proofs

def byteOf (n : Int) : UInt8 := UInt8.ofNat (n % 256).toNat
theorem byteOf_val (n : Int) : ((byteOf n).toNat : Int) = n % 256 := by
  have h2 : (n % 256).toNat < 256 := by omega
  simp [byteOf]; omega
def enc2 (n : Nat) : List UInt8 := [byteOf n, byteOf (n / 256)]
theorem enc2_inj {a b : Nat} (ha : a < 65536) (hb : b < 65536) (h : enc2 a = enc2 b) : a = b := by
  simp only [enc2, List.cons.injEq, and_true] at h
  have h1 := congrArg (fun x : UInt8 => (x.toNat : Int)) h.1
  have h2 := congrArg (fun x : UInt8 => (x.toNat : Int)) h.2
  simp only [byteOf_val] at h1 h2
  omega
def textL (l : List Nat) : List UInt8 := l.flatMap enc2
theorem textL_len (l : List Nat) : (textL l).length = 2 * l.length := by
  induction l with
  | nil => rfl
  | cons a l ih => simp only [textL, List.flatMap_cons, List.length_append, List.length_cons] at ih ⊢; rw [ih]; simp [enc2]; omega
theorem textL_inj : ∀ {l m : List Nat}, (∀ x ∈ l, x < 65536) → (∀ x ∈ m, x < 65536) → textL l = textL m → l = m
  | [], [], _, _, _ => rfl
  | [], b :: m, _, _, h => by have := congrArg List.length h; simp [textL_len] at this
  | a :: l, [], _, _, h => by have := congrArg List.length h; simp [textL_len] at this
  | a :: l, b :: m, ha, hb, h => by
    simp only [textL, List.flatMap_cons] at h
    obtain ⟨h1, h2⟩ := List.append_inj h (by simp [enc2])
    rw [enc2_inj (ha a (by simp)) (hb b (by simp)) h1, textL_inj (fun x hx => ha x (by simp [hx])) (fun x hx => hb x (by simp [hx])) h2]
theorem bytesV_enc2 (n : Nat) : bytesV (enc2 n) = [.int .u8 ((n : Int) % 256), .int .u8 ((n : Int) / 256 % 256)] := by simp [bytesV, enc2, byteOf_val]
set_option maxRecDepth 100000 in
theorem textP {w : World} {v : Value} {l : List Nat} (h : IntsAt w v (nz l)) (hl : l.length ≤ 100000) :
    Calls Try.prog 42 #[v] w fun e w' => e = .returned (.string ⟨(textL l).toArray⟩) ∧ ∃ x, w' = ext w x := by
  obtain ⟨oa, cap, b, off, rfl, hd, hc⟩ := h.open
  rw [nz_length] at hd hc ⊢
  have hix := fun (W : World) (i : Nat) (hi : i < l.length) => index_any (P := Try.prog) 23 3 Try.underlying23 (by kernel_rfl) hd W .i64 i (by omega) (by omega)
  simp only [Int.toNat_natCast] at hix
  have hb := hd.hblk
  have HC := Lib.hid hc
  obtain ⟨n, hn⟩ : ∃ n, n = l.length := ⟨_, rfl⟩
  have HN := Lib.hid hn
  rw [← hn] at hix hb HC hl ⊢
  clear hd hc h hn
  go_enter Try.func42, Try.ntmps42
  go_wp2
  go_loopg [3, 8] n (fun gk vb iv wr => ∃ k : Nat, iv = .int .i64 k ∧ k ≤ n ∧ Own wr w.heap.size 5 vb (bytesV (textL (l.take k))) ∧ Below w.heap.size w wr ∧ gk = n - k)
  case atStart => exact ⟨0, rfl, Nat.zero_le _, Own.nil _ _ _, Below.refl _ _, rfl⟩
  case round =>
    obtain ⟨k, rfl, hk, hown, hbel, rfl⟩ := hrel
    have HO := Lib.hid hown
    have HB := Lib.hid hbel
    clear hown hbel
    by_cases hlt : k < n
    · have hcell := HC.out k hlt
      rw [nz_getD _ _ (by rw [← HN.out]; exact hlt)] at hcell
      have hb1 := hb (by omega)
      have hcw := (HB.out.cell (p := ⟨b, off + k, none⟩) hb1).trans hcell
      have hbw : b < wr.heap.size := by have := HB.out.size; omega
      have hixk := fun W => hix W k hlt
      have HT : Hid (bytesV (textL (l.take (k + 1))) = bytesV (textL (l.take k)) ++ bytesV (enc2 (l.getD k 0))) := Lib.hid (by
        rw [← bytesV_append, take_succ_getD l k 0 (by rw [← HN.out]; exact hlt)]
        simp [textL])
      have HLE : Hid ((bytesV (textL (l.take k))).length ≤ 200000) := Lib.hid (by rw [bytesV_length, textL_len, List.length_take]; omega)
      generalize l.getD k 0 = y at *
      generalize bytesV (textL (l.take k)) = bs at *
      have hlW := Lib.hid (below_alloc wr (.cells #[.int .u8 ((y : Int) % 256), .int .u8 ((y : Int) / 256 % 256)] 5))
      have HX : Hid (Sl (wr.alloc (.cells #[.int .u8 ((y : Int) % 256), .int .u8 ((y : Int) / 256 % 256)] 5)) (.slice (some ⟨wr.heap.size, 0, none⟩) 2 2) (bytesV (enc2 y))) := Lib.hid (by rw [bytesV_enc2]; simpa using sl_lit wr #[.int .u8 ((y : Int) % 256), .int .u8 ((y : Int) / 256 % 256)] 5 (by simp))
      have HT1 := Lib.hid (HO.out.up hlW.out)
      have HT3 : Hid (bs.length + (bytesV (enc2 y)).length ≤ 4294967296) := Lib.hid (by have := HLE.out; rw [bytesV_enc2]; simp; omega)
      have HT4 : Hid (w.heap.size ≤ (wr.alloc (.cells #[.int .u8 ((y : Int) % 256), .int .u8 ((y : Int) / 256 % 256)] 5)).heap.size) := Lib.hid (Nat.le_trans HB.out.size hlW.out.size)
      clear hcell
      go_wp2_with (at_builtin; refine wpList_app rfl (.tmp 12) (.tmp 18) 62 rfl w.heap.size 5 (.int .u8 0) 1 Try.underlying62 (by kernel_rfl) rfl (by decide) u3 bs rfl HT1.out (.slice (some ⟨wr.heap.size, 0, none⟩) 2 2) (bytesV (enc2 y)) rfl HX.out (bytesV_one _) HT3.out HT4.out ?_; intro v' w5 hown1 hg1 hk1; have HO5 := Lib.hid hown1; have HG1 := Lib.hid hg1; clear hown1 hg1 hk1; have HB5 := Lib.hid (below_grown (HB.out.trans (hlW.out.mono HB.out.size)) HT4.out HT1.out HG1.out))
      go_roundg (n - (k + 1))
      case measure => omega
      case rel => exact ⟨k + 1, by go_num, by omega, by rw [HT.out]; exact HO5.out, HB5.out, rfl⟩
    · have hke : k = n := by omega
      subst hke
      have hcv := run_bytes_string (P := Try.prog) wr 62 9 5 Try.underlying62 Try.underlying5 Try.underlying9 u3 _ HO.out.sl
      rw [HN.out, List.take_length] at hcv
      go_wp2
      go_ret
      exact ⟨rfl, ex_ext HB.out⟩
end Go.Cm
